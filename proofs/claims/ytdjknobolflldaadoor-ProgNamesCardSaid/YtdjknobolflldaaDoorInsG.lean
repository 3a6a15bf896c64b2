/- Package prog: rising; what the select of the law reads and writes. -/
import Derived.Test.YtdjknobolflldaaDoorInsF
namespace Go.Proofs.YtdjknobolflldaaDoor
open Go.RowKit Go.Sort

theorem holds_own {w : World} {B g cap : Nat} {zs : List Int} (h : w.ownsRow B 3 1 (.slice (some ⟨g, 0, none⟩) zs.length cap) zs.length (zs.map (Value.int .i64))) :
    Holds (Value.int .i64) w g 0 zs.toArray ∧ g < w.heap.size ∧ B ≤ g ∧ zs.length ≤ cap := by
  obtain ⟨_, h2⟩ := h
  rcases h2 with ⟨h2, _⟩ | ⟨g', cap', cur, hv, hg, hh, hn, hm, hs, ht⟩
  · cases h2
  · simp only [Value.slice.injEq, Option.some.injEq, Addr.mk.injEq] at hv
    obtain ⟨⟨rfl, _⟩, _, rfl⟩ := hv
    refine ⟨fun j hj => ?_, (Array.getElem?_eq_some_iff.1 hh).1, hg, hn⟩
    have hj' : j < zs.length := by simpa using hj
    refine ⟨?_, by simp [World.frozen?, hh]⟩
    have h1 : cur.toList[j]? = some (Value.int .i64 zs[j]) := by
      have : (cur.toList.take (zs.length * 1))[j]? = some (Value.int .i64 zs[j]) := by rw [ht]; simp [hj']
      rw [List.getElem?_take] at this
      split at this
      · exact this
      · cases this
    simp only [World.cell?, hh, Nat.zero_add]
    simp only [Option.isSome_none, Bool.false_eq_true, if_false]
    rw [← Array.getElem?_toList, h1]
    simp [hj']

set_option maxRecDepth 100000 in
set_option maxHeartbeats 400000 in
theorem rising_own (zs : List Int) (g cap B : Nat) (w : World) (hsz : zs.length ≤ 1000)
    (h : w.ownsRow B 3 1 (.slice (some ⟨g, 0, none⟩) zs.length cap) zs.length (zs.map (Value.int .i64))) :
    Calls Tryd.prog 42 #[.slice (some ⟨g, 0, none⟩) zs.length cap] w fun e w' =>
      (∃ c, e = .returned (.slice (some ⟨g, 0, none⟩) (Lib.compact (zs.mergeSort fun x y => decide (x ≤ y))).length c)) ∧ g < w'.heap.size ∧ Holds (Value.int .i64) w' g 0 (Lib.compact (zs.mergeSort fun x y => decide (x ≤ y)) ++ List.replicate (zs.length - (Lib.compact (zs.mergeSort fun x y => decide (x ≤ y))).length) 0).toArray ∧ Below B w w' := by
  obtain ⟨hH, hg, hB, hcap⟩ := holds_own h
  clear h
  have HH := hid hH
  clear hH
  obtain ⟨ss, hss⟩ : ∃ ss, (zs.mergeSort fun x y => decide (x ≤ y)) = ss := ⟨_, rfl⟩
  have hlen : ss.length = zs.length := by rw [← hss]; exact List.length_mergeSort _
  have Hss := hid hss
  have Hlen := hid hlen
  rw [hss]
  clear hss hlen
  go_enter Tryd.func42, Tryd.ntmps42
  go_wp2_with fail
  refine (Tryd.slices_Sort_int g 0 cap zs w HH.out hg (by omega)).mono ?_
  rintro e w1 ⟨rfl, n, os, hw1⟩
  rw [Hss.out] at hw1
  have hgs : g < w1.heap.size := by rw [hw1]; simp [grow, putRow, mapBlock, Sort.ahead]; omega
  have h1 : Holds (Value.int .i64) w1 g 0 ss.toArray := by
    rw [hw1]
    refine holds_grow _ _ _ _ _ _ (by simp [putRow, mapBlock, Sort.ahead]; omega) ?_
    exact holds_putRow _ _ _ _ zs.toArray _ (holds_ahead _ _ _ _ _ _ HH.out) (by simp [Hlen.out])
  have b1 : Below B w w1 := by
    rw [hw1]
    have hb := Go.Lib.below_putRow (enc := Value.int .i64) (q := n) (d := ss.toArray) (Below.refl B w) hB
    exact hb.trans (Go.Lib.below_grow B _ (Nat.le_trans hB (by simp [putRow, mapBlock, Sort.ahead]; omega)) 0 os)
  clear hw1
  have H1 := hid h1
  clear h1
  go_wp2_with fail
  rw [← Hlen.out]
  refine (Tryd.slices_Compact_int g 0 cap ss w1 H1.out (by rw [Hlen.out]; omega) (by rw [Hlen.out]; exact hcap)).mono ?_
  rintro e w2 ⟨rfl, q, hw2⟩
  have hl2 : (Lib.compact ss).length ≤ ss.length := by
    exact Lib.compact_length_le ss
  have h2 : Holds (Value.int .i64) w2 g 0 (Lib.compact ss ++ List.replicate (ss.length - (Lib.compact ss).length) 0).toArray := by
    rw [hw2]
    exact holds_putRow _ _ _ _ ss.toArray _ (holds_ahead _ _ _ _ _ _ H1.out) (by simp; omega)
  have hg2 : g < w2.heap.size := by rw [hw2]; simp [putRow, mapBlock, Sort.ahead]; omega
  have b2 : Below B w w2 := by rw [hw2]; exact Go.Lib.below_putRow b1 hB
  clear hw2
  have H2 := hid h2
  clear h2
  go_wp2_with fail
  go_ret
  exact ⟨⟨cap, rfl⟩, hg2, by rw [← Hlen.out]; exact H2.out, b2⟩

theorem cell_one_at {w : World} {n : Nat} {x : Value} {t : TypeId} (hn : n = w.heap.size) : ∀ (j : Nat) (u : Value), [x][j]? = some u → (w.alloc (.cells #[x] t)).cell? ((⟨n, 0, none⟩ : Addr).add j) = some u := by
  subst hn; exact cell_one_new _ _ _
theorem info_int : (Tryd.prog.info? 3).map (fun i => (i.zero, i.size, i.bytes)) = some (some (.int .i64 0), 1, 8) := by kernel_rfl
/-- The law's own select: cases (receive, 4), (send, 5, 6). -/
def selIns : Ins := ⟨15, 1, 2, 3, [⟨false, 4, 0⟩, ⟨true, 5, 6⟩], true⟩
def SelAt (w : World) (bc : Nat) : Prop := ∀ j x, [Value.bool false, .int .i64 4, .int .i64 0, .bool true, .int .i64 5, .int .i64 6][j]? = some x → w.cell? ⟨bc, j, none⟩ = some x
theorem SelAt.rd {w : World} {bc : Nat} (h : SelAt w bc) (hlt : bc < w.heap.size) : Rd w (.slice (some ⟨bc, 0, none⟩) 2 2) selIns.cases.length 3 (fun k => (selIns.cases.getD k noCase).cells) :=
  .inr ⟨bc, 0, 2, rfl, by decide, hlt, fun k hk j x hx => by
    have hk2 : k < 2 := hk
    obtain rfl | rfl : k = 0 ∨ k = 1 := by omega
    · have : j < 3 := by rcases Nat.lt_or_ge j 3 with h' | h'; exact h'; simp [selIns, Cs.cells] at hx; rw [List.getElem?_eq_none (by simpa using h')] at hx; cases hx
      obtain rfl | rfl | rfl : j = 0 ∨ j = 1 ∨ j = 2 := by omega
      · exact h 0 _ hx
      · exact h 1 _ hx
      · exact h 2 _ hx
    · have : j < 3 := by rcases Nat.lt_or_ge j 3 with h' | h'; exact h'; simp [selIns, Cs.cells] at hx; rw [List.getElem?_eq_none (by simpa using h')] at hx; cases hx
      obtain rfl | rfl | rfl : j = 0 ∨ j = 1 ∨ j = 2 := by omega
      · exact h 3 _ hx
      · exact h 4 _ hx
      · exact h 5 _ hx⟩

theorem rdI_holds {w : World} {g n c : Nat} {l : List Int} {m : Nat} (h : Holds (Value.int .i64) w g 0 (l ++ List.replicate m 0).toArray) (hg : g < w.heap.size) (hn : n = l.length) (hb : n ≤ 1000) : RdI w (.slice (some ⟨g, 0, none⟩) n c) l := by
  subst hn
  refine ⟨_, _, rfl, by omega, fun k hk => ⟨g, 0, rfl, hg, ?_⟩⟩
  have := (h k (by simp; omega)).1
  rw [show (0 : Nat) + k = k by omega] at this ⊢
  rw [this]
  have e : (l ++ List.replicate m 0)[k]? = some l[k] := by rw [List.getElem?_append_left hk, List.getElem?_eq_getElem hk]
  simp [hk, e]

set_option maxRecDepth 100000 in
set_option maxHeartbeats 1000000 in
theorem reads_sel (bc : Nat) (w : World) (hlt : bc < w.heap.size) (h : SelAt w bc) :
    Calls Tryd.prog 25 #[.agg #[.int .i64 15, .int .i64 1, .int .i64 2, .int .i64 3, .slice (some ⟨bc, 0, none⟩) 2 2, .bool true]] w fun e w' => (∃ v, e = .returned v ∧ RdI w' v [4, 5, 6]) ∧ Below w.heap.size w w' := by
  obtain ⟨i0, hi, iz0, iz1, iz2⟩ := info_parts info_int
  have H := hid h
  have h0 := h 0 _ rfl
  have h1 := h 1 _ rfl
  have h2 := h 2 _ rfl
  have h3 := h 3 _ rfl
  have h4 := h 4 _ rfl
  have h5 := h 5 _ rfl
  have HC := hid (And.intro h0 (And.intro h1 (And.intro h2 (And.intro h3 (And.intro h4 h5)))))
  clear h h0 h1 h2 h3 h4 h5
  go_enter Tryd.func25, Tryd.ntmps25
  go_wp2_with fail
  refine (good_any selIns 100 (.slice (some ⟨bc, 0, none⟩) 2 2) _ ((H.out.rd hlt).below ((Below.refl _ _).alloc (Nat.le_refl _) _))).mono ?_
  rintro e w1 ⟨rfl, hb1⟩
  rw [show goodB selIns 100 = true by decide +kernel]
  have HB : Below w.heap.size w w1 := ((Below.refl _ _).alloc (Nat.le_refl _) _).trans (hb1.mono (by simp))
  have hs1 : w.heap.size < w1.heap.size := by have := hb1.size; simp at this; omega
  have q : ∀ j x, [Value.int .i64 15, .int .i64 1, .int .i64 2, .int .i64 3, .slice (some ⟨bc, 0, none⟩) 2 2, .bool true][j]? = some x → w1.cell? ⟨w.heap.size, j, none⟩ = some x := fun j x hx => by
    rw [hb1.cell (p := ⟨w.heap.size, j, none⟩) (by simp), World.cell?_alloc_new]; simpa using hx
  have q0 := q 0 _ rfl
  have q1 := q 1 _ rfl
  have q2 := q 2 _ rfl
  have q3 := q 3 _ rfl
  have q4 := q 4 _ rfl
  have q5 := q 5 _ rfl
  clear q hb1
  have hbc : bc < w1.heap.size := by omega
  have k0 := (HB.cell (p := ⟨bc, 0, none⟩) hlt).trans HC.out.1
  have k1 := (HB.cell (p := ⟨bc, 1, none⟩) hlt).trans HC.out.2.1
  have k2 := (HB.cell (p := ⟨bc, 2, none⟩) hlt).trans HC.out.2.2.1
  have k3 := (HB.cell (p := ⟨bc, 3, none⟩) hlt).trans HC.out.2.2.2.1
  have k4 := (HB.cell (p := ⟨bc, 4, none⟩) hlt).trans HC.out.2.2.2.2.1
  have k5 := (HB.cell (p := ⟨bc, 5, none⟩) hlt).trans HC.out.2.2.2.2.2
  go_wp2_with fail
  refine wp_loop_rounds 3 ?_
  rw [rounds_succ]
  go_wp2_with (first | (at_builtin; refine wpList_append_own _ rfl (.tmp 68) (.tmp 71) 51 rfl w.heap.size 3 i0 (.int .i64 0) 1 8 Tryd.underlying51 hi iz0 iz1 iz2 rfl (by decide) (.slice none 0 0) 0 [] rfl (by exact World.ownsRow_nil _ _ _ _) ⟨_, 0, none⟩ 1 1 [.int .i64 4] rfl rfl (cell_one_at (by simp)) (by simp [Value.oneCell']) (by decide) (by decide) (by simp; omega) ?_; intro v0 wa0 hown0 hgrow0 _; have s0 : wa0.cell? ⟨w1.heap.size, 0, none⟩ = some (.bool false) := hgrow0.cell (by simp) (by simp [Value.ownBlock]); have HB0 : RowKit.Below w.heap.size w wa0 := ((HB.alloc (by omega) _).alloc (by simp; omega) _).grown hgrow0 (by simp; omega) (by simp [Value.ownBlock]); have hz0 : w1.heap.size < wa0.heap.size := (by have := hgrow0.size; simp at this; omega); clear k0 k1 k2 k3 k4 k5 hgrow0; have k3 := (HB0.cell (p := ⟨bc, 3, none⟩) hlt).trans HC.out.2.2.2.1; have k4 := (HB0.cell (p := ⟨bc, 4, none⟩) hlt).trans HC.out.2.2.2.2.1; have k5 := (HB0.cell (p := ⟨bc, 5, none⟩) hlt).trans HC.out.2.2.2.2.2; have hl0 := hid hown0.lt) | (at_builtin; refine wpList_append_own _ rfl (.tmp 68) (.tmp 71) 51 rfl w.heap.size 3 i0 (.int .i64 0) 1 8 Tryd.underlying51 hi iz0 iz1 iz2 rfl (by decide) v0 1 _ rfl ((hown0.alloc _).alloc _) ⟨_, 0, none⟩ 1 1 [.int .i64 5] rfl rfl (cell_one_at (by simp)) (by simp [Value.oneCell']) (by decide) (by decide) (by simp; omega) ?_; intro v1 wa1 hown1 hgrow1 _; have s1 : wa1.cell? ⟨wa0.heap.size, 0, none⟩ = some (.bool true) := hgrow1.cell (by simp) (fun e => by have := (hl0.out _ e.symm).2; simp at this); have s2 : wa1.cell? ⟨wa0.heap.size, 2, none⟩ = some (.int .i64 6) := hgrow1.cell (by simp) (fun e => by have := (hl0.out _ e.symm).2; simp at this); have HB1 : RowKit.Below w.heap.size w wa1 := ((HB0.alloc (by omega) _).alloc (by simp; omega) _).grown hgrow1 (by simp; omega) (fun k hk => (hl0.out k hk).1); have hz1 : wa0.heap.size < wa1.heap.size := (by have := hgrow1.size; simp at this; omega); clear k3 k4 k5 hgrow1; have hl1 := hid hown1.lt) | (at_builtin; refine wpList_append_own _ rfl (.tmp 75) (.tmp 78) 51 rfl w.heap.size 3 i0 (.int .i64 0) 1 8 Tryd.underlying51 hi iz0 iz1 iz2 rfl (by decide) v1 2 _ rfl (hown1.alloc _) ⟨_, 0, none⟩ 1 1 [.int .i64 6] rfl rfl (cell_one_at (by simp)) (by simp [Value.oneCell']) (by decide) (by decide) (by simp; omega) ?_; intro v2 wa2 hown2 hgrow2 _; have HB2 : RowKit.Below w.heap.size w wa2 := (HB1.alloc (by omega) _).grown hgrow2 (by simp; omega) (fun k hk => (hl1.out k hk).1); clear hgrow2))
  rw [rounds_succ]
  go_wp2_with (first | (at_builtin; refine wpList_append_own _ rfl (.tmp 68) (.tmp 71) 51 rfl w.heap.size 3 i0 (.int .i64 0) 1 8 Tryd.underlying51 hi iz0 iz1 iz2 rfl (by decide) v0 1 _ rfl ((hown0.alloc _).alloc _) ⟨_, 0, none⟩ 1 1 [.int .i64 5] rfl rfl (cell_one_at (by simp)) (by simp [Value.oneCell']) (by decide) (by decide) (by simp; omega) ?_; intro v1 wa1 hown1 hgrow1 _; have s1 : wa1.cell? ⟨wa0.heap.size, 0, none⟩ = some (.bool true) := hgrow1.cell (by simp) (fun e => by have := (hl0.out _ e.symm).2; simp at this); have s2 : wa1.cell? ⟨wa0.heap.size, 2, none⟩ = some (.int .i64 6) := hgrow1.cell (by simp) (fun e => by have := (hl0.out _ e.symm).2; simp at this); have HB1 : RowKit.Below w.heap.size w wa1 := ((HB0.alloc (by omega) _).alloc (by simp; omega) _).grown hgrow1 (by simp; omega) (fun k hk => (hl0.out k hk).1); have hz1 : wa0.heap.size < wa1.heap.size := (by have := hgrow1.size; simp at this; omega); clear k3 k4 k5 hgrow1; have hl1 := hid hown1.lt) | (at_builtin; refine wpList_append_own _ rfl (.tmp 75) (.tmp 78) 51 rfl w.heap.size 3 i0 (.int .i64 0) 1 8 Tryd.underlying51 hi iz0 iz1 iz2 rfl (by decide) v1 2 _ rfl (hown1.alloc _) ⟨_, 0, none⟩ 1 1 [.int .i64 6] rfl rfl (cell_one_at (by simp)) (by simp [Value.oneCell']) (by decide) (by decide) (by simp; omega) ?_; intro v2 wa2 hown2 hgrow2 _; have HB2 : RowKit.Below w.heap.size w wa2 := (HB1.alloc (by omega) _).grown hgrow2 (by simp; omega) (fun k hk => (hl1.out k hk).1); clear hgrow2))
  rw [rounds_succ]
  go_wp2_with fail
  have hvo : ∃ g cap, v2 = .slice (some ⟨g, 0, none⟩) 3 cap := by
    obtain ⟨_, h2⟩ := hown2
    rcases h2 with ⟨_, h2⟩ | ⟨g, cap, cur, h2, _⟩
    · simp at h2
    · exact ⟨g, cap, h2⟩
  obtain ⟨g, cap, hv2⟩ := hvo
  rw [hv2] at hown2
  rw [hv2]
  have hown3 : wa2.ownsRow w.heap.size 3 1 (.slice (some ⟨g, 0, none⟩) ([4, 5, 6] : List Int).length cap) ([4, 5, 6] : List Int).length (([4, 5, 6] : List Int).map (Value.int .i64)) := hown2
  refine (rising_own [4, 5, 6] g cap w.heap.size wa2 (by decide) hown3).mono ?_
  rintro e w3 ⟨⟨c, rfl⟩, hg3, hH3, hb3⟩
  rw [show Lib.compact (([4, 5, 6] : List Int).mergeSort fun x y => decide (x ≤ y)) = [4, 5, 6] by rw [List.mergeSort_of_pairwise (by decide)]; decide] at hH3 ⊢
  have H3 := hid hH3
  clear hH3 hown2 hown3
  go_wp2_with fail
  go_ret
  exact ⟨⟨_, rfl, rdI_holds (m := 0) (by exact H3.out) hg3 rfl (by decide)⟩, HB2.trans hb3⟩

theorem cells_at {w : World} {n : Nat} {xs : List Value} {t : TypeId} (hn : n = w.heap.size) : ∀ (j : Nat) (u : Value), xs[j]? = some u → (w.alloc (.cells xs.toArray t)).cell? ((⟨n, 0, none⟩ : Addr).add j) = some u := by
  subst hn
  intro j u h
  have hadd : (⟨w.heap.size, 0, none⟩ : Addr).add j = ⟨w.heap.size, j, none⟩ := by unfold Addr.add; split <;> simp_all
  rw [hadd, World.cell?_alloc_new]
  simpa using h

set_option maxRecDepth 100000 in
set_option maxHeartbeats 1000000 in
theorem writes_sel (bc : Nat) (w : World) (hlt : bc < w.heap.size) (h : SelAt w bc) :
    Calls Tryd.prog 26 #[.agg #[.int .i64 15, .int .i64 1, .int .i64 2, .int .i64 3, .slice (some ⟨bc, 0, none⟩) 2 2, .bool true]] w fun e w' => (∃ v, e = .returned v ∧ RdI w' v [1, 2, 3]) ∧ Below w.heap.size w w' := by
  obtain ⟨i0, hi, iz0, iz1, iz2⟩ := info_parts info_int
  have H := hid h
  clear h
  go_enter Tryd.func26, Tryd.ntmps26
  go_wp2_with fail
  refine (good_any selIns 100 (.slice (some ⟨bc, 0, none⟩) 2 2) _ ((H.out.rd hlt).below ((Below.refl _ _).alloc (Nat.le_refl _) _))).mono ?_
  rintro e w1 ⟨rfl, hb1⟩
  rw [show goodB selIns 100 = true by decide +kernel]
  have HB : RowKit.Below w.heap.size w w1 := ((Below.refl _ _).alloc (Nat.le_refl _) _).trans (hb1.mono (by simp))
  have hs1 : w.heap.size < w1.heap.size := by have := hb1.size; simp at this; omega
  have q : ∀ j x, [Value.int .i64 15, .int .i64 1, .int .i64 2, .int .i64 3, .slice (some ⟨bc, 0, none⟩) 2 2, .bool true][j]? = some x → w1.cell? ⟨w.heap.size, j, none⟩ = some x := fun j x hx => by
    rw [hb1.cell (p := ⟨w.heap.size, j, none⟩) (by simp), World.cell?_alloc_new]; simpa using hx
  have q0 := q 0 _ rfl
  have q1 := q 1 _ rfl
  have q2 := q 2 _ rfl
  have q3 := q 3 _ rfl
  clear q hb1
  go_wp2_with (at_builtin; refine wpList_append_own _ rfl (.tmp 64) (.tmp 71) 51 rfl w.heap.size 3 i0 (.int .i64 0) 1 8 Tryd.underlying51 hi iz0 iz1 iz2 rfl (by decide) (.slice none 0 0) 0 [] rfl (by exact World.ownsRow_nil _ _ _ _) ⟨_, 0, none⟩ 3 3 [.int .i64 1, .int .i64 2, .int .i64 3] rfl rfl (cells_at (by simp)) (by simp [Value.oneCell']) (by decide) (by decide) (by simp; omega) ?_; intro v2 wa2 hown2 hgrow2 _; have HB2 : RowKit.Below w.heap.size w wa2 := (HB.alloc (by omega) _).grown hgrow2 (by simp; omega) (by simp [Value.ownBlock]); clear hgrow2)
  have hvo : ∃ g cap, v2 = .slice (some ⟨g, 0, none⟩) 3 cap := by
    obtain ⟨_, h2⟩ := hown2
    rcases h2 with ⟨_, h2⟩ | ⟨g, cap, cur, h2, _⟩
    · simp at h2
    · exact ⟨g, cap, h2⟩
  obtain ⟨g, cap, hv2⟩ := hvo
  rw [hv2] at hown2
  rw [hv2]
  have hown3 : wa2.ownsRow w.heap.size 3 1 (.slice (some ⟨g, 0, none⟩) ([1, 2, 3] : List Int).length cap) ([1, 2, 3] : List Int).length (([1, 2, 3] : List Int).map (Value.int .i64)) := hown2
  refine (rising_own [1, 2, 3] g cap w.heap.size wa2 (by decide) hown3).mono ?_
  rintro e w3 ⟨⟨c, rfl⟩, hg3, hH3, hb3⟩
  rw [show Lib.compact (([1, 2, 3] : List Int).mergeSort fun x y => decide (x ≤ y)) = [1, 2, 3] by rw [List.mergeSort_of_pairwise (by decide)]; decide] at hH3 ⊢
  have H3 := hid hH3
  clear hH3 hown2 hown3
  go_wp2_with fail
  go_ret
  exact ⟨⟨_, rfl, rdI_holds (m := 0) (by exact H3.out) hg3 rfl (by decide)⟩, HB2.trans hb3⟩
end Go.Proofs.YtdjknobolflldaaDoor
