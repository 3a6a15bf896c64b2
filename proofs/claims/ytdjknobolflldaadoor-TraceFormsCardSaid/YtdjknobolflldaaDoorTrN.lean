/- The laws' own awake. -/
import Derived.Test.YtdjknobolflldaaDoorTrM
namespace Go.Proofs.YtdjknobolflldaaDoor
open Go.RowKit

theorem wpQuiet_go {P : Program} {ops : Array Oper} {C : World → Prop} {Q : Act → Prop} {a : Act} {o : Oper} {rest : List Oper} (hg : Region.wanted o (yielded ops a.tmps) = true)
    (h : ∀ K : Act → Prop, (∀ a, wpQuiet P ops C Q rest a → K a) → o.quiet P a C K) : wpQuiet P ops C Q (o :: rest) a :=
  wpQuiet_step fun K hK => by rw [if_pos hg]; exact h K hK
def ev0 : Ev := ⟨3, 1, 0, 7, 0, 0⟩
def line0 : List UInt8 := [51, 32, 116, 111, 108, 100, 32, 48, 32, 55, 32, 48, 32, 48]
theorem itoa_digit (i : Nat) (h : i < 10) : Lib.itoa (i : Int) = [UInt8.ofNat (48 + i)] := by rw [Lib.itoa_nonneg, Lib.decDigits_one h]
theorem line_ev0 : lineB ev0 = line0 := by
  rw [lineB_cat]
  have h0 := itoa_digit 0 (by decide)
  have h3 := itoa_digit 3 (by decide)
  have h7 := itoa_digit 7 (by decide)
  simp only [ev0]
  rw [show (0 : Int) = ((0 : Nat) : Int) from rfl, show (3 : Int) = ((3 : Nat) : Int) from rfl, show (7 : Int) = ((7 : Nat) : Int) from rfl, h0, h3, h7]
  decide +kernel
theorem ok_ev0 : ev0.ok := by unfold Ev.ok ev0 I64; decide
theorem ok_l0 : AllOk [ev0] := fun e he => by rw [List.mem_singleton.1 he]; exact ok_ev0
theorem text_ev0 : textB [ev0] = line0 ++ [10] := by rw [textB_cons, line_ev0]; rfl
/-- A text ends with its line's end. -/
theorem text_last {l : List Ev} {s : List UInt8} {b : UInt8} (h : textB l = s ++ [b]) : b = 10 := by
  rcases List.eq_nil_or_concat l with rfl | ⟨l', e, rfl⟩
  · have := congrArg List.length h
    simp [textB] at this
  · rw [List.concat_eq_append, textB_append, textB_cons, show textB [] = [] from rfl] at h
    have h2 := congrArg List.getLast? h
    rw [show textB l' ++ (lineB e ++ [10]) = (textB l' ++ lineB e) ++ [10] by simp, List.getLast?_concat, List.getLast?_concat] at h2
    exact (Option.some.inj h2).symm
theorem no_line0 (l : List Ev) (_ : AllOk l) : line0 ≠ textB l := by
  intro h
  have := text_last (s := [51, 32, 116, 111, 108, 100, 32, 48, 32, 55, 32, 48, 32]) (b := 48) (l := l) h.symm
  simp at this
theorem parse_is {s : List UInt8} {l : List Ev} {w : World} {v : Value} {e : Int} (hl : AllOk l) (hs : s = textB l) (h : ParseIs s w v e) : e = 0 ∧ Evs w v l := by
  rcases h with ⟨he, m, hm, hs', hv⟩ | ⟨_, _, hno⟩
  · obtain rfl := text_inj hm hl (by rw [← hs', hs])
    exact ⟨he, hv⟩
  · exact absurd hs (hno l hl)
theorem parse_not {s : List UInt8} {w : World} {v : Value} {e : Int} (hs : ∀ l, AllOk l → s ≠ textB l) (h : ParseIs s w v e) : e = 2 ∧ v = .slice none 0 0 := by
  rcases h with ⟨he, m, hm, hs', hv⟩ | ⟨he, hv, _⟩
  · exact absurd hs' (hs m hm)
  · exact ⟨he, hv⟩

theorem line_is (w : World) (ht : Tabs w) : Calls Tryd.prog 12 #[.agg #[.int .i64 3, .int .i64 1, .int .i64 0, .int .i64 7, .int .i64 0, .int .i64 0]] w fun r w' => r = .returned (.string ⟨#[51, 32, 116, 111, 108, 100, 32, 48, 32, 55, 32, 48, 32, 48]⟩) ∧ Below w.heap.size w w' := by
  have h := line_any ev0 ok_ev0 w ht
  rw [line_ev0] at h
  exact h
theorem first_nil {v : Value} (w : World) (h : Evs w v [ev0]) : Calls Tryd.prog 16 #[v, .slice none 0 0] w fun r w' => r = .returned (.int .i64 0) ∧ Below w.heap.size w w' := by
  have h := first_any [ev0] [] v (.slice none 0 0) w h (Evs.nil w none 0)
  rw [firstB_none (fun i hi => by simp at hi)] at h
  exact h
theorem firstB_self (l : List Ev) : firstB l l = -1 := by rw [firstB_none (fun _ _ => rfl), if_pos rfl]
theorem first_self {v : Value} {l : List Ev} (w : World) (h : Evs w v l) : Calls Tryd.prog 16 #[v, v] w fun r w' => r = .returned (.int .i64 (-1)) ∧ Below w.heap.size w w' := by
  have h := first_any l l v v w h h
  rw [firstB_self] at h
  exact h
theorem text_is {v : Value} (w : World) (h : Evs w v [ev0]) (ht : Tabs w) : Calls Tryd.prog 14 #[v] w fun r w' => r = .returned (.string ⟨#[51, 32, 116, 111, 108, 100, 32, 48, 32, 55, 32, 48, 32, 48, 10]⟩) ∧ Below w.heap.size w w' := by
  have h := text_any [ev0] ok_l0 (by decide) v w h ht
  rw [text_ev0] at h
  exact h

set_option maxRecDepth 100000 in
set_option maxHeartbeats 2000000 in
theorem trAwake_any (w : World) (ht : Tabs w) :
    Calls Tryd.prog 11 #[] w fun r w' => r = .returned (.bool true) ∧ Below w.heap.size w w' := by
  have HT := hid ht
  clear ht
  go_enter Tryd.func11, Tryd.ntmps11
  go_wp2_with fail
  generalize hW : w.alloc _ = W
  have HB : Below w.heap.size w W := by rw [← hW]; exact (Below.refl _ _).alloc (Nat.le_refl _) _
  have HE : Hid (∀ w', Below W.heap.size W w' → w'.heap[w.heap.size]? = some (.cells #[.int .i64 3, .int .i64 1, .int .i64 0, .int .i64 7, .int .i64 0, .int .i64 0] 28)) := hid fun w' hb => by
    rw [hb.block _ (by rw [← hW]; simp), ← hW]; exact heap_alloc_new _ _
  clear hW
  have hcall := parse_any (line0 ++ [10]) (by decide) W (HT.out.below HB)
  refine hcall.mono ?_
  rintro r w1 ⟨⟨v, e, rfl, hp⟩, hb1⟩
  obtain ⟨rfl, hv⟩ := parse_is ok_l0 text_ev0.symm hp
  clear hcall hp
  have HB1 := HB.trans (hb1.mono HB.size)
  go_wp2_with fail
  have hcall := parse_any line0 (by decide) w1 (HT.out.below HB1)
  refine hcall.mono ?_
  rintro r w2 ⟨⟨v2, e2, rfl, hp⟩, hb2⟩
  obtain ⟨rfl, rfl⟩ := parse_not no_line0 hp
  clear hcall hp
  have HB2 := HB1.trans (hb2.mono HB1.size)
  have hb12 := hb1.trans (hb2.mono hb1.size)
  have hv2 := hv.below hb2
  have Hv := hid hv2
  obtain ⟨a, cap, rfl, _, hc⟩ := hv2.parts
  obtain ⟨b, off, rfl, hbs, hc0⟩ := hc 0 (by decide)
  have Hc0 := hid hc0
  clear hv hv2 hc hc0
  go_wp2_with fail
  refine wp_region_below (by kernel_rfl) (by kernel_rfl) ?_
  refine wpQuiet_go (by rfl) (fun K hK => ?_)
  apply Exists.intro
  refine ⟨fun w3 hC => ?_, ?_⟩
  · have E3 := HE.out w3 (hb12.trans (hC.mono hb12.size))
    have d0 : w3.cell? ⟨w.heap.size, 0, none⟩ = some (.int .i64 3) := Lib.cell_of_heap E3 0
    have d1 : w3.cell? ⟨w.heap.size, 1, none⟩ = some (.int .i64 1) := Lib.cell_of_heap E3 1
    have d2 : w3.cell? ⟨w.heap.size, 2, none⟩ = some (.int .i64 0) := Lib.cell_of_heap E3 2
    have d3 : w3.cell? ⟨w.heap.size, 3, none⟩ = some (.int .i64 7) := Lib.cell_of_heap E3 3
    have d4 : w3.cell? ⟨w.heap.size, 4, none⟩ = some (.int .i64 0) := Lib.cell_of_heap E3 4
    have d5 : w3.cell? ⟨w.heap.size, 5, none⟩ = some (.int .i64 0) := Lib.cell_of_heap E3 5
    clear E3
    go_simp
    exact rfl
  go_simp
  refine hK _ ?_
  clear hK K
  refine wpQuiet_go (by rfl) (fun K hK => ?_)
  apply Exists.intro
  refine ⟨fun w3 hC => ?_, ?_⟩
  · go_simp
    have hcall := line_is w3 (HT.out.below (HB2.trans (hC.mono HB2.size)))
    exact hcall.mono fun e w4 ⟨he, hb⟩ => ⟨he, hC.trans (hb.mono hC.size)⟩
  go_simp
  refine hK _ ?_
  clear hK K
  refine wpQuiet_go (by rfl) (fun K hK => ?_)
  apply Exists.intro
  refine ⟨fun w3 hC => ?_, ?_⟩
  · go_simp
    exact rfl
  go_simp
  refine hK _ ?_
  clear hK K
  refine wpQuiet_go (by rfl) (fun K hK => ?_)
  apply Exists.intro
  refine ⟨fun w3 hC => ?_, ?_⟩
  · go_simp
    exact rfl
  go_simp
  refine hK _ ?_
  clear hK K
  refine wpQuiet_go (by rfl) (fun K hK => ?_)
  apply Exists.intro
  refine ⟨fun w3 hC => ?_, ?_⟩
  · go_simp
    exact rfl
  go_simp
  refine hK _ ?_
  clear hK K
  refine wpQuiet_go (by rfl) (fun K hK => ?_)
  apply Exists.intro
  refine ⟨fun w3 hC => ?_, ?_⟩
  · go_simp
    exact rfl
  go_simp
  refine hK _ ?_
  clear hK K
  refine wpQuiet_go (by rfl) (fun K hK => ?_)
  apply Exists.intro
  refine ⟨fun w3 hC => ?_, ?_⟩
  · go_simp
    exact rfl
  go_simp
  refine hK _ ?_
  clear hK K
  refine wpQuiet_go (by rfl) (fun K hK => ?_)
  apply Exists.intro
  refine ⟨fun w3 hC => ?_, ?_⟩
  · go_simp
    exact rfl
  go_simp
  refine hK _ ?_
  clear hK K
  refine wpQuiet_go (by rfl) (fun K hK => ?_)
  apply Exists.intro
  refine ⟨fun w3 hC => ?_, ?_⟩
  · go_simp
    exact rfl
  go_simp
  refine hK _ ?_
  clear hK K
  refine wpQuiet_go (by rfl) (fun K hK => ?_)
  apply Exists.intro
  refine ⟨fun w3 hC => ?_, ?_⟩
  · go_simp
    exact rfl
  go_simp
  refine hK _ ?_
  clear hK K
  refine wpQuiet_go (by rfl) (fun K hK => ?_)
  apply Exists.intro
  refine ⟨fun w3 hC => ?_, ?_⟩
  · go_simp
    exact rfl
  go_simp
  refine hK _ ?_
  clear hK K
  refine wpQuiet_go (by rfl) (fun K hK => ?_)
  apply Exists.intro
  refine ⟨fun w3 hC => ?_, ?_⟩
  · go_simp
    exact rfl
  go_simp
  refine hK _ ?_
  clear hK K
  refine wpQuiet_go (by rfl) (fun K hK => ?_)
  apply Exists.intro
  refine ⟨fun w3 hC => ?_, ?_⟩
  · go_simp
    exact rfl
  go_simp
  refine hK _ ?_
  clear hK K
  refine wpQuiet_go (by rfl) (fun K hK => ?_)
  apply Exists.intro
  refine ⟨fun w3 hC => ?_, ?_⟩
  · go_simp
    exact rfl
  go_simp
  refine hK _ ?_
  clear hK K
  refine wpQuiet_go (by rfl) (fun K hK => ?_)
  apply Exists.intro
  refine ⟨fun w3 hC => ?_, ?_⟩
  · go_simp
    exact rfl
  go_simp
  refine hK _ ?_
  clear hK K
  refine wpQuiet_go (by rfl) (fun K hK => ?_)
  apply Exists.intro
  refine ⟨fun w3 hC => ?_, ?_⟩
  · obtain ⟨d0, d1, d2, d3, d4, d5⟩ := Hc0.out w3 hC
    simp only [List.getD_cons_zero, ev0, Nat.zero_mul, Nat.add_zero] at d0 d1 d2 d3 d4 d5
    go_simp
    exact rfl
  go_simp
  refine hK _ ?_
  clear hK K
  refine wpQuiet_go (by rfl) (fun K hK => ?_)
  apply Exists.intro
  refine ⟨fun w3 hC => ?_, ?_⟩
  · have E3 := HE.out w3 (hb12.trans (hC.mono hb12.size))
    have d0 : w3.cell? ⟨w.heap.size, 0, none⟩ = some (.int .i64 3) := Lib.cell_of_heap E3 0
    have d1 : w3.cell? ⟨w.heap.size, 1, none⟩ = some (.int .i64 1) := Lib.cell_of_heap E3 1
    have d2 : w3.cell? ⟨w.heap.size, 2, none⟩ = some (.int .i64 0) := Lib.cell_of_heap E3 2
    have d3 : w3.cell? ⟨w.heap.size, 3, none⟩ = some (.int .i64 7) := Lib.cell_of_heap E3 3
    have d4 : w3.cell? ⟨w.heap.size, 4, none⟩ = some (.int .i64 0) := Lib.cell_of_heap E3 4
    have d5 : w3.cell? ⟨w.heap.size, 5, none⟩ = some (.int .i64 0) := Lib.cell_of_heap E3 5
    clear E3
    go_simp
    exact rfl
  go_simp
  refine hK _ ?_
  clear hK K
  refine wpQuiet_go (by rfl) (fun K hK => ?_)
  apply Exists.intro
  refine ⟨fun w3 hC => ?_, ?_⟩
  · go_simp
    exact rfl
  go_simp
  refine hK _ ?_
  clear hK K
  refine wpQuiet_go (by rfl) (fun K hK => ?_)
  apply Exists.intro
  refine ⟨fun w3 hC => ?_, ?_⟩
  · go_simp
    exact rfl
  go_simp
  refine hK _ ?_
  clear hK K
  refine wpQuiet_go (by rfl) (fun K hK => ?_)
  apply Exists.intro
  refine ⟨fun w3 hC => ?_, ?_⟩
  · go_simp
    exact rfl
  go_simp
  refine hK _ ?_
  clear hK K
  refine wpQuiet_go (by rfl) (fun K hK => ?_)
  apply Exists.intro
  refine ⟨fun w3 hC => ?_, ?_⟩
  · go_simp
    exact rfl
  go_simp
  refine hK _ ?_
  clear hK K
  refine wpQuiet_go (by rfl) (fun K hK => ?_)
  apply Exists.intro
  refine ⟨fun w3 hC => ?_, ?_⟩
  · go_simp
    exact rfl
  go_simp
  refine hK _ ?_
  clear hK K
  refine wpQuiet_go (by rfl) (fun K hK => ?_)
  apply Exists.intro
  refine ⟨fun w3 hC => ?_, ?_⟩
  · go_simp
    exact rfl
  go_simp
  refine hK _ ?_
  clear hK K
  refine wpQuiet_go (by rfl) (fun K hK => ?_)
  apply Exists.intro
  refine ⟨fun w3 hC => ?_, ?_⟩
  · go_simp
    exact rfl
  go_simp
  refine hK _ ?_
  clear hK K
  refine wpQuiet_go (by rfl) (fun K hK => ?_)
  apply Exists.intro
  refine ⟨fun w3 hC => ?_, ?_⟩
  · go_simp
    exact rfl
  go_simp
  refine hK _ ?_
  clear hK K
  refine wpQuiet_go (by rfl) (fun K hK => ?_)
  apply Exists.intro
  refine ⟨fun w3 hC => ?_, ?_⟩
  · go_simp
    have hcall := first_nil w3 (Hv.out.below hC)
    exact hcall.mono fun e w4 ⟨he, hb⟩ => ⟨he, hC.trans (hb.mono hC.size)⟩
  go_simp
  refine hK _ ?_
  clear hK K
  refine wpQuiet_go (by rfl) (fun K hK => ?_)
  apply Exists.intro
  refine ⟨fun w3 hC => ?_, ?_⟩
  · go_simp
    exact rfl
  go_simp
  refine hK _ ?_
  clear hK K
  refine wpQuiet_go (by rfl) (fun K hK => ?_)
  apply Exists.intro
  refine ⟨fun w3 hC => ?_, ?_⟩
  · go_simp
    exact rfl
  go_simp
  refine hK _ ?_
  clear hK K
  refine wpQuiet_go (by rfl) (fun K hK => ?_)
  apply Exists.intro
  refine ⟨fun w3 hC => ?_, ?_⟩
  · go_simp
    exact rfl
  go_simp
  refine hK _ ?_
  clear hK K
  refine wpQuiet_go (by rfl) (fun K hK => ?_)
  apply Exists.intro
  refine ⟨fun w3 hC => ?_, ?_⟩
  · go_simp
    exact rfl
  go_simp
  refine hK _ ?_
  clear hK K
  refine wpQuiet_go (by rfl) (fun K hK => ?_)
  apply Exists.intro
  refine ⟨fun w3 hC => ?_, ?_⟩
  · go_simp
    exact rfl
  go_simp
  refine hK _ ?_
  clear hK K
  refine wpQuiet_go (by rfl) (fun K hK => ?_)
  apply Exists.intro
  refine ⟨fun w3 hC => ?_, ?_⟩
  · go_simp
    have hcall := first_self w3 (Hv.out.below hC)
    exact hcall.mono fun e w4 ⟨he, hb⟩ => ⟨he, hC.trans (hb.mono hC.size)⟩
  go_simp
  refine hK _ ?_
  clear hK K
  refine wpQuiet_go (by rfl) (fun K hK => ?_)
  apply Exists.intro
  refine ⟨fun w3 hC => ?_, ?_⟩
  · go_simp
    exact rfl
  go_simp
  refine hK _ ?_
  clear hK K
  refine wpQuiet_go (by rfl) (fun K hK => ?_)
  apply Exists.intro
  refine ⟨fun w3 hC => ?_, ?_⟩
  · go_simp
    exact rfl
  go_simp
  refine hK _ ?_
  clear hK K
  refine wpQuiet_go (by rfl) (fun K hK => ?_)
  apply Exists.intro
  refine ⟨fun w3 hC => ?_, ?_⟩
  · go_simp
    exact rfl
  go_simp
  refine hK _ ?_
  clear hK K
  refine wpQuiet_go (by rfl) (fun K hK => ?_)
  apply Exists.intro
  refine ⟨fun w3 hC => ?_, ?_⟩
  · go_simp
    exact rfl
  go_simp
  refine hK _ ?_
  clear hK K
  refine wpQuiet_go (by rfl) (fun K hK => ?_)
  apply Exists.intro
  refine ⟨fun w3 hC => ?_, ?_⟩
  · go_simp
    have hcall := text_is w3 (Hv.out.below hC) (HT.out.below (HB2.trans (hC.mono HB2.size)))
    exact hcall.mono fun e w4 ⟨he, hb⟩ => ⟨he, hC.trans (hb.mono hC.size)⟩
  go_simp
  refine hK _ ?_
  clear hK K
  refine wpQuiet_go (by rfl) (fun K hK => ?_)
  apply Exists.intro
  refine ⟨fun w3 hC => ?_, ?_⟩
  · go_simp
    exact rfl
  go_simp
  refine hK _ ?_
  clear hK K
  refine wpQuiet_go (by rfl) (fun K hK => ?_)
  apply Exists.intro
  refine ⟨fun w3 hC => ?_, ?_⟩
  · go_simp
    exact rfl
  go_simp
  refine hK _ ?_
  clear hK K
  refine wpQuiet_go (by rfl) (fun K hK => ?_)
  apply Exists.intro
  refine ⟨fun w3 hC => ?_, ?_⟩
  · go_simp
    exact rfl
  go_simp
  refine hK _ ?_
  clear hK K
  refine wpQuiet_nil ?_
  intro w3 hC
  go_wp2_with fail
  go_ret
  exact ⟨rfl, HB2.trans (hC.mono HB2.size)⟩
end Go.Proofs.YtdjknobolflldaaDoor
