/- TraceFirst: the walk. -/
import Derived.Test.YtdjknobolflldaaDoorTrS
namespace Go.Proofs.YtdjknobolflldaaDoor
open Go.RowKit

theorem first_is {l m : List Ev} {n : Int} (hf : firstB l m = n) {sv tv : Value} (w : World) (h : Evs w sv l) (h' : Evs w tv m) :
    Calls Tryd.prog 16 #[sv, tv] w fun r w' => r = .returned (.int .i64 n) ∧ Below w.heap.size w w' := by
  subst hf; exact first_any l m sv tv w h h'
theorem firstB_nil : firstB [] [] = -1 := by rw [firstB_none (fun i hi => by simp at hi), if_pos rfl]

set_option maxRecDepth 100000 in
set_option maxHeartbeats 2000000 in
theorem traceFirst_any (l : List Ev) (at' cut : Int) (hl : AllOk l) (hat : I64 at') (hcut : I64 cut) (sv : Value) (w : World) (h : Evs w sv l) (hcap : ∀ a n c, sv = .slice a n c → n ≤ c) (ht : Tabs w) :
    Calls Tryd.prog 7 #[sv, .int .i64 at', .int .i64 cut] w fun r w' => r = .returned (.bool true) ∧ Below w.heap.size w w' := by
  have HT := hid ht
  have Hl := hid h
  have Hol := hid hl
  obtain ⟨i0, hi, iz0, iz1, iz2⟩ := info_parts info_event
  obtain ⟨a, cap, rfl, _, hc⟩ := h.parts
  have Hc := hid hc
  have hcap' := hcap _ _ _ rfl
  clear ht h hc hl hcap
  by_cases h1 : 50 < l.length
  · go_enter Tryd.func7, Tryd.ntmps7
    go_wp2_with fail
    have hcall := trAwake_any w HT.out
    refine hcall.mono ?_
    rintro r w1 ⟨rfl, hb⟩
    go_wp2_with fail
    go_ret
    exact ⟨rfl, hb⟩
  by_cases h0 : l.length = 0
  · obtain rfl : l = [] := List.eq_nil_of_length_eq_zero h0
    go_enter Tryd.func7, Tryd.ntmps7
    go_wp2_with fail
    have hcall := first_is firstB_nil w Hl.out (Evs.nil w none 0)
    refine hcall.mono ?_
    rintro r w1 ⟨rfl, hb1⟩
    clear hcall
    go_wp2_with fail
    have hcall := trAwake_any w1 (HT.out.below hb1)
    refine hcall.mono ?_
    rintro r w2 ⟨rfl, hb2⟩
    clear hcall
    go_wp2_with fail
    go_ret
    exact ⟨rfl, hb1.trans (hb2.mono hb1.size)⟩
  obtain ⟨ao, c, he, hn0, hsrc⟩ := Hl.out.source
  obtain ⟨rfl, rfl⟩ : a = ao ∧ cap = c := by cases he; exact ⟨rfl, rfl⟩
  clear he
  have Hsrc := hid hsrc
  obtain ⟨k, hk, hkl⟩ : ∃ k : Nat, at' % (l.length : Int) = k ∧ k < l.length := ⟨(at' % (l.length : Int)).toNat, by have := Int.emod_nonneg at' (show (l.length : Int) ≠ 0 by omega); omega, by have := Int.emod_lt_of_pos at' (show 0 < (l.length : Int) by omega); have := Int.emod_nonneg at' (show (l.length : Int) ≠ 0 by omega); omega⟩
  obtain ⟨c, hc, hcl⟩ : ∃ c : Nat, cut % (l.length : Int) = c ∧ c < l.length := ⟨(cut % (l.length : Int)).toNat, by have := Int.emod_nonneg cut (show (l.length : Int) ≠ 0 by omega); omega, by have := Int.emod_lt_of_pos cut (show 0 < (l.length : Int) by omega); have := Int.emod_nonneg cut (show (l.length : Int) ≠ 0 by omega); omega⟩
  have r1 := fun w' => round_any at' (l.length : Int) hat (by omega) (by omega) w'
  have r2 := fun w' => round_any cut (l.length : Int) hcut (by omega) (by omega) w'
  rw [hk] at r1
  rw [hc] at r2
  have R1 := hid r1
  have R2 := hid r2
  have Hk := hid hk
  have Hcc := hid hc
  have Hn0 := hid hn0
  obtain ⟨x, hx⟩ : ∃ x, l.getD k noEv = x := ⟨_, rfl⟩
  have Hx := hid hx
  clear r1 r2 hk hc hsrc hn0 hx
  go_enter Tryd.func7, Tryd.ntmps7
  go_wp2_with fail
  refine (R1.out w).mono ?_
  rintro r w' ⟨rfl, rfl⟩
  have hown0 := owns_empty w w.heap.size w.heap.size rfl (Nat.le_refl _)
  have hB0 : Below w.heap.size w (w.alloc (.cells #[] 28)) := (Below.refl _ _).alloc (Nat.le_refl _) _
  have Hown0 := hid hown0
  have HB0 := hid hB0
  clear hown0 hB0
  have Hs2 := hid (show ∀ ad, a = some ad → ∀ (j : Nat) u, (evsV l)[j]? = some u → (w.alloc (.cells #[] 28)).cell? (ad.add j) = some u from fun ad ha => Hsrc.out ad ha _ HB0.out)
  have hm1 : 0 + l.length ≤ maxLen := by simp only [maxLen]; omega
  have hm2 : (0 + l.length) * 48 ≤ 140737488355328 := by omega
  go_wp2_with (at_builtin; (refine wpList_append_any _ rfl (.tmp 27) (.tmp 28) 25 rfl w.heap.size 28 i0 (.agg #[.int .i64 0, .int .i64 0, .int .i64 0, .int .i64 0, .int .i64 0, .int .i64 0]) 6 48 Tryd.underlying25 hi iz0 iz1 iz2 rfl (by decide) (.slice (some ⟨w.heap.size, 0, none⟩) 0 0) 0 [] rfl Hown0.out a l.length cap (evsV l) rfl (evsV_length l) Hn0.out Hs2.out (evsV_one l) hm1 hm2 HB0.out.size ?_); (intro v4 w4 hown4 hgrow4 _); (simp only [Nat.zero_add, List.nil_append] at hown4); (obtain ⟨g, cp, cur, rfl, hnl, hBg, hc1, hc2, hh, hs, htk⟩ := own_block hown4 (by omega)); (have cB := own_cellB rfl hh htk hkl; rw [Hx.out] at cB; have fB := Lib.frozen_of_heap hh (k * 6 + 4); have Hh := hid hh; have Htk := hid htk; have Hs := hid hs; have Hgrow := hid hgrow4; have Hown4 := hid hown4; clear hh htk hs hgrow4 hown4 hnl))
  have HB4 : Below w.heap.size w w4 := HB0.out.grown Hgrow.out HB0.out.size (fun z hz => by simp [Value.ownBlock] at hz; omega)
  have hbits : ∀ y : Int, Value.int .i64 (bits .xor .i64 y 1) = .int .i64 (xor1 y) := fun y => rfl
  have Hbits := hid hbits
  clear hbits
  have hok := getD_ok Hol.out hkl
  have hm5 := own_set rfl Hh.out hc1 hc2 Hs.out Htk.out hkl (xor1 x.b)
  have hb5 : Below w.heap.size w (w4.setCell ⟨g, k * 6 + 4, none⟩ (.int .i64 (bits .xor .i64 x.b 1))) := HB4.setCell (p := ⟨g, k * 6 + 4, none⟩) hBg _
  have hne := withB_ne hok
  obtain ⟨m, hm⟩ : ∃ m, l.set k ((l.getD k noEv).withB (xor1 (l.getD k noEv).b)) = m := ⟨_, rfl⟩
  have f1 := (firstB_set hkl hne).1
  have f2 := (firstB_set hkl hne).2
  have f3 := firstB_cut hcl
  have f4 := firstB_cutset hcl hkl hne
  have f5 := firstB_self m
  rw [hm] at f1 f2 f4
  rw [← Hx.out, hm, Hx.out, ← Hbits.out] at hm5
  have Hm5 := hid hm5
  have HB5 := hid hb5
  have F1 := hid f1
  have F2 := hid f2
  have F3 := hid f3
  have F4 := hid f4
  have F5 := hid f5
  clear hm5 hb5 hne hm f1 f2 f3 f4 f5 hok cB fB HB4
  generalize w4.setCell _ _ = W5 at Hm5 HB5 ⊢
  refine (R2.out W5).mono ?_
  rintro r w' ⟨rfl, rfl⟩
  go_wp2_with fail
  have hl5 := Hl.out.below HB5.out
  have hcall := first_is F1.out W5 hl5 Hm5.out
  refine hcall.mono ?_
  rintro r w6 ⟨rfl, hb6⟩
  clear hcall
  have HB6 := HB5.out.trans (hb6.mono HB5.out.size)
  have hb56 := hb6
  go_wp2_with fail
  have hcall := first_is F2.out w6 (Hm5.out.below hb56) (Hl.out.below HB6)
  refine hcall.mono ?_
  rintro r w7 ⟨rfl, hb7⟩
  clear hcall
  have HB7 := HB6.trans (hb7.mono HB6.size)
  have hb57 := hb56.trans (hb7.mono hb56.size)
  go_wp2_with fail
  have hcall := first_is F3.out w7 (Hl.out.below HB7) (evs_cut (Hl.out.below HB7) (by omega))
  refine hcall.mono ?_
  rintro r w8 ⟨rfl, hb8⟩
  clear hcall
  have HB8 := HB7.trans (hb8.mono HB7.size)
  have hb58 := hb57.trans (hb8.mono hb57.size)
  go_wp2_with fail
  have hcall := first_is F4.out w8 (evs_cut (Hl.out.below HB8) (by omega)) (Hm5.out.below hb58)
  refine hcall.mono ?_
  rintro r w9 ⟨rfl, hb9⟩
  clear hcall
  have HB9 := HB8.trans (hb9.mono HB8.size)
  have hb59 := hb58.trans (hb9.mono hb58.size)
  go_wp2_with fail
  have hcall := first_is F5.out w9 (Hm5.out.below hb59) (Hm5.out.below hb59)
  refine hcall.mono ?_
  rintro r w10 ⟨rfl, hb10⟩
  clear hcall
  have HB10 := HB9.trans (hb10.mono HB9.size)
  go_wp2_with fail
  have hcall := trAwake_any w10 (HT.out.below HB10)
  refine hcall.mono ?_
  rintro r w11 ⟨rfl, hb11⟩
  clear hcall
  go_wp2_with fail
  go_ret
  exact ⟨rfl, HB10.trans (hb11.mono HB10.size)⟩
end Go.Proofs.YtdjknobolflldaaDoor
