/- TraceTells. -/
import Derived.Test.YtdjknobolflldaaDoorTrN
namespace Go.Proofs.YtdjknobolflldaaDoor
open Go.RowKit

theorem ret_true {a : Bool} (h : a = true) : Ending.returned (.bool a) = Ending.returned (.bool true) := by rw [h]
set_option maxRecDepth 100000 in
set_option maxHeartbeats 2000000 in
theorem traceTells_any (l m : List Ev) (hl : AllOk l) (hm : AllOk m) (sv tv : Value) (w : World) (h : Evs w sv l) (h' : Evs w tv m) (ht : Tabs w) :
    Calls Tryd.prog 4 #[sv, tv] w fun r w' => r = .returned (.bool true) ∧ Below w.heap.size w w' := by
  have HT := hid ht
  have Hl := hid h
  have Hm := hid h'
  have Hol := hid hl
  obtain ⟨a, cap, rfl, _, hc⟩ := h.parts
  obtain ⟨a', cap', rfl, _, _⟩ := h'.parts
  have Hc := hid hc
  clear ht h h' hc hl hm
  by_cases h1 : 50 < l.length
  · go_enter Tryd.func4, Tryd.ntmps4
    go_wp2_with fail
    have hcall := trAwake_any w HT.out
    refine hcall.mono ?_
    rintro r w1 ⟨rfl, hb⟩
    go_wp2_with fail
    go_ret
    exact ⟨rfl, hb⟩
  by_cases h2 : 50 < m.length
  · go_enter Tryd.func4, Tryd.ntmps4
    go_wp2_with fail
    have hcall := trAwake_any w HT.out
    refine hcall.mono ?_
    rintro r w1 ⟨rfl, hb⟩
    go_wp2_with fail
    go_ret
    exact ⟨rfl, hb⟩
  go_enter Tryd.func4, Tryd.ntmps4
  go_wp2_with fail
  go_loopw [5] (fun i wr => ∃ k : Nat, k ≤ l.length ∧ i = .int .i64 k ∧ Below w.heap.size w wr) (fun i _ => l.length - (intOf i).toNat)
  case atStart => exact ⟨0, Nat.zero_le _, rfl, Below.refl _ _⟩
  case round =>
    obtain ⟨k, hk, rfl, hB⟩ := hrel
    have hBs := hB.size
    by_cases hlt : k < l.length
    · obtain ⟨b, off, rfl, hb, hcs⟩ := Hc.out k hlt
      have hcs' := fun w' (hb' : Below wr.heap.size wr w') => hcs w' (hB.trans (hb'.mono hBs))
      have hok := getD_ok Hol.out hlt
      obtain ⟨x, hx⟩ : ∃ x, l.getD k noEv = x := ⟨_, rfl⟩
      rw [hx] at hcs' hok
      clear hcs hx
      have hline := fun w' (hb' : Below w.heap.size w w') => line_any x hok w' (HT.out.below hb')
      have href := fun w' => refLine_any x hok w'
      obtain ⟨s, kd, t, xa, xb, xc⟩ := x
      obtain ⟨ln, hln⟩ : ∃ ln, lineB ⟨s, kd, t, xa, xb, xc⟩ = ln := ⟨_, rfl⟩
      rw [hln] at hline href
      clear hln hok
      have Hcs := hid hcs'
      clear hcs'
      go_wp2_with fail
      refine wp_region_below (by kernel_rfl) (by kernel_rfl) ?_
      refine wpQuiet_go (by rfl) (fun K hK => ?_)
      apply Exists.intro
      refine ⟨fun w3 hC => ?_, ?_⟩
      · go_simp
        exact rfl
      go_simp
      refine hK _ ?_
      clear hK K
      refine wpQuiet_go (by rfl) (fun K hK => ?_)
      apply Exists.intro
      refine ⟨fun w3 hC => ?_, ?_⟩
      · go_simp
        exact rfl
      go_simp
      refine hK _ ?_
      clear hK K
      refine wpQuiet_go (by rfl) (fun K hK => ?_)
      apply Exists.intro
      refine ⟨fun w3 hC => ?_, ?_⟩
      · go_simp
        exact rfl
      go_simp
      refine hK _ ?_
      clear hK K
      refine wpQuiet_go (by rfl) (fun K hK => ?_)
      apply Exists.intro
      refine ⟨fun w3 hC => ?_, ?_⟩
      · obtain ⟨d0, d1, d2, d3, d4, d5⟩ := Hcs.out w3 hC
        go_simp
        exact rfl
      go_simp
      refine hK _ ?_
      clear hK K
      refine wpQuiet_go (by rfl) (fun K hK => ?_)
      apply Exists.intro
      refine ⟨fun w3 hC => ?_, ?_⟩
      · go_simp
        have hcall := hline w3 (hB.trans (hC.mono hBs))
        exact hcall.mono fun e w4 ⟨he, hb⟩ => ⟨he, hC.trans (hb.mono hC.size)⟩
      go_simp
      refine hK _ ?_
      clear hK K
      refine wpQuiet_go (by rfl) (fun K hK => ?_)
      apply Exists.intro
      refine ⟨fun w3 hC => ?_, ?_⟩
      · go_simp
        exact rfl
      go_simp
      refine hK _ ?_
      clear hK K
      refine wpQuiet_go (by rfl) (fun K hK => ?_)
      apply Exists.intro
      refine ⟨fun w3 hC => ?_, ?_⟩
      · go_simp
        exact rfl
      go_simp
      refine hK _ ?_
      clear hK K
      refine wpQuiet_go (by rfl) (fun K hK => ?_)
      apply Exists.intro
      refine ⟨fun w3 hC => ?_, ?_⟩
      · go_simp
        exact rfl
      go_simp
      refine hK _ ?_
      clear hK K
      refine wpQuiet_go (by rfl) (fun K hK => ?_)
      apply Exists.intro
      refine ⟨fun w3 hC => ?_, ?_⟩
      · obtain ⟨d0, d1, d2, d3, d4, d5⟩ := Hcs.out w3 hC
        go_simp
        exact rfl
      go_simp
      refine hK _ ?_
      clear hK K
      refine wpQuiet_go (by rfl) (fun K hK => ?_)
      apply Exists.intro
      refine ⟨fun w3 hC => ?_, ?_⟩
      · go_simp
        have hcall := href w3
        exact hcall.mono fun e w4 ⟨he, hb⟩ => ⟨he, hC.trans (hb.mono hC.size)⟩
      go_simp
      refine hK _ ?_
      clear hK K
      refine wpQuiet_go (by rfl) (fun K hK => ?_)
      apply Exists.intro
      refine ⟨fun w3 hC => ?_, ?_⟩
      · go_simp
        exact rfl
      go_simp
      refine hK _ ?_
      clear hK K
      refine wpQuiet_nil ?_
      intro w3 hC
      go_wp2_with fail
      go_roundw
      case rel => exact ⟨k + 1, by omega, by go_num, hB.trans (hC.mono hBs)⟩
      case measure => simp [intOf]; omega
    · obtain rfl : k = l.length := by omega
      go_wp2_with fail
      have hcall := text_any l Hol.out (by omega) _ wr (Hl.out.below hB) (HT.out.below hB)
      refine hcall.mono ?_
      rintro r w1 ⟨rfl, hb1⟩
      clear hcall
      have hB1 := hB.trans (hb1.mono hBs)
      obtain ⟨tx, htx⟩ : ∃ tx, textB l = tx := ⟨_, rfl⟩
      rw [htx]
      have Htx := hid htx
      clear htx
      go_wp2_with fail
      have hcall := refText_any l Hol.out (by omega) _ w1 (Hl.out.below hB1)
      rw [Htx.out] at hcall
      refine hcall.mono ?_
      rintro r w2 ⟨rfl, hb2⟩
      clear hcall
      have hB2 := hB1.trans (hb2.mono hB1.size)
      go_wp2_with fail
      have hcall := first_any l m _ _ w2 (Hl.out.below hB2) (Hm.out.below hB2)
      refine hcall.mono ?_
      rintro r w3 ⟨rfl, hb3⟩
      clear hcall
      have hB3 := hB2.trans (hb3.mono hB2.size)
      go_wp2_with fail
      have hcall := refFirst_any l m _ _ w3 (Hl.out.below hB3) (Hm.out.below hB3)
      refine hcall.mono ?_
      rintro r w4 ⟨rfl, hb4⟩
      clear hcall
      have hB4 := hB3.trans (hb4.mono hB3.size)
      go_wp2_with fail
      have hcall := trAwake_any w4 (HT.out.below hB4)
      refine hcall.mono ?_
      rintro r w5 ⟨rfl, hb5⟩
      clear hcall
      go_wp2_with fail
      go_ret
      exact ⟨rfl, hB4.trans (hb5.mono hB4.size)⟩
end Go.Proofs.YtdjknobolflldaaDoor
