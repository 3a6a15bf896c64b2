/- Package prog: All. -/
import Derived.Test.YtdjknobolflldaaDoorInsD
namespace Go.Proofs.YtdjknobolflldaaDoor
open Go.RowKit

/-- Programs in memory. -/
def RdPs (w : World) (v : Value) (l : List (List Ins)) : Prop :=
  ∃ pvs : Nat → Value, Rd w v l.length 1 (fun k => [pvs k]) ∧ ∀ k, k < l.length → RdP w (pvs k) (l.getD k [])
theorem RdPs.below {w w' : World} {v : Value} {l : List (List Ins)} (h : RdPs w v l) (hb : Below w.heap.size w w') : RdPs w' v l := by
  obtain ⟨svs, h1, h2⟩ := h
  exact ⟨svs, h1.below hb, fun k hk => (h2 k hk).below hb⟩
def progBad (n : Nat) (p : List Ins) : Bool := !checkB p || p.any (fun i => decide ((n : Int) ≤ startsOf i))
def allB (l : List (List Ins)) : Bool := decide (1 ≤ l.length) && decide (l.length ≤ 16) && !l.any (progBad l.length)

theorem any_at {α : Type} (p : α → Bool) (l : List α) (d : α) (k : Nat) (hk : k < l.length) (hp : p (l.getD k d) = true) : l.any p = true := by
  rw [List.any_eq_true]
  exact ⟨l[k], List.getElem_mem hk, by simpa [hk] using hp⟩
theorem any_none {α : Type} (p : α → Bool) (l : List α) (d : α) (hno : ∀ i, i < l.length → p (l.getD i d) = false) : l.any p = false := by
  rw [List.any_eq_false]
  intro x hx
  obtain ⟨i, hi, rfl⟩ := List.getElem_of_mem hx
  have := hno i hi
  simpa [hi] using this

set_option maxRecDepth 100000 in
set_option maxHeartbeats 1000000 in
theorem all_any (l : List (List Ins)) (lv : Value) (w : World) (h : RdPs w lv l) :
    Calls Tryd.prog 23 #[lv] w fun e w' => e = .returned (.int .i64 (errB (allB l))) ∧ Below w.heap.size w w' := by
  obtain ⟨pvs, h0, hps⟩ := h
  obtain ⟨a, cap, rfl, hn, hc⟩ : ∃ a cap, lv = .slice a l.length cap ∧ l.length ≤ 140737488351232 ∧ ∀ k, k < l.length → ∃ b off, a = some ⟨b, off, none⟩ ∧ b < w.heap.size ∧ w.cell? ⟨b, off + k, none⟩ = some (pvs k) := by
    have h00 : lv = .slice none 0 0 ∧ l.length = 0 ∨ ∃ b off cap, lv = .slice (some ⟨b, off, none⟩) l.length cap ∧ l.length ≤ 140737488351232 ∧ b < w.heap.size ∧ ∀ k, k < l.length → ∀ j x, [pvs k][j]? = some x → w.cell? ⟨b, off + k * 1 + j, none⟩ = some x := h0
    rcases h00 with ⟨rfl, h9⟩ | ⟨b, off, cap, rfl, hn, hb, hc⟩
    · exact ⟨none, 0, by rw [h9], by omega, fun k hk => by omega⟩
    · exact ⟨_, cap, rfl, hn, fun k hk => ⟨b, off, rfl, hb, by simpa using hc k hk 0 _ rfl⟩⟩
  clear h0
  have Hps := hid hps
  have Hc := hid hc
  clear hps hc
  by_cases h1 : l.length < 1
  · go_enter Tryd.func23, Tryd.ntmps23
    go_wp2_with fail
    go_ret
    exact ⟨ret_int64 (by simp [errB, allB]; omega), (Below.refl _ _).alloc (Nat.le_refl _) _⟩
  by_cases h2 : 16 < l.length
  · go_enter Tryd.func23, Tryd.ntmps23
    go_wp2_with fail
    go_ret
    exact ⟨ret_int64 (by simp [errB, allB]; omega), (Below.refl _ _).alloc (Nat.le_refl _) _⟩
  have e1 : decide ((l.length : Int) < 1) = false := by simp; omega
  have e2 : decide ((16 : Int) < (l.length : Int)) = false := by simp; omega
  go_enter Tryd.func23, Tryd.ntmps23
  go_wp2_with fail
  generalize hW : w.alloc _ = W
  have HB : Below w.heap.size w W := by rw [← hW]; exact (Below.refl _ _).alloc (Nat.le_refl _) _
  have hcell : W.cell? ⟨w.heap.size, 0, none⟩ = some (.slice a l.length cap) := by rw [← hW]; simp
  have hsz : w.heap.size < W.heap.size := by rw [← hW]; simp
  clear hW
  go_loopw [4, 15] (fun _ i wr => ∃ k : Nat, k ≤ l.length ∧ i = .int .i64 k ∧ Below W.heap.size W wr ∧ ∀ i, i < k → progBad l.length (l.getD i []) = false) (fun _ i _ => l.length - (intOf i).toNat)
  case atStart => exact ⟨0, Nat.zero_le _, rfl, Below.refl _ _, fun i hi => by omega⟩
  case round =>
    obtain ⟨k, hk, rfl, hB, hno⟩ := hrel
    have Hno := hid hno
    clear hno
    by_cases hlt : k < l.length
    · obtain ⟨b, off, rfl, hb, h0⟩ := Hc.out k hlt
      have hr := (Hps.out k hlt).below (HB.trans (hB.mono HB.size))
      have c0 := ((HB.trans (hB.mono HB.size)).cell (p := ⟨b, off + k, none⟩) hb).trans h0
      have q0 := (hB.cell (p := ⟨w.heap.size, 0, none⟩) hsz).trans hcell
      clear h0
      obtain ⟨pv, hpv⟩ : ∃ pv, pvs k = pv := ⟨_, rfl⟩
      rw [hpv] at hr c0
      clear hpv
      have Hr := hid hr
      obtain ⟨ad', cap', rfl⟩ : ∃ ad cap, pv = .slice ad (l.getD k []).length cap := by
        obtain ⟨svs, h0, _⟩ := hr
        rcases h0 with ⟨rfl, h9⟩ | ⟨b, off, cap, rfl, _⟩
        · exact ⟨none, 0, by rw [h9]⟩
        · exact ⟨_, cap, rfl⟩
      clear hr
      obtain ⟨p, hp⟩ : ∃ p, l.getD k [] = p := ⟨_, rfl⟩
      rw [hp] at Hr c0
      have Hp := hid hp
      clear hp
      cases hk1 : checkB p
      · have Hk := hid hk1
        clear hk1
        go_wp2_with fail
        refine (check_any p _ _ Hr.out).mono ?_
        rintro e w1 ⟨rfl, hb1⟩
        rw [Hk.out]
        rw [show errB false = 1 from rfl]
        go_wp2_with fail
        go_ret
        exact ⟨ret_int64 (by
          have : l.any (progBad l.length) = true := any_at _ _ [] k hlt (by rw [Hp.out]; simp [progBad, Hk.out])
          simp [errB, allB, this]), HB.trans ((hB.trans (hb1.mono hB.size)).mono HB.size)⟩
      · have Hk := hid hk1
        clear hk1
        cases hk2 : p.any (fun i => decide ((l.length : Int) ≤ startsOf i))
        all_goals
          have Hk2 := hid hk2
          clear hk2
          go_wp2_with fail
          refine (check_any p _ _ Hr.out).mono ?_
          rintro e w1 ⟨rfl, hb1⟩
          rw [Hk.out]
          rw [show errB true = 0 from rfl]
          have hB1 := hB.trans (hb1.mono hB.size)
          go_wp2_with fail
          refine (containsIns_any 40 enter_allPred (.pointer (some ⟨w.heap.size, 0, none⟩)) (fun i => decide ((l.length : Int) ≤ startsOf i)) p _ _ (Hr.out.below hb1) ?_).mono ?_
          · intro j hj sv w' hb' hs hr
            exact allPred_any _ sv w.heap.size l.length cap _ w' hs (by rw [hb'.cell (p := ⟨w.heap.size, 0, none⟩) (Nat.lt_of_lt_of_le hsz hB1.size), hB1.cell (p := ⟨w.heap.size, 0, none⟩) hsz]; exact hcell)
          rintro e w2 ⟨rfl, hb2⟩
          rw [Hk2.out]
          have hB2 := hB1.trans (hb2.mono hB1.size)
          go_wp2_with fail
        · go_roundw
          case rel => exact ⟨k + 1, by omega, by go_num, hB2, fun i hi => by
            rcases Nat.lt_succ_iff_lt_or_eq.1 hi with h | rfl
            · exact Hno.out i h
            · rw [Hp.out]; simp only [progBad, Hk.out, Hk2.out]; rfl⟩
          case measure => simp [intOf]; omega
        · go_ret
          exact ⟨ret_int64 (by
            have : l.any (progBad l.length) = true := any_at _ _ [] k hlt (by rw [Hp.out]; simp only [progBad, Hk.out, Hk2.out]; rfl)
            simp [errB, allB, this]), HB.trans (hB2.mono HB.size)⟩
    · obtain rfl : k = l.length := by omega
      go_wp2_with fail
      go_ret
      exact ⟨ret_int64 (by
        have := any_none _ _ [] Hno.out
        simp [errB, allB, this]; omega), HB.trans (hB.mono HB.size)⟩
end Go.Proofs.YtdjknobolflldaaDoor
