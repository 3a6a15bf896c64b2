/- Package trace: the reference's First, the rows held against each other, Round. -/
import Derived.Test.YtdjknobolflldaaDoorTrD
namespace Go.Proofs.YtdjknobolflldaaDoor
open Go.RowKit

set_option maxRecDepth 100000 in
set_option maxHeartbeats 1000000 in
theorem refFirst_any (l m : List Ev) (sv tv : Value) (w : World) (h : Evs w sv l) (h' : Evs w tv m) :
    Calls Tryd.prog 17 #[sv, tv] w fun r w' => r = .returned (.int .i64 (firstB l m)) ∧ Below w.heap.size w w' := by
  obtain ⟨a, cap, rfl, hla, hc⟩ := h.parts
  obtain ⟨a', cap', rfl, hlb, hc'⟩ := h'.parts
  have Hc := hid hc
  have Hc' := hid hc'
  clear h h' hc hc'
  go_enter Tryd.func17, Tryd.ntmps17
  go_wp2_with fail
  go_loopw [5] (fun i wr => ∃ k : Nat, k ≤ l.length ∧ k ≤ m.length ∧ i = .int .i64 k ∧ Below w.heap.size w wr ∧ ∀ i, i < k → l.getD i noEv = m.getD i noEv) (fun i _ => l.length - (intOf i).toNat)
  case atStart => exact ⟨0, Nat.zero_le _, Nat.zero_le _, rfl, Below.refl _ _, fun i hi => by omega⟩
  case round =>
    obtain ⟨k, hk1, hk2, rfl, hB, hno⟩ := hrel
    have Hno := hid hno
    clear hno
    by_cases hkl : k < l.length
    · by_cases hkm : k < m.length
      · obtain ⟨b, off, rfl, hb, hcs⟩ := Hc.out k (by omega)
        obtain ⟨b', off', rfl, hb', hcs'⟩ := Hc'.out k (by omega)
        obtain ⟨c0, c1, c2, c3, c4, c5⟩ := hcs wr hB
        obtain ⟨d0, d1, d2, d3, d4, d5⟩ := hcs' wr hB
        clear hcs hcs'
        obtain ⟨x, hx⟩ : ∃ x, l.getD k noEv = x := ⟨_, rfl⟩
        obtain ⟨y, hy⟩ : ∃ y, m.getD k noEv = y := ⟨_, rfl⟩
        rw [hx] at c0 c1 c2 c3 c4 c5
        rw [hy] at d0 d1 d2 d3 d4 d5
        have Hx := hid hx
        have Hy := hid hy
        clear hx hy
        have hq := fun w' => run_neq_ev x y w'
        have hg := fun op u v w' => run_guard_ev op u v x y w'
        by_cases hxy : x = y
        · subst hxy
          obtain ⟨s, kd, t, xa, xb, xc⟩ := x
          simp only at c0 c1 c2 c3 c4 c5 d0 d1 d2 d3 d4 d5
          clear hq hg
          go_wp2_with fail
          go_quiet (fail)
          go_wp2_with fail
          go_roundw
          case rel => exact ⟨k + 1, by omega, by omega, by go_num, hB.trans ((drewN_below _ _).mono hB.size), fun i hi => by
            rcases Nat.lt_succ_iff_lt_or_eq.1 hi with h | rfl
            · exact Hno.out i h
            · rw [Hx.out, Hy.out]⟩
          case measure => simp [intOf]; omega
        · have hq' : decide (x ≠ y) = true := by simpa using hxy
          simp only [hq'] at hq
          have Hxy := hid hxy
          clear hxy hq'
          obtain ⟨s, kd, t, xa, xb, xc⟩ := x
          obtain ⟨s', kd', t', xa', xb', xc'⟩ := y
          simp only at c0 c1 c2 c3 c4 c5 d0 d1 d2 d3 d4 d5
          simp only [Ev.val] at hq hg
          go_wp2_with fail
          go_quiet (fail)
          go_wp2_with fail
          go_ret
          exact ⟨ret_int64 (firstB_at hkl hkm Hno.out (by rw [Hx.out, Hy.out]; exact Hxy.out)).symm, hB.trans ((drewN_below _ _).mono hB.size)⟩
      · obtain rfl : k = m.length := by omega
        have e1 : ((l.length : Int) == (m.length : Int)) = false := by simp; omega
        have hmin : min (l.length : Int) (m.length : Int) = (m.length : Int) := by omega
        have hf : firstB l m = m.length := by rw [firstB_none (by rw [Nat.min_eq_right hk1]; exact Hno.out), if_neg (by omega), Nat.min_eq_right hk1]
        have Hf := hid hf
        clear hf
        go_wp2_with fail
        go_ret
        exact ⟨ret_int64 Hf.out.symm, hB⟩
    · obtain rfl : k = l.length := by omega
      by_cases hll : l.length = m.length
      · have e1 : ((l.length : Int) == (m.length : Int)) = true := by simp; omega
        have hf : firstB l m = -1 := by rw [firstB_none (by rw [Nat.min_eq_left hk2]; exact Hno.out), if_pos hll]
        have Hf := hid hf
        clear hf hll
        go_wp2_with fail
        go_ret
        exact ⟨ret_int64 Hf.out.symm, hB⟩
      · have e1 : ((l.length : Int) == (m.length : Int)) = false := by simp; omega
        have hmin : min (l.length : Int) (m.length : Int) = (l.length : Int) := by omega
        have hf : firstB l m = l.length := by rw [firstB_none (by rw [Nat.min_eq_left hk2]; exact Hno.out), if_neg hll, Nat.min_eq_left hk2]
        have Hf := hid hf
        clear hf hll
        go_wp2_with fail
        go_ret
        exact ⟨ret_int64 Hf.out.symm, hB⟩

def sameE (a b : List Ev) : Bool := decide (a = b)
theorem sameE_of {xs ys : List Ev} (hl : xs.length = ys.length) (h : ∀ i, i < xs.length → xs.getD i noEv = ys.getD i noEv) : sameE xs ys = true := by
  unfold sameE
  rw [decide_eq_true_eq]
  refine List.ext_getElem hl fun i h1 h2 => ?_
  have := h i h1
  simpa [h1, h2] using this
theorem sameE_not {xs ys : List Ev} (k : Nat) (h : xs.getD k noEv ≠ ys.getD k noEv) : sameE xs ys = false := by
  unfold sameE
  rw [decide_eq_false_iff_not]
  intro e; exact h (by rw [e])

set_option maxRecDepth 100000 in
set_option maxHeartbeats 1000000 in
theorem events_any (l m : List Ev) (sv tv : Value) (w : World) (h : Evs w sv l) (h' : Evs w tv m) :
    Calls Tryd.prog 19 #[sv, tv] w fun r w' => r = .returned (.bool (sameE l m)) ∧ Below w.heap.size w w' := by
  obtain ⟨a, cap, rfl, hla, hc⟩ := h.parts
  obtain ⟨a', cap', rfl, hlb, hc'⟩ := h'.parts
  have Hc := hid hc
  have Hc' := hid hc'
  clear h h' hc hc'
  by_cases hl : l.length = m.length
  · have HL := hid hl
    go_enter Tryd.func19, Tryd.ntmps19
    have e1 : ((l.length : Int) != (m.length : Int)) = false := by simp; omega
    go_wp2_with fail
    clear e1
    go_loopw [5] (fun i wr => ∃ k : Nat, k ≤ l.length ∧ i = .int .i64 k ∧ Below w.heap.size w wr ∧ ∀ i, i < k → l.getD i noEv = m.getD i noEv) (fun i _ => l.length - (intOf i).toNat)
    case atStart => exact ⟨0, Nat.zero_le _, rfl, Below.refl _ _, fun i hi => by omega⟩
    case round =>
      obtain ⟨k, hk1, rfl, hB, hno⟩ := hrel
      have Hno := hid hno
      clear hno
      by_cases hkl : k < l.length
      · have hkm : k < m.length := by omega
        obtain ⟨b, off, rfl, hb, hcs⟩ := Hc.out k (by omega)
        obtain ⟨b', off', rfl, hb', hcs'⟩ := Hc'.out k (by omega)
        obtain ⟨c0, c1, c2, c3, c4, c5⟩ := hcs wr hB
        obtain ⟨d0, d1, d2, d3, d4, d5⟩ := hcs' wr hB
        clear hcs hcs'
        obtain ⟨x, hx⟩ : ∃ x, l.getD k noEv = x := ⟨_, rfl⟩
        obtain ⟨y, hy⟩ : ∃ y, m.getD k noEv = y := ⟨_, rfl⟩
        rw [hx] at c0 c1 c2 c3 c4 c5
        rw [hy] at d0 d1 d2 d3 d4 d5
        have Hx := hid hx
        have Hy := hid hy
        clear hx hy
        have hq := fun w' => run_neq_ev x y w'
        have hg := fun op u v w' => run_guard_ev op u v x y w'
        by_cases hxy : x = y
        · subst hxy
          obtain ⟨s, kd, t, xa, xb, xc⟩ := x
          simp only at c0 c1 c2 c3 c4 c5 d0 d1 d2 d3 d4 d5
          clear hq hg
          go_wp2_with fail
          go_quiet (fail)
          go_wp2_with fail
          go_roundw
          case rel => exact ⟨k + 1, by omega, by go_num, hB.trans ((drewN_below _ _).mono hB.size), fun i hi => by
            rcases Nat.lt_succ_iff_lt_or_eq.1 hi with h | rfl
            · exact Hno.out i h
            · rw [Hx.out, Hy.out]⟩
          case measure => simp [intOf]; omega
        · have hq' : decide (x ≠ y) = true := by simpa using hxy
          simp only [hq'] at hq
          have Hxy := hid hxy
          clear hxy hq'
          obtain ⟨s, kd, t, xa, xb, xc⟩ := x
          obtain ⟨s', kd', t', xa', xb', xc'⟩ := y
          simp only at c0 c1 c2 c3 c4 c5 d0 d1 d2 d3 d4 d5
          simp only [Ev.val] at hq hg
          go_wp2_with fail
          go_quiet (fail)
          go_wp2_with fail
          go_ret
          exact ⟨ret_bool (sameE_not k (by rw [Hx.out, Hy.out]; exact Hxy.out)).symm, hB.trans ((drewN_below _ _).mono hB.size)⟩
      · obtain rfl : k = l.length := by omega
        have hf : sameE l m = true := sameE_of hl Hno.out
        have Hf := hid hf
        clear hf
        go_wp2_with fail
        go_ret
        exact ⟨ret_bool Hf.out.symm, hB⟩
  · have e1 : ((l.length : Int) != (m.length : Int)) = true := by rw [bne_iff_ne]; omega
    have HL := hid hl
    clear hl
    go_enter Tryd.func19, Tryd.ntmps19
    go_wp2_with fail
    go_ret
    exact ⟨ret_bool (by unfold sameE; rw [eq_comm, decide_eq_false_iff_not]; intro e; exact HL.out (by rw [e])), Below.refl _ _⟩

theorem tmod_emod (k n : Int) (hn : 0 < n) : (k.tmod n + n) % n = k % n := by
  rw [Int.add_emod_right, Int.tmod_eq_emod]
  split
  · simp
  · rw [show ((n.natAbs : Nat) : Int) = n by omega, Int.sub_emod_right, Int.emod_emod]

set_option maxRecDepth 100000 in
theorem round_any (k n : Int) (hk : I64 k) (h1 : 1 ≤ n) (h2 : n ≤ 1000000000000) (w : World) :
    Calls Tryd.prog 20 #[.int .i64 k, .int .i64 n] w fun r w' => r = .returned (.int .i64 (k % n)) ∧ w = w' := by
  have Hm := hid (tmod_emod k n (by omega))
  obtain ⟨hk1, hk2⟩ := hk
  have Hn := hid h1
  have hn0 : n ≠ 0 := by omega
  have b1 : k.tmod n < n := Int.tmod_lt_of_pos k (by omega)
  have b2 : -n < k.tmod n := by
    by_cases h : k < 0
    · have h3 : (-k).tmod n < n := Int.tmod_lt_of_pos (-k) (by omega)
      rw [Int.neg_tmod] at h3; omega
    · have := Int.tmod_nonneg n (show 0 ≤ k by omega); omega
  go_enter Tryd.func20, Tryd.ntmps20
  go_wp2_with fail
  go_ret
  exact ⟨ret_int64 Hm.out, rfl⟩
end Go.Proofs.YtdjknobolflldaaDoor
