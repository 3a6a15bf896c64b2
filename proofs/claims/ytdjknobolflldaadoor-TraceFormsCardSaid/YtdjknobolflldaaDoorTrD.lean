/- Package trace: First, by the program and by the reference; two rows held against each other. -/
import Derived.Test.YtdjknobolflldaaDoorTrC
import Derived.Laws.StructEq
namespace Go.Proofs.YtdjknobolflldaaDoor
open Go.RowKit

def firstB (l m : List Ev) : Int := match (List.range (min l.length m.length)).find? (fun i => decide (l.getD i noEv ≠ m.getD i noEv)) with
  | some i => (i : Int)
  | none => if l.length = m.length then -1 else (min l.length m.length : Nat)
theorem firstB_at {l m : List Ev} {k : Nat} (h1 : k < l.length) (h2 : k < m.length) (hno : ∀ i, i < k → l.getD i noEv = m.getD i noEv) (hd : l.getD k noEv ≠ m.getD k noEv) : firstB l m = k := by
  have : (List.range (min l.length m.length)).find? (fun i => decide (l.getD i noEv ≠ m.getD i noEv)) = some k := by
    rw [List.find?_range_eq_some]
    refine ⟨by simpa using hd, by simp; omega, fun j hj => ?_⟩
    simpa using hno j hj
  unfold firstB
  rw [this]
theorem firstB_none {l m : List Ev} (hno : ∀ i, i < min l.length m.length → l.getD i noEv = m.getD i noEv) : firstB l m = if l.length = m.length then -1 else ((min l.length m.length : Nat) : Int) := by
  have : (List.range (min l.length m.length)).find? (fun i => decide (l.getD i noEv ≠ m.getD i noEv)) = none := by
    rw [List.find?_range_eq_none]
    intro i hi
    simpa using hno i hi
  unfold firstB
  rw [this]

def Ev.val (e : Ev) : Value := .agg #[.int .i64 e.step, .int .i64 e.kind, .int .i64 e.task, .int .i64 e.a, .int .i64 e.b, .int .i64 e.c]
theorem run_neq_ev (x y : Ev) (w : World) : (binOp .neq 28 x.val y.val).run Tryd.prog w = .ok (.bool (decide (x ≠ y))) w := by
  have u3 := Tryd.underlying3
  have hS : Tryd.prog.underlying 28 = some (.struct (Tryd.prog.fieldsOf 28)) := by kernel_rfl
  have hp : Tryd.prog.stoodInHeld 28 = false := by kernel_rfl
  obtain ⟨s, kd, t, xa, xb, xc⟩ := x
  obtain ⟨s', kd', t', xa', xb', xc'⟩ := y
  simp only [Ev.val]
  rw [run_neq_struct, show (10000 : Nat) = 9999 + 1 from rfl, run_equalIn_agg w 9999 28 _ _ hS hp]
  simp only [Program.fieldsOf, Tryd.underlying28]
  go_simp
  by_cases h1 : s = s' <;> by_cases h2 : kd = kd' <;> by_cases h3 : t = t' <;> by_cases h4 : xa = xa' <;> by_cases h5 : xb = xb' <;> by_cases h6 : xc = xc' <;> simp [h1, h2, h3, h4, h5, h6]
theorem run_guard_ev (op : BinOp) (x y : Operand) (u v : Ev) (w : World) : (eqGuard op 28 x y u.val v.val).run Tryd.prog w = .ok () w :=
  run_eqGuard_agg w op 28 x y _ _ (by kernel_rfl)

set_option maxRecDepth 100000 in
set_option maxHeartbeats 1000000 in
theorem first_any (l m : List Ev) (sv tv : Value) (w : World) (h : Evs w sv l) (h' : Evs w tv m) :
    Calls Tryd.prog 16 #[sv, tv] w fun r w' => r = .returned (.int .i64 (firstB l m)) ∧ Below w.heap.size w w' := by
  obtain ⟨a, cap, rfl, hla, hc⟩ := h.parts
  obtain ⟨a', cap', rfl, hlb, hc'⟩ := h'.parts
  have Hc := hid hc
  have Hc' := hid hc'
  clear h h' hc hc'
  go_enter Tryd.func16, Tryd.ntmps16
  go_wp2_with fail
  obtain ⟨n, hn⟩ : ∃ n : Nat, min l.length m.length = n := ⟨_, rfl⟩
  rw [show (min (l.length : Int) (m.length : Int)) = (n : Int) by omega]
  have Hn := hid hn
  have hnl : n ≤ l.length := by omega
  have hnm : n ≤ m.length := by omega
  clear hn
  go_loopw [6, 13] (fun _ i wr => ∃ k : Nat, k ≤ n ∧ i = .int .i64 k ∧ Below w.heap.size w wr ∧ ∀ i, i < k → l.getD i noEv = m.getD i noEv) (fun _ i _ => n - (intOf i).toNat)
  case atStart => exact ⟨0, Nat.zero_le _, rfl, Below.refl _ _, fun i hi => by omega⟩
  case round =>
    obtain ⟨k, hk, rfl, hB, hno⟩ := hrel
    have Hno := hid hno
    clear hno
    by_cases hlt : k < n
    · have hkl : k < l.length := by omega
      have hkm : k < m.length := by omega
      obtain ⟨b, off, rfl, hb, hcs⟩ := Hc.out k (by omega)
      obtain ⟨b', off', rfl, hb', hcs'⟩ := Hc'.out k (by omega)
      obtain ⟨c0, c1, c2, c3, c4, c5⟩ := hcs wr hB
      obtain ⟨d0, d1, d2, d3, d4, d5⟩ := hcs' wr hB
      clear hcs hcs'
      obtain ⟨x, hx⟩ : ∃ x, l.getD k noEv = x := ⟨_, rfl⟩
      obtain ⟨y, hy⟩ : ∃ y, m.getD k noEv = y := ⟨_, rfl⟩
      rw [hx] at c0 c1 c2 c3 c4 c5
      rw [hy] at d0 d1 d2 d3 d4 d5
      have Hx := hid hx
      have Hy := hid hy
      clear hx hy
      have hq := fun w' => run_neq_ev x y w'
      have hg := fun op u v w' => run_guard_ev op u v x y w'
      by_cases hxy : x = y
      · subst hxy
        obtain ⟨s, kd, t, xa, xb, xc⟩ := x
        simp only at c0 c1 c2 c3 c4 c5 d0 d1 d2 d3 d4 d5
        clear hq hg
        go_wp2_with fail
        go_quiet (fail)
        go_wp2_with fail
        go_roundw
        case rel => exact ⟨k + 1, by omega, by go_num, hB.trans ((drewN_below _ _).mono hB.size), fun i hi => by
          rcases Nat.lt_succ_iff_lt_or_eq.1 hi with h | rfl
          · exact Hno.out i h
          · rw [Hx.out, Hy.out]⟩
        case measure => simp [intOf]; omega
      · have hq' : decide (x ≠ y) = true := by simpa using hxy
        simp only [hq'] at hq
        have Hxy := hid hxy
        clear hxy hq'
        obtain ⟨s, kd, t, xa, xb, xc⟩ := x
        obtain ⟨s', kd', t', xa', xb', xc'⟩ := y
        simp only at c0 c1 c2 c3 c4 c5 d0 d1 d2 d3 d4 d5
        simp only [Ev.val] at hq hg
        go_wp2_with fail
        go_quiet (fail)
        go_wp2_with fail
        go_ret
        exact ⟨ret_int64 (firstB_at hkl hkm Hno.out (by rw [Hx.out, Hy.out]; exact Hxy.out)).symm, hB.trans ((drewN_below _ _).mono hB.size)⟩
    · obtain rfl : k = n := by omega
      by_cases hll : l.length = m.length
      · have e1 : ((l.length : Int) == (m.length : Int)) = true := by simp; omega
        go_wp2_with fail
        go_ret
        exact ⟨ret_int64 (by rw [firstB_none (by rw [Hn.out]; exact Hno.out), if_pos hll]), hB⟩
      · have e1 : ((l.length : Int) == (m.length : Int)) = false := by simp; omega
        have Hll := hid hll
        clear hll
        go_wp2_with fail
        go_ret
        exact ⟨ret_int64 (by rw [firstB_none (by rw [Hn.out]; exact Hno.out), if_neg Hll.out, Hn.out]), hB⟩
end Go.Proofs.YtdjknobolflldaaDoor
