/- The small functions of package prog (register, may, starts, good's predicate): what each returns, for every argument. -/
import Derived.Test.YtdjknobolflldaaDoorProg
import Derived.WalkKit
import Derived.WalkSpells
import Derived.WalkLawsBesides
import Derived.Deep.QuietTactic
import Derived.BigQuiet
import Derived.KernelRfl
namespace Go.Proofs.YtdjknobolflldaaDoor
open Go.RowKit

theorem hid {p : Prop} (h : p) : Hid p := h
/-- The outcome of a walk, behind a name. -/
theorem ret_bool {a b : Bool} (h : a = b) : Ending.returned (.bool a) = Ending.returned (.bool b) := by rw [h]
theorem ret_int64 {a b : Int} (h : a = b) : Ending.returned (.int .i64 a) = Ending.returned (.int .i64 b) := by rw [h]

def regB (n : Int) : Bool := decide (0 ≤ n) && decide (n < 8)
theorem register_any (n : Int) (w : World) : Calls Tryd.prog 55 #[.int .i64 n] w fun e w' => e = .returned (.bool (regB n)) ∧ w = w' := by
  by_cases h1 : 0 ≤ n <;> by_cases h2 : n < 8 <;>
  · go_enter Tryd.func55, Tryd.ntmps55
    go_wp2
    go_ret
    exact ⟨ret_bool (by simp [regB, h1, h2]), rfl⟩

/-- What a field of the kind k may be: 114 r, 112 p, 103 g, 45 -, any other: whatever. -/
def mayB (k : Int) (n places : Int) : Bool :=
  if k = 114 then regB n else if k = 112 then decide (0 ≤ n) && decide (n ≤ places) else if k = 103 then decide (0 ≤ n) && decide (n < 16) else if k = 45 then decide (n = 0) else true
theorem may_any (k n places : Int) (w : World) : Calls Tryd.prog 52 #[.int .u8 k, .int .i64 n, .int .i64 places] w fun e w' => e = .returned (.bool (mayB k n places)) ∧ w = w' := by
  by_cases hk1 : k = 114
  · subst hk1
    go_enter Tryd.func52, Tryd.ntmps52
    go_wp2_with (go_at_call 55; refine (register_any _ _).mono ?_; rintro e w' ⟨rfl, rfl⟩)
    go_ret
    exact ⟨ret_bool (by simp [mayB]), rfl⟩
  have e1 : (k == 114) = false := by simpa using hk1
  by_cases hk2 : k = 112
  · subst hk2
    by_cases h1 : 0 ≤ n <;> by_cases h2 : n ≤ places <;>
    · go_enter Tryd.func52, Tryd.ntmps52
      go_wp2_with fail
      go_ret
      exact ⟨ret_bool (by simp [mayB, h1, h2]), rfl⟩
  have e2 : (k == 112) = false := by simpa using hk2
  by_cases hk3 : k = 103
  · subst hk3
    by_cases h1 : 0 ≤ n <;> by_cases h2 : n < 16 <;>
    · go_enter Tryd.func52, Tryd.ntmps52
      go_wp2_with fail
      go_ret
      exact ⟨ret_bool (by simp [mayB, h1, h2]), rfl⟩
  have e3 : (k == 103) = false := by simpa using hk3
  by_cases hk4 : k = 45
  · subst hk4
    go_enter Tryd.func52, Tryd.ntmps52
    go_wp2_with fail
    go_ret
    exact ⟨ret_bool (by by_cases h : n = 0 <;> simp [mayB, h]), rfl⟩
  have e4 : (k == 45) = false := by simpa using hk4
  have Hs : Hid (¬ k = 114 ∧ ¬ k = 112 ∧ ¬ k = 103 ∧ ¬ k = 45) := ⟨hk1, hk2, hk3, hk4⟩
  clear hk1 hk2 hk3 hk4
  go_enter Tryd.func52, Tryd.ntmps52
  go_wp2_with fail
  go_ret
  exact ⟨ret_bool (by obtain ⟨a, b, c, d⟩ := Hs.out; simp [mayB, a, b, c, d]), rfl⟩

/-- A case of a select, and an instruction, as plain data. -/
structure Cs where
  send : Bool
  chan : Int
  val : Int
structure Ins where
  op : Int
  a : Int
  b : Int
  c : Int
  cases : List Cs
  dflt : Bool
def Cs.cells (c : Cs) : List Value := [.bool c.send, .int .i64 c.chan, .int .i64 c.val]
def badCase (c : Cs) : Bool := !regB c.chan || !regB c.val || (!c.send && decide (c.val ≠ 0))

set_option maxHeartbeats 400000 in
theorem goodCase_any (s : Bool) (n v : Int) (w : World) : Calls Tryd.prog 54 #[.agg #[.bool s, .int .i64 n, .int .i64 v]] w fun e w' => e = .returned (.bool (badCase ⟨s, n, v⟩)) ∧ Below w.heap.size w w' := by
  cases h1 : regB n <;> cases h2 : regB v <;> cases s <;> by_cases h3 : v = 0
  all_goals
    have H1 := hid h1
    have H2 := hid h2
    have H3 := hid h3
    have e3 : (v != 0) = !decide (v = 0) := by by_cases h : v = 0 <;> simp [h]
    simp only [h3, decide_true, decide_false, Bool.not_true, Bool.not_false] at e3
    clear h1 h2 h3
    go_enter Tryd.func54, Tryd.ntmps54
    go_wp2_with (go_at_call 55; refine (register_any _ _).mono ?_; rintro e w' ⟨rfl, rfl⟩; first | rw [H1.out] | rw [H2.out])
    go_ret
    exact ⟨ret_bool (by unfold badCase; simp only [H1.out, H2.out]; simp [H3.out]), (Below.refl _ _).alloc (Nat.le_refl _) _⟩
end Go.Proofs.YtdjknobolflldaaDoor
