/- Package prog over instructions in memory. -/
import Derived.Test.YtdjknobolflldaaDoorInsA
import Derived.Outline
namespace Go.Proofs.YtdjknobolflldaaDoor
open Go.RowKit

/-- The slice value v reads, element by element (sz cells each), as el says; there are n. -/
def Rd (w : World) (v : Value) (n sz : Nat) (el : Nat → List Value) : Prop :=
  (v = .slice none 0 0 ∧ n = 0) ∨ ∃ b off cap, v = .slice (some ⟨b, off, none⟩) n cap ∧ n ≤ 140737488351232 ∧ b < w.heap.size ∧ ∀ k, k < n → ∀ j x, (el k)[j]? = some x → w.cell? ⟨b, off + k * sz + j, none⟩ = some x

theorem Rd.below {w w' : World} {v : Value} {n sz : Nat} {el : Nat → List Value} (h : Rd w v n sz el) (hb : Below w.heap.size w w') : Rd w' v n sz el := by
  rcases h with h | ⟨b, off, cap, h1, h2, h3, h4⟩
  · exact .inl h
  · exact .inr ⟨b, off, cap, h1, h2, Nat.lt_of_lt_of_le h3 hb.size, fun k hk j x hx => by rw [hb.cell h3]; exact h4 k hk j x hx⟩

def noCase : Cs := ⟨false, 0, 0⟩
def idxOf {α : Type} (p : α → Bool) (l : List α) : Int := match l.findIdx? p with | some i => (i : Int) | none => -1


theorem findIdx_at {α : Type} (p : α → Bool) (l : List α) (d : α) (k : Nat) (hk : k < l.length) (hno : ∀ i, i < k → p (l.getD i d) = false) (hp : p (l.getD k d) = true) : idxOf p l = k := by
  have : l.findIdx? p = some k := by
    rw [List.findIdx?_eq_some_iff_getElem]
    refine ⟨hk, by simpa [hk] using hp, fun j hj => ?_⟩
    have := hno j hj
    have hjl : j < l.length := by omega
    simpa [hjl] using this
  simp [idxOf, this]
theorem findIdx_none {α : Type} (p : α → Bool) (l : List α) (d : α) (hno : ∀ i, i < l.length → p (l.getD i d) = false) : idxOf p l = -1 := by
  have : l.findIdx? p = none := by
    rw [List.findIdx?_eq_none_iff]
    intro x hx
    obtain ⟨i, hi, rfl⟩ := List.getElem_of_mem hx
    have := hno i hi
    simpa [hi] using this
  simp [idxOf, this]

set_option maxHeartbeats 400000 in
theorem idxCase_any (l : List Cs) (sv : Value) (w : World) (h : Rd w sv l.length 3 (fun k => (l.getD k noCase).cells)) :
    Calls Tryd.prog 68 #[sv, .func (.func 54) #[] #[]] w fun e w' => e = .returned (.int .i64 (idxOf badCase l)) ∧ Below w.heap.size w w' := by
  have h00 : sv = .slice none 0 0 ∧ l.length = 0 ∨ ∃ b off cap, sv = .slice (some ⟨b, off, none⟩) l.length cap ∧ l.length ≤ 140737488351232 ∧ b < w.heap.size ∧ ∀ k, k < l.length → ∀ j x, ((l.getD k noCase).cells)[j]? = some x → w.cell? ⟨b, off + k * 3 + j, none⟩ = some x := h
  obtain ⟨a, cap, rfl, hn, hc⟩ : ∃ a cap, sv = .slice a l.length cap ∧ l.length ≤ 140737488351232 ∧ ∀ k, k < l.length → ∃ b off, a = some ⟨b, off, none⟩ ∧ b < w.heap.size ∧ w.cell? ⟨b, off + k * 3, none⟩ = some (.bool (l.getD k noCase).send) ∧ w.cell? ⟨b, off + k * 3 + 1, none⟩ = some (.int .i64 (l.getD k noCase).chan) ∧ w.cell? ⟨b, off + k * 3 + 2, none⟩ = some (.int .i64 (l.getD k noCase).val) := by
    rcases h00 with ⟨rfl, h0⟩ | ⟨b, off, cap, rfl, hn, hb, hc⟩
    · exact ⟨none, 0, by rw [h0], by omega, fun k hk => by omega⟩
    · exact ⟨_, cap, rfl, hn, fun k hk => ⟨b, off, rfl, hb, hc k hk 0 _ rfl, hc k hk 1 _ rfl, hc k hk 2 _ rfl⟩⟩
  clear h h00
  go_enter Tryd.func68, Tryd.ntmps68
  go_wp2
  go_loopw [5, 8] (fun _ i wr => ∃ k : Nat, k ≤ l.length ∧ i = .int .i64 k ∧ Below w.heap.size w wr ∧ ∀ i, i < k → badCase (l.getD i noCase) = false) (fun _ i _ => l.length - (intOf i).toNat)
  case atStart => exact ⟨0, Nat.zero_le _, rfl, Below.refl _ _, fun i hi => by omega⟩
  case round =>
    obtain ⟨k, hk, rfl, hB, hno⟩ := hrel
    have Hno := hid hno
    clear hno
    by_cases hlt : k < l.length
    · obtain ⟨b, off, rfl, hb, h0, h1, h2⟩ := hc k hlt
      obtain ⟨s0, n0, v0, hce⟩ : ∃ s n v, l.getD k noCase = ⟨s, n, v⟩ := ⟨_, _, _, rfl⟩
      rw [hce] at h0 h1 h2
      have c0 := (hB.cell (p := ⟨b, off + k * 3, none⟩) hb).trans h0
      have c1 := (hB.cell (p := ⟨b, off + k * 3 + 1, none⟩) hb).trans h1
      have c2 := (hB.cell (p := ⟨b, off + k * 3 + 2, none⟩) hb).trans h2
      have Hc := hid hc
      clear h0 h1 h2 hc
      cases hp : badCase ⟨s0, n0, v0⟩
      all_goals
        have Hp := hid hp
        have Hce := hid hce
        clear hp hce
        go_wp2_with (go_at_call 54; refine (goodCase_any _ _ _ _).mono ?_; rintro e w1 ⟨rfl, hb1⟩; rw [Hp.out])
      · go_roundw
        case rel => exact ⟨k + 1, by omega, by go_num, hB.trans (hb1.mono hB.size), fun i hi => by
          rcases Nat.lt_succ_iff_lt_or_eq.1 hi with h | rfl
          · exact Hno.out i h
          · rw [Hce.out]; exact Hp.out⟩
        case measure => simp [intOf]; omega
      · go_ret
        exact ⟨ret_int64 (findIdx_at _ _ _ _ hlt Hno.out (by rw [Hce.out]; exact Hp.out)).symm, hB.trans (hb1.mono hB.size)⟩
    · obtain rfl : k = l.length := by omega
      go_wp2_with fail
      go_ret
      exact ⟨ret_int64 (findIdx_none _ _ _ Hno.out).symm, hB⟩
end Go.Proofs.YtdjknobolflldaaDoor
