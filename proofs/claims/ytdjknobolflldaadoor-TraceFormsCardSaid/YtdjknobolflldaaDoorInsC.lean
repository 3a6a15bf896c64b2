/- Package prog: good. -/
import Derived.Test.YtdjknobolflldaaDoorInsB
namespace Go.Proofs.YtdjknobolflldaaDoor
open Go.RowKit

theorem idxOf_nonneg {α : Type} (p : α → Bool) (l : List α) : decide (0 ≤ idxOf p l) = l.any p := by
  unfold idxOf
  cases h : l.findIdx? p with
  | some i =>
    rw [List.findIdx?_eq_some_iff_getElem] at h
    obtain ⟨hi, hp, _⟩ := h
    have : l.any p = true := List.any_eq_true.2 ⟨l[i], List.getElem_mem hi, hp⟩
    rw [this]; simp
  | none =>
    rw [List.findIdx?_eq_none_iff] at h
    have : l.any p = false := by rw [List.any_eq_false]; intro x hx; simp [h x hx]
    rw [this]; simp

theorem containsCase_any (l : List Cs) (sv : Value) (w : World) (h : Rd w sv l.length 3 (fun k => (l.getD k noCase).cells)) :
    Calls Tryd.prog 53 #[sv, .func (.func 54) #[] #[]] w fun e w' => e = .returned (.bool (l.any badCase)) ∧ Below w.heap.size w w' := by
  have H := hid h
  have Hi := hid (idxOf_nonneg badCase l)
  clear h
  go_enter Tryd.func53, Tryd.ntmps53
  go_wp2_with (go_at_call 68; refine (idxCase_any _ _ _ H.out).mono ?_; rintro e w1 ⟨rfl, hb1⟩)
  go_ret
  exact ⟨ret_bool Hi.out, hb1⟩

/-- What A, B and C of an operation are, three letters an operation. -/
def kindArr : Array UInt8 := #[114, 110, 45, 114, 114, 45, 114, 110, 45, 112, 45, 45, 114, 112, 45, 114, 45, 45, 45, 45, 45, 114, 103, 45, 114, 110, 45, 114, 114, 45, 114, 114, 114, 114, 45, 45, 114, 114, 45, 114, 114, 45, 114, 114, 114, 114, 45, 45, 114, 114, 114, 114, 114, 114, 114, 114, 103, 114, 114, 45, 114, 114, 114, 114, 114, 45, 114, 114, 114, 114, 114, 114, 114, 114, 45, 114, 114, 45, 114, 114, 45, 114, 114, 45, 114, 114, 45, 114, 114, 114, 114, 114, 103, 114, 114, 45]
def kindAt (op : Int) (k : Nat) : Int := ((kindArr[(3 * (op - 1) + k).toNat]?.getD 0).toNat : Int)
theorem kind_eq (i : Nat) (h : i < (⟨kindArr⟩ : ByteArray).size) (op : Int) (k : Nat) (hi : i = (3 * (op - 1) + k).toNat) : ((((⟨kindArr⟩ : ByteArray)[i]'h).toNat : Nat) : Int) = kindAt op k := by
  subst hi
  have h' : (3 * (op - 1) + (k : Int)).toNat < kindArr.size := h
  unfold kindAt
  rw [Array.getElem?_eq_getElem h']
  rfl
theorem may_is (q k n places : Int) (w : World) (h : k = q) : Calls Tryd.prog 52 #[.int .u8 k, .int .i64 n, .int .i64 places] w fun e w' => e = .returned (.bool (mayB q n places)) ∧ w = w' := by
  subst h; exact may_any _ _ _ _
def okFields (op a b c places : Int) : Bool := mayB (kindAt op 0) a places && mayB (kindAt op 1) b places && mayB (kindAt op 2) c places
def odd (op : Int) (n : Nat) (d : Bool) : Bool := decide (op < 1) || decide (op > 32) || (decide (op ≠ 15) && (decide (0 < n) || d)) || decide (16 < n)
def goodB (i : Ins) (places : Int) : Bool := !odd i.op i.cases.length i.dflt && okFields i.op i.a i.b i.c places && !i.cases.any badCase

set_option maxHeartbeats 1000000 in
theorem good_odd (op a b c places : Int) (cs : List Cs) (d : Bool) (sv : Value) (w : World) (h : Rd w sv cs.length 3 (fun k => (cs.getD k noCase).cells)) (ho : odd op cs.length d = true) :
    Calls Tryd.prog 39 #[.agg #[.int .i64 op, .int .i64 a, .int .i64 b, .int .i64 c, sv, .bool d], .int .i64 places] w fun e w' => e = .returned (.bool false) ∧ Below w.heap.size w w' := by
  obtain ⟨ad, cap, rfl⟩ : ∃ ad cap, sv = .slice ad cs.length cap := by
    rcases h with ⟨rfl, h0⟩ | ⟨b, off, cap, rfl, _⟩
    · exact ⟨none, 0, by rw [h0]⟩
    · exact ⟨_, cap, rfl⟩
  clear h
  by_cases h1 : op < 1
  · clear ho
    go_enter Tryd.func39, Tryd.ntmps39
    go_wp2_with fail
    go_ret
    exact ⟨rfl, (Below.refl _ _).alloc (Nat.le_refl _) _⟩
  by_cases h2 : 32 < op
  · clear ho
    go_enter Tryd.func39, Tryd.ntmps39
    go_wp2_with fail
    go_ret
    exact ⟨rfl, (Below.refl _ _).alloc (Nat.le_refl _) _⟩
  have ho' : (decide (op ≠ 15) && (decide (0 < cs.length) || d)) = true ∨ 16 < cs.length := by
    have e1 : ¬ op > 32 := h2
    unfold odd at ho
    simp only [h1, e1, decide_false, Bool.false_or, Bool.or_eq_true, decide_eq_true_eq] at ho
    exact ho
  clear ho
  by_cases h3 : op = 15
  · subst h3
    have h4 : 16 < cs.length := by simpa using ho'
    clear ho'
    go_enter Tryd.func39, Tryd.ntmps39
    go_wp2_with fail
    go_ret
    exact ⟨rfl, (Below.refl _ _).alloc (Nat.le_refl _) _⟩
  have e3 : (op != 15) = true := by rw [bne_iff_ne]; exact h3
  clear h3
  by_cases h5 : 0 < cs.length
  · clear ho'
    go_enter Tryd.func39, Tryd.ntmps39
    go_wp2_with fail
    go_ret
    exact ⟨rfl, (Below.refl _ _).alloc (Nat.le_refl _) _⟩
  obtain rfl : cs = [] := List.eq_nil_of_length_eq_zero (by omega)
  cases d
  · simp at ho'
  clear ho' h5
  go_enter Tryd.func39, Tryd.ntmps39
  go_wp2_with fail
  go_ret
  exact ⟨rfl, (Below.refl _ _).alloc (Nat.le_refl _) _⟩

set_option maxHeartbeats 1000000 in
theorem good_even (op a b c places : Int) (cs : List Cs) (d : Bool) (sv : Value) (w : World) (h : Rd w sv cs.length 3 (fun k => (cs.getD k noCase).cells))
    (h1 : 1 ≤ op) (h2 : op ≤ 32) (h3 : op = 15 ∧ cs.length ≤ 16 ∨ op ≠ 15 ∧ cs = [] ∧ d = false) :
    Calls Tryd.prog 39 #[.agg #[.int .i64 op, .int .i64 a, .int .i64 b, .int .i64 c, sv, .bool d], .int .i64 places] w fun e w' => e = .returned (.bool (okFields op a b c places && !cs.any badCase)) ∧ Below w.heap.size w w' := by
  have Hr := hid h
  obtain ⟨ad, cap, rfl⟩ : ∃ ad cap, sv = .slice ad cs.length cap := by
    rcases h with ⟨rfl, h0⟩ | ⟨b, off, cap, rfl, _⟩
    · exact ⟨none, 0, by rw [h0]⟩
    · exact ⟨_, cap, rfl⟩
  clear h
  rcases h3 with ⟨h3, h4⟩ | ⟨h4, rfl, rfl⟩
  · have e3 : (op != 15) = false := by rw [h3]; rfl
    have e7 : decide ((16 : Int) < (cs.length : Int)) = false := by simp; omega
    clear h3
    have e5 : decide (op < 1) = false := by simp; omega
    have e6 : decide (32 < op) = false := by simp; omega
    go_enter Tryd.func39, Tryd.ntmps39
    go_wp2_with fail
    go_loop [5, 6, 44] (fun _ _ i => ∃ k : Nat, k ≤ 3 ∧ i = .int .i64 k ∧ (0 < k → mayB (kindAt op 0) a places = true) ∧ (1 < k → mayB (kindAt op 1) b places = true) ∧ (2 < k → mayB (kindAt op 2) c places = true)) (fun _ _ i => 3 - (intOf i).toNat)
    case atStart => exact ⟨0, by omega, rfl, by omega, by omega, by omega⟩
    case round =>
      obtain ⟨k, hk, rfl, g0, g1, g2⟩ := hrel
      have G := hid (And.intro g0 (And.intro g1 g2))
      clear g0 g1 g2
      obtain rfl | rfl | rfl | rfl : k = 0 ∨ k = 1 ∨ k = 2 ∨ k = 3 := by omega
      · cases hm : mayB (kindAt op 0) a places
        all_goals
          have Hm := hid hm
          clear hm
          go_wp2_with fail
          refine (may_is (kindAt op 0) _ _ _ _ (kind_eq _ _ op 0 (by omega))).mono ?_
          rintro e w1 ⟨rfl, rfl⟩
          rw [Hm.out]
          go_wp2_with fail
        · go_ret
          exact ⟨ret_bool (by simp [okFields, Hm.out]), ((Below.refl _ _).alloc (Nat.le_refl _) _).alloc (by simp) _⟩
        · go_round
          case rel => exact ⟨1, by omega, rfl, by first | trivial | exact fun _ => Hm.out | exact fun _ => G.out.1 (by omega), by first | trivial | exact fun _ => Hm.out | exact fun _ => G.out.2.1 (by omega) | exact fun h => absurd h (by omega), by first | trivial | exact fun _ => Hm.out | exact fun h => absurd h (by omega)⟩
          case measure => simp [intOf]
      · cases hm : mayB (kindAt op 1) b places
        all_goals
          have Hm := hid hm
          clear hm
          go_wp2_with fail
          refine (may_is (kindAt op 1) _ _ _ _ (kind_eq _ _ op 1 (by omega))).mono ?_
          rintro e w1 ⟨rfl, rfl⟩
          rw [Hm.out]
          go_wp2_with fail
        · go_ret
          exact ⟨ret_bool (by simp [okFields, Hm.out]), ((Below.refl _ _).alloc (Nat.le_refl _) _).alloc (by simp) _⟩
        · go_round
          case rel => exact ⟨2, by omega, rfl, by first | trivial | exact fun _ => Hm.out | exact fun _ => G.out.1 (by omega), by first | trivial | exact fun _ => Hm.out | exact fun _ => G.out.2.1 (by omega) | exact fun h => absurd h (by omega), by first | trivial | exact fun _ => Hm.out | exact fun h => absurd h (by omega)⟩
          case measure => simp [intOf]
      · cases hm : mayB (kindAt op 2) c places
        all_goals
          have Hm := hid hm
          clear hm
          go_wp2_with fail
          refine (may_is (kindAt op 2) _ _ _ _ (kind_eq _ _ op 2 (by omega))).mono ?_
          rintro e w1 ⟨rfl, rfl⟩
          rw [Hm.out]
          go_wp2_with fail
        · go_ret
          exact ⟨ret_bool (by simp [okFields, Hm.out]), ((Below.refl _ _).alloc (Nat.le_refl _) _).alloc (by simp) _⟩
        · go_round
          case rel => exact ⟨3, by omega, rfl, by first | trivial | exact fun _ => Hm.out | exact fun _ => G.out.1 (by omega), by first | trivial | exact fun _ => Hm.out | exact fun _ => G.out.2.1 (by omega) | exact fun h => absurd h (by omega), by first | trivial | exact fun _ => Hm.out | exact fun h => absurd h (by omega)⟩
          case measure => simp [intOf]
      · have h0 := G.out.1 (by omega)
        have h1 := G.out.2.1 (by omega)
        have h2 := G.out.2.2 (by omega)
        have Hf := hid (show okFields op a b c places = true by simp [okFields, h0, h1, h2])
        clear h0 h1 h2
        go_wp2_with fail
        refine (containsCase_any cs _ _ ((Hr.out.below (((Below.refl _ _).alloc (Nat.le_refl _) _).alloc (by simp) _)))).mono ?_
        rintro e w1 ⟨rfl, hb1⟩
        go_wp2_with fail
        go_ret
        exact ⟨ret_bool (by rw [Hf.out]; simp), (((Below.refl _ _).alloc (Nat.le_refl _) _).alloc (by simp) _).trans (hb1.mono (by simp; omega))⟩
  · have e3 : (op != 15) = true := by rw [bne_iff_ne]; exact h4
    clear h4
    have e5 : decide (op < 1) = false := by simp; omega
    have e6 : decide (32 < op) = false := by simp; omega
    go_enter Tryd.func39, Tryd.ntmps39
    go_wp2_with fail
    go_loop [5, 6, 44] (fun _ _ i => ∃ k : Nat, k ≤ 3 ∧ i = .int .i64 k ∧ (0 < k → mayB (kindAt op 0) a places = true) ∧ (1 < k → mayB (kindAt op 1) b places = true) ∧ (2 < k → mayB (kindAt op 2) c places = true)) (fun _ _ i => 3 - (intOf i).toNat)
    case atStart => exact ⟨0, by omega, rfl, by omega, by omega, by omega⟩
    case round =>
      obtain ⟨k, hk, rfl, g0, g1, g2⟩ := hrel
      have G := hid (And.intro g0 (And.intro g1 g2))
      clear g0 g1 g2
      obtain rfl | rfl | rfl | rfl : k = 0 ∨ k = 1 ∨ k = 2 ∨ k = 3 := by omega
      · cases hm : mayB (kindAt op 0) a places
        all_goals
          have Hm := hid hm
          clear hm
          go_wp2_with fail
          refine (may_is (kindAt op 0) _ _ _ _ (kind_eq _ _ op 0 (by omega))).mono ?_
          rintro e w1 ⟨rfl, rfl⟩
          rw [Hm.out]
          go_wp2_with fail
        · go_ret
          exact ⟨ret_bool (by simp [okFields, Hm.out]), ((Below.refl _ _).alloc (Nat.le_refl _) _).alloc (by simp) _⟩
        · go_round
          case rel => exact ⟨1, by omega, rfl, by first | trivial | exact fun _ => Hm.out | exact fun _ => G.out.1 (by omega), by first | trivial | exact fun _ => Hm.out | exact fun _ => G.out.2.1 (by omega) | exact fun h => absurd h (by omega), by first | trivial | exact fun _ => Hm.out | exact fun h => absurd h (by omega)⟩
          case measure => simp [intOf]
      · cases hm : mayB (kindAt op 1) b places
        all_goals
          have Hm := hid hm
          clear hm
          go_wp2_with fail
          refine (may_is (kindAt op 1) _ _ _ _ (kind_eq _ _ op 1 (by omega))).mono ?_
          rintro e w1 ⟨rfl, rfl⟩
          rw [Hm.out]
          go_wp2_with fail
        · go_ret
          exact ⟨ret_bool (by simp [okFields, Hm.out]), ((Below.refl _ _).alloc (Nat.le_refl _) _).alloc (by simp) _⟩
        · go_round
          case rel => exact ⟨2, by omega, rfl, by first | trivial | exact fun _ => Hm.out | exact fun _ => G.out.1 (by omega), by first | trivial | exact fun _ => Hm.out | exact fun _ => G.out.2.1 (by omega) | exact fun h => absurd h (by omega), by first | trivial | exact fun _ => Hm.out | exact fun h => absurd h (by omega)⟩
          case measure => simp [intOf]
      · cases hm : mayB (kindAt op 2) c places
        all_goals
          have Hm := hid hm
          clear hm
          go_wp2_with fail
          refine (may_is (kindAt op 2) _ _ _ _ (kind_eq _ _ op 2 (by omega))).mono ?_
          rintro e w1 ⟨rfl, rfl⟩
          rw [Hm.out]
          go_wp2_with fail
        · go_ret
          exact ⟨ret_bool (by simp [okFields, Hm.out]), ((Below.refl _ _).alloc (Nat.le_refl _) _).alloc (by simp) _⟩
        · go_round
          case rel => exact ⟨3, by omega, rfl, by first | trivial | exact fun _ => Hm.out | exact fun _ => G.out.1 (by omega), by first | trivial | exact fun _ => Hm.out | exact fun _ => G.out.2.1 (by omega) | exact fun h => absurd h (by omega), by first | trivial | exact fun _ => Hm.out | exact fun h => absurd h (by omega)⟩
          case measure => simp [intOf]
      · have h0 := G.out.1 (by omega)
        have h1 := G.out.2.1 (by omega)
        have h2 := G.out.2.2 (by omega)
        have Hf := hid (show okFields op a b c places = true by simp [okFields, h0, h1, h2])
        clear h0 h1 h2
        go_wp2_with fail
        refine (containsCase_any [] _ _ ((Hr.out.below (((Below.refl _ _).alloc (Nat.le_refl _) _).alloc (by simp) _)))).mono ?_
        rintro e w1 ⟨rfl, hb1⟩
        go_wp2_with fail
        go_ret
        exact ⟨ret_bool (by rw [Hf.out]; simp), (((Below.refl _ _).alloc (Nat.le_refl _) _).alloc (by simp) _).trans (hb1.mono (by simp; omega))⟩

theorem good_any (i : Ins) (places : Int) (sv : Value) (w : World) (h : Rd w sv i.cases.length 3 (fun k => (i.cases.getD k noCase).cells)) :
    Calls Tryd.prog 39 #[.agg #[.int .i64 i.op, .int .i64 i.a, .int .i64 i.b, .int .i64 i.c, sv, .bool i.dflt], .int .i64 places] w fun e w' => e = .returned (.bool (goodB i places)) ∧ Below w.heap.size w w' := by
  cases ho : odd i.op i.cases.length i.dflt
  · have h' := ho
    simp only [odd, Bool.or_eq_false_iff, decide_eq_false_iff_not, Bool.and_eq_false_iff] at h'
    obtain ⟨⟨⟨h1, h2⟩, h3⟩, h4⟩ := h'
    refine (good_even i.op i.a i.b i.c places i.cases i.dflt sv w h (by omega) (by omega) ?_).mono fun e w' ⟨he, hb⟩ => ⟨by rw [he]; simp [goodB, ho], hb⟩
    rcases h3 with h3 | ⟨h3, h5⟩
    · exact .inl ⟨by omega, by omega⟩
    · by_cases h6 : i.op = 15
      · exact .inl ⟨h6, by omega⟩
      · exact .inr ⟨h6, List.eq_nil_of_length_eq_zero (by omega), h5⟩
  · exact (good_odd i.op i.a i.b i.c places i.cases i.dflt sv w h ho).mono fun e w' ⟨he, hb⟩ => ⟨by rw [he]; simp [goodB, ho], hb⟩
end Go.Proofs.YtdjknobolflldaaDoor
