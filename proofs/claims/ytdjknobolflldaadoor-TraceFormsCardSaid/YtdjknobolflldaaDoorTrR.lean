/- Lines that are none: the plain law of TraceForms. -/
import Derived.Test.YtdjknobolflldaaDoorTrO
namespace Go.Proofs.YtdjknobolflldaaDoor
open Go.RowKit

theorem cutB {b : UInt8} : ∀ {x y t u : List UInt8}, b ∉ x → b ∉ y → x ++ b :: t = y ++ b :: u → x = y ∧ t = u
  | [], [], t, u, _, _, h => by simpa using h
  | [], c :: y, t, u, _, hy, h => by
    simp only [List.nil_append, List.cons_append, List.cons.injEq] at h
    exact absurd (by simp [← h.1]) hy
  | c :: x, [], t, u, hx, _, h => by
    simp only [List.nil_append, List.cons_append, List.cons.injEq] at h
    exact absurd (by simp [h.1]) hx
  | c :: x, d :: y, t, u, hx, hy, h => by
    simp only [List.cons_append, List.cons.injEq] at h
    obtain ⟨h1, h2⟩ := cutB (fun hm => hx (by simp [hm])) (fun hm => hy (by simp [hm])) h.2
    exact ⟨by rw [h.1, h1], h2⟩
theorem dec_head (u : Nat) (hu : 1 ≤ u) : ∃ c r, Lib.decDigits u = c :: r ∧ c ≠ 48 := by
  induction u using Nat.strongRecOn with
  | _ u ih =>
    rw [Lib.decDigits]
    by_cases h10 : u < 10
    · rw [dif_pos h10]
      refine ⟨_, [], rfl, fun h => ?_⟩
      have h1 := digit_nat h10
      rw [h] at h1
      simp at h1
      omega
    · rw [dif_neg h10]
      obtain ⟨c, r, hc, hne⟩ := ih (u / 10) (by omega) (by omega)
      rw [hc]
      exact ⟨c, _, rfl, hne⟩
/-- A numeral that begins with 0 is 0's own. -/
theorem itoa_zero {m : Int} {r : List UInt8} (h : Lib.itoa m = 48 :: r) : r = [] := by
  unfold Lib.itoa at h
  split at h
  · simp at h
  · by_cases h0 : m.toNat = 0
    · rw [h0, Lib.decDigits_one (by decide)] at h
      simp at h
      exact h
    · obtain ⟨c, r', hc, hne⟩ := dec_head m.toNat (by omega)
      rw [hc] at h
      simp at h
      exact absurd h.1 hne
theorem itoa_minus {m : Int} {r : List UInt8} (h : Lib.itoa m = 45 :: 48 :: r) : False := by
  unfold Lib.itoa at h
  split at h
  · simp only [List.cons.injEq, true_and] at h
    obtain ⟨c, r', hc, hne⟩ := dec_head m.natAbs (by omega)
    rw [hc] at h
    simp at h
    exact hne h.1
  · have := dec_bytes m.toNat 45 (by rw [h]; simp)
    simp at this
theorem count32_none {l : List UInt8} (h : (32 : UInt8) ∉ l) : l.count 32 = 0 := List.count_eq_zero.2 h
theorem line_count (e : Ev) : (lineB e).count 32 = 5 := by
  rw [lineB_cat]
  simp [List.count_append, count32_none (itoa_no32 _), count32_none (word_no32 _)]
theorem line_step (e : Ev) : ∃ r, lineB e = Lib.itoa e.step ++ 32 :: r := ⟨_, by rw [lineB_cat]; simp; rfl⟩
theorem line_task (e : Ev) : ∃ r, lineB e = Lib.itoa e.step ++ 32 :: (wordB e.kind ++ 32 :: (Lib.itoa e.task ++ 32 :: r)) := ⟨_, by rw [lineB_cat]; simp; rfl⟩
theorem line_of_ok {x : List UInt8} (h : eventOk (by8 x) = true) : ∃ e : Ev, e.ok ∧ x = lineB e := ⟨evN (by8 x), evN_ok _, (eventOk_sound h).symm⟩
theorem not_ok {x : List UInt8} (h : ∀ e : Ev, x ≠ lineB e) : eventOk (by8 x) = false := by
  cases hb : eventOk (by8 x) with
  | false => rfl
  | true => obtain ⟨e, _, he⟩ := line_of_ok hb; exact absurd he (h e)
theorem no_text {x : List UInt8} (h10 : (10 : UInt8) ∉ x) (hb : eventOk (by8 x) = false) : ∀ l, AllOk l → x ++ [10] ≠ textB l :=
  bad_line (l := []) (t := []) (fun e he => by simp at he) h10 (by simp [textB]) hb

def evF (n : Int) : Ev := ⟨n, 3, -3, 1, 0, 0⟩
def tailF : List UInt8 := [32, 103, 111, 101, 115, 32, 45, 51, 32, 49, 32, 48, 32, 48]
theorem line_evF (n : Int) : lineB (evF n) = Lib.itoa n ++ tailF := by
  rw [lineB_cat]
  have h0 := itoa_digit 0 (by decide)
  have h1 := itoa_digit 1 (by decide)
  have h3 : Lib.itoa (-3) = [45, 51] := by
    have := Lib.itoa_neg 3 (by decide)
    rw [Lib.decDigits_one (by decide)] at this
    exact this
  simp only [evF]
  rw [show (0 : Int) = ((0 : Nat) : Int) from rfl, show (1 : Int) = ((1 : Nat) : Int) from rfl, h0, h1, h3]
  simp only [List.append_assoc]
  rw [show wordB 3 = [103, 111, 101, 115] from by decide +kernel]
  simp [tailF]
/-- The odd lines of the law. -/
def oddB (n : Int) : List (List UInt8) := [Lib.itoa n ++ tailF, Lib.itoa n ++ tailF ++ [32], 32 :: (Lib.itoa n ++ tailF), 48 :: (Lib.itoa n ++ tailF), Lib.itoa n ++ tailF.take 12, Lib.itoa n ++ tailF ++ [32, 48], Lib.itoa n ++ tailF ++ [10], 120 :: (Lib.itoa n ++ tailF),
  [49, 32, 103, 111, 110, 101, 32, 48, 32, 48, 32, 48, 32, 48], [49, 32, 103, 111, 101, 115, 32, 45, 48, 32, 48, 32, 48, 32, 48], [49, 32, 103, 111, 101, 115, 32, 43, 49, 32, 48, 32, 48, 32, 48],
  [49, 32, 103, 111, 101, 115, 32, 57, 57, 57, 57, 57, 57, 57, 57, 57, 57, 57, 57, 57, 57, 57, 57, 57, 57, 57, 57, 32, 48, 32, 48, 32, 48], [49, 32, 32, 103, 111, 101, 115, 32, 48, 32, 48, 32, 48, 32, 48], []]
theorem itoa_no10 (n : Int) : (10 : UInt8) ∉ Lib.itoa n := by
  intro h
  have := itoa_bytes n 10 h
  simp at this
theorem no_count {n : Int} {x : List UInt8} {k : Nat} (h10 : (10 : UInt8) ∉ x) (hc : x.count 32 = k) (hk : k ≠ 5) : ∀ l, AllOk l → x ++ [10] ≠ textB l :=
  no_text h10 (not_ok fun e he => hk (by rw [← hc, he, line_count]))
theorem count_d (n : Int) : (Lib.itoa n ++ tailF).count 32 = 5 := by rw [List.count_append, count32_none (itoa_no32 _)]; decide +kernel
theorem no10_d (n : Int) : (10 : UInt8) ∉ Lib.itoa n ++ tailF := by
  rw [List.mem_append, not_or]
  exact ⟨itoa_no10 n, by decide +kernel⟩
theorem head_of {b : UInt8} {n : Int} {e : Ev} (hb : b ≠ 32) (h : b :: (Lib.itoa n ++ tailF) = lineB e) : Lib.itoa e.step = b :: Lib.itoa n := by
  obtain ⟨r, hr⟩ := line_step e
  rw [hr, show b :: (Lib.itoa n ++ tailF) = (b :: Lib.itoa n) ++ 32 :: tailF.drop 1 by simp [tailF]] at h
  have h2 := cutB (by simp only [List.mem_cons, not_or]; exact ⟨fun e => hb e.symm, itoa_no32 n⟩) (itoa_no32 e.step) h
  exact h2.1.symm
set_option maxRecDepth 100000 in
theorem odd_not (n : Int) : ∀ i, 1 ≤ i → i < 14 → ∀ l, AllOk l → (oddB n).getD i [] ++ [10] ≠ textB l := by
  intro i h1 h14
  have hc := count_d n
  have h0 := no10_d n
  obtain rfl | rfl | rfl | rfl | rfl | rfl | rfl | rfl | rfl | rfl | rfl | rfl | rfl : i = 1 ∨ i = 2 ∨ i = 3 ∨ i = 4 ∨ i = 5 ∨ i = 6 ∨ i = 7 ∨ i = 8 ∨ i = 9 ∨ i = 10 ∨ i = 11 ∨ i = 12 ∨ i = 13 := by omega
  · exact no_count (n := n) (k := 6) (by show (10 : UInt8) ∉ Lib.itoa n ++ tailF ++ [32]; rw [List.mem_append, not_or]; exact ⟨h0, by decide⟩) (by show (Lib.itoa n ++ tailF ++ [32]).count 32 = 6; rw [List.count_append, hc]; rfl) (by decide)
  · exact no_count (n := n) (k := 6) (by show (10 : UInt8) ∉ 32 :: (Lib.itoa n ++ tailF); rw [List.mem_cons, not_or]; exact ⟨by decide, h0⟩) (by show (32 :: (Lib.itoa n ++ tailF)).count 32 = 6; rw [List.count_cons, hc]; rfl) (by decide)
  · refine no_text (x := 48 :: (Lib.itoa n ++ tailF)) (by rw [List.mem_cons, not_or]; exact ⟨by decide, h0⟩) (not_ok fun e he => ?_)
    have h2 := head_of (by decide) he
    have h3 := itoa_zero h2
    unfold Lib.itoa at h3
    split at h3
    · simp at h3
    · exact dec_ne _ h3
  · refine no_count (n := n) (x := Lib.itoa n ++ tailF.take 12) (k := 4) (by rw [List.mem_append, not_or]; exact ⟨itoa_no10 n, by decide +kernel⟩) (by rw [List.count_append, count32_none (itoa_no32 _)]; decide +kernel) (by decide)
  · exact no_count (n := n) (k := 6) (by show (10 : UInt8) ∉ Lib.itoa n ++ tailF ++ [32, 48]; rw [List.mem_append, not_or]; exact ⟨h0, by decide⟩) (by show (Lib.itoa n ++ tailF ++ [32, 48]).count 32 = 6; rw [List.count_append, hc]; rfl) (by decide)
  · intro l hl h
    have h' : (Lib.itoa n ++ tailF) ++ 10 :: [10] = textB l := by rw [← h]; show _ = (Lib.itoa n ++ tailF ++ [10]) ++ [10]; simp
    cases l with
    | nil => have := congrArg List.length h'; simp [textB] at this
    | cons e t =>
      rw [textB_cons] at h'
      have h2 := (cut_first h0 line_no10 h').2
      cases t with
      | nil => simp [textB] at h2
      | cons f t =>
        rw [textB_cons] at h2
        have h3 := cut_first (x := []) (t := []) (by simp) line_no10 (by simpa using h2)
        have h4 := line_count f
        rw [← h3.1] at h4
        simp at h4
  · refine no_text (x := 120 :: (Lib.itoa n ++ tailF)) (by rw [List.mem_cons, not_or]; exact ⟨by decide, h0⟩) (not_ok fun e he => ?_)
    have h2 := head_of (by decide) he
    have h3 := itoa_bytes e.step 120 (by rw [h2]; simp)
    simp at h3
  · exact no_text (x := [49, 32, 103, 111, 110, 101, 32, 48, 32, 48, 32, 48, 32, 48]) (by decide +kernel) (by decide +kernel)
  · refine no_text (x := [49, 32, 103, 111, 101, 115, 32, 45, 48, 32, 48, 32, 48, 32, 48]) (by decide +kernel) (not_ok fun e he => ?_)
    obtain ⟨r, hr⟩ := line_task e
    rw [hr, show ([49, 32, 103, 111, 101, 115, 32, 45, 48, 32, 48, 32, 48, 32, 48] : List UInt8) = [49] ++ 32 :: ([103, 111, 101, 115] ++ 32 :: ([45, 48] ++ 32 :: [48, 32, 48, 32, 48])) from rfl] at he
    have e1 := cutB (by decide) (itoa_no32 _) he
    have e2 := cutB (by decide) (word_no32 _) e1.2
    have e3 := cutB (by decide) (itoa_no32 _) e2.2
    exact itoa_minus e3.1.symm
  · refine no_text (x := [49, 32, 103, 111, 101, 115, 32, 43, 49, 32, 48, 32, 48, 32, 48]) (by decide +kernel) (not_ok fun e he => ?_)
    obtain ⟨r, hr⟩ := line_task e
    rw [hr, show ([49, 32, 103, 111, 101, 115, 32, 43, 49, 32, 48, 32, 48, 32, 48] : List UInt8) = [49] ++ 32 :: ([103, 111, 101, 115] ++ 32 :: ([43, 49] ++ 32 :: [48, 32, 48, 32, 48])) from rfl] at he
    have e1 := cutB (by decide) (itoa_no32 _) he
    have e2 := cutB (by decide) (word_no32 _) e1.2
    have e3 := cutB (by decide) (itoa_no32 _) e2.2
    have h3 := itoa_bytes e.task 43 (by rw [← e3.1]; simp)
    simp at h3
  · exact no_text (x := [49, 32, 103, 111, 101, 115, 32, 57, 57, 57, 57, 57, 57, 57, 57, 57, 57, 57, 57, 57, 57, 57, 57, 57, 57, 57, 57, 32, 48, 32, 48, 32, 48]) (by decide +kernel) (by decide +kernel)
  · exact no_text (x := [49, 32, 32, 103, 111, 101, 115, 32, 48, 32, 48, 32, 48, 32, 48]) (by decide +kernel) (by decide +kernel)
  · exact no_text (x := []) (by decide +kernel) (by decide +kernel)
end Go.Proofs.YtdjknobolflldaaDoor
