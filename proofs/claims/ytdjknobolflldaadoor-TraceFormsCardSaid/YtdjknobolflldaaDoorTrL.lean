/- Package trace: Parse. -/
import Derived.Test.YtdjknobolflldaaDoorTrK
namespace Go.Proofs.YtdjknobolflldaaDoor
open Go.RowKit

def AllOk (l : List Ev) : Prop := ∀ e ∈ l, e.ok
theorem line_no10 {e : Ev} : (10 : UInt8) ∉ lineB e := by
  have hb : ∀ n, (10 : UInt8) ∉ Lib.itoa n := by
    intro n h
    have := itoa_bytes n 10 h
    simp at this
  have hw : (10 : UInt8) ∉ wordB e.kind := by
    unfold wordB
    split
    · have : ∀ i : Fin 8, (10 : UInt8) ∉ kindList.getD i.val [] := by decide +kernel
      exact this ⟨(e.kind - 1).toNat, by omega⟩
    · exact hb _
  rw [lineB_cat]
  simp [hb, hw]
theorem cut_first : ∀ {x y t u : List UInt8}, (10 : UInt8) ∉ x → (10 : UInt8) ∉ y → x ++ 10 :: t = y ++ 10 :: u → x = y ∧ t = u
  | [], [], t, u, _, _, h => by simpa using h
  | [], b :: y, t, u, _, hy, h => by
    simp only [List.nil_append, List.cons_append, List.cons.injEq] at h
    exact absurd (by simp [← h.1]) hy
  | b :: x, [], t, u, hx, _, h => by
    simp only [List.nil_append, List.cons_append, List.cons.injEq] at h
    exact absurd (by simp [h.1]) hx
  | b :: x, c :: y, t, u, hx, hy, h => by
    simp only [List.cons_append, List.cons.injEq] at h
    obtain ⟨h1, h2⟩ := cut_first (fun hm => hx (by simp [hm])) (fun hm => hy (by simp [hm])) h.2
    exact ⟨by rw [h.1, h1], h2⟩
theorem textB_cons (e : Ev) (l : List Ev) : textB (e :: l) = lineB e ++ 10 :: textB l := by simp [textB]
theorem textB_append (a b : List Ev) : textB (a ++ b) = textB a ++ textB b := by simp [textB]
theorem line_inj {a b : Ev} (ha : a.ok) (hb : b.ok) (h : lineB a = lineB b) : a = b := by
  rw [← (eventOk_line ha).2, ← (eventOk_line hb).2, h]
/-- A text is that of one row of events alone. -/
theorem text_rest : ∀ {l m : List Ev} {rest : List UInt8}, AllOk l → AllOk m → textB l ++ rest = textB m → ∃ m', AllOk m' ∧ m = l ++ m' ∧ rest = textB m'
  | [], m, rest, _, hm, h => ⟨m, hm, rfl, by simpa [textB] using h⟩
  | e :: l, [], rest, _, _, h => by
    rw [textB_cons] at h
    have := congrArg List.length h
    simp [textB] at this
  | e :: l, f :: m, rest, hl, hm, h => by
    rw [textB_cons, textB_cons, List.append_assoc, List.cons_append] at h
    obtain ⟨h1, h2⟩ := cut_first line_no10 line_no10 h
    have he := line_inj (hl e (by simp)) (hm f (by simp)) h1
    obtain ⟨m', hm', rfl, hr⟩ := text_rest (fun x hx => hl x (by simp [hx])) (fun x hx => hm x (by simp [hx])) h2
    exact ⟨m', hm', by rw [he]; rfl, hr⟩
theorem text_inj {l m : List Ev} (hl : AllOk l) (hm : AllOk m) (h : textB l = textB m) : l = m := by
  obtain ⟨m', _, rfl, hr⟩ := text_rest (rest := []) hl hm (by simpa using h)
  cases m' with
  | nil => simp
  | cons e t => rw [textB_cons] at hr; have := congrArg List.length hr; simp at this

theorem index_ten (x t : List UInt8) (h : (10 : UInt8) ∉ x) : Lib.index (x ++ 10 :: t) [10] = x.length := by
  rw [Lib.index_one]; exact indexByte_at 10 x t h
theorem index_not (x : List UInt8) (h : (10 : UInt8) ∉ x) : Lib.index x [10] = -1 := by
  rw [Lib.index_one]; exact indexByte_miss 10 x h
theorem cut_at {x t : List UInt8} (h : (10 : UInt8) ∉ x) : Lib.cut (x ++ 10 :: t) [10] = (x, t, true) := by
  unfold Lib.cut
  rw [index_ten x t h, if_pos (by omega)]
  simp
theorem cut_not {x : List UInt8} (h : (10 : UInt8) ∉ x) : Lib.cut x [10] = (x, [], false) := by
  unfold Lib.cut
  rw [index_not x h, if_neg (by omega)]
theorem split_ten (s : List UInt8) : (10 : UInt8) ∉ s ∨ ∃ x t, (10 : UInt8) ∉ x ∧ s = x ++ 10 :: t := by
  induction s with
  | nil => exact .inl (by simp)
  | cons b s ih =>
    by_cases hb : b = 10
    · exact .inr ⟨[], s, by simp, by rw [hb]; rfl⟩
    · rcases ih with h | ⟨x, t, hx, rfl⟩
      · exact .inl (by simp only [List.mem_cons, not_or]; exact ⟨fun e => hb e.symm, h⟩)
      · exact .inr ⟨b :: x, t, by simp only [List.mem_cons, not_or]; exact ⟨fun e => hb e.symm, hx⟩, rfl⟩

/-- What Parse answers at the text s: v, e. -/
def ParseIs (s : List UInt8) (w : World) (v : Value) (e : Int) : Prop :=
  (e = 0 ∧ ∃ l, AllOk l ∧ s = textB l ∧ Evs w v l) ∨ (e = 2 ∧ v = .slice none 0 0 ∧ ∀ l, AllOk l → s ≠ textB l)
theorem bad_line {l : List Ev} {s x t : List UInt8} (hl : AllOk l) (hx : (10 : UInt8) ∉ x) (hs : s = textB l ++ (x ++ 10 :: t)) (hb : eventOk (by8 x) = false) : ∀ m, AllOk m → s ≠ textB m := by
  intro m hm h
  rw [hs] at h
  obtain ⟨m', hm', _, hr⟩ := text_rest hl hm h
  cases m' with
  | nil => simp [textB] at hr
  | cons e r =>
    rw [textB_cons] at hr
    obtain ⟨rfl, _⟩ := cut_first hx line_no10 hr
    rw [(eventOk_line (hm' e (by simp))).1] at hb
    cases hb
theorem bad_open {l : List Ev} {s x : List UInt8} (hl : AllOk l) (hx : (10 : UInt8) ∉ x) (h0 : x ≠ []) (hs : s = textB l ++ x) : ∀ m, AllOk m → s ≠ textB m := by
  intro m hm h
  rw [hs] at h
  obtain ⟨m', hm', _, hr⟩ := text_rest hl hm h
  cases m' with
  | nil => exact h0 (by simpa [textB] using hr)
  | cons e r =>
    rw [textB_cons] at hr
    exact hx (by rw [hr]; simp)

theorem info_event : (Tryd.prog.info? 28).map (fun i => (i.zero, i.size, i.bytes)) = some (some (.agg #[.int .i64 0, .int .i64 0, .int .i64 0, .int .i64 0, .int .i64 0, .int .i64 0]), 6, 48) := by kernel_rfl
def evsV (l : List Ev) : List Value := l.flatMap Ev.cells
theorem evsV_append (a b : List Ev) : evsV (a ++ b) = evsV a ++ evsV b := by simp [evsV]
theorem evsV_get : ∀ (l : List Ev) (k : Nat), k < l.length → ∀ j x, ((l.getD k noEv).cells)[j]? = some x → (evsV l)[k * 6 + j]? = some x
  | [], k, hk, _, _, _ => by simp at hk
  | e :: l, 0, _, j, x, h => by
    have hj : j < e.cells.length := (List.getElem?_eq_some_iff.1 h).1
    simp only [evsV, List.flatMap_cons, Nat.zero_mul, Nat.zero_add]
    rw [List.getElem?_append_left hj]
    exact h
  | e :: l, k + 1, hk, j, x, h => by
    simp only [evsV, List.flatMap_cons]
    rw [List.getElem?_append_right (by simp [Ev.cells]; omega)]
    have := evsV_get l k (by simpa using hk) j x (by simpa using h)
    rw [show (k + 1) * 6 + j - e.cells.length = k * 6 + j by simp [Ev.cells]; omega]
    exact this
theorem own_evs {w : World} {B : Nat} {v : Value} {l : List Ev} (h : w.ownsRow B 28 6 v l.length (evsV l)) (hn : l.length ≤ 140737488351232) : Evs w v l := by
  rcases h.2 with ⟨rfl, h0⟩ | ⟨g, cap, cur, rfl, hg, hh, _⟩
  · exact ⟨none, 0, by rw [h0], by omega, fun k hk => by omega⟩
  · refine ⟨_, cap, rfl, by omega, fun k hk => ⟨g, 0, rfl, (Array.getElem?_eq_some_iff.1 hh).1, fun j x hx => ?_⟩⟩
    have := h.cells (g := g) rfl (k * 6 + j) x (evsV_get l k hk j x hx)
    have hadd : (⟨g, 0, none⟩ : Addr).add (k * 6 + j) = ⟨g, 0 + k * 6 + j, none⟩ := by unfold Addr.add; split <;> simp_all <;> omega
    rw [hadd] at this
    exact this
end Go.Proofs.YtdjknobolflldaaDoor
