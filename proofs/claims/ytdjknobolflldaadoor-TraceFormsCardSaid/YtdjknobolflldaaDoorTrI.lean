/- What the library's Split, Atoi and Index give at a line's parts: plain laws. -/
import Derived.Test.YtdjknobolflldaaDoorTrH
import Derived.Lib.SplitLaws
import Derived.Lib.IndexBytes
import Derived.Lib.AtoiAllCases
import Derived.Lib.AtoiTie
import Derived.Lib.SmallJoins
namespace Go.Proofs.YtdjknobolflldaaDoor
open Go.RowKit

theorem indexByte_at (c : UInt8) : ∀ (x t : List UInt8), c ∉ x → Lib.indexByte (x ++ c :: t) c = x.length
  | [], t, _ => by simp [Lib.indexByte]
  | b :: x, t, h => by
    have hb : (b == c) = false := by rw [beq_eq_false_iff_ne]; intro e; exact h (by simp [e])
    have ih := indexByte_at c x t (fun hm => h (by simp [hm]))
    simp only [List.cons_append, Lib.indexByte, hb, ih]
    have : ((x.length : Int) == -1) = false := by rw [beq_eq_false_iff_ne]; omega
    simp [this]
theorem indexByte_miss (c : UInt8) : ∀ (x : List UInt8), c ∉ x → Lib.indexByte x c = -1
  | [], _ => rfl
  | b :: x, h => by
    have hb : (b == c) = false := by rw [beq_eq_false_iff_ne]; intro e; exact h (by simp [e])
    have ih := indexByte_miss c x (fun hm => h (by simp [hm]))
    simp [Lib.indexByte, hb, ih]

def sp : ByteArray := ⟨#[32]⟩
def by8 (l : List UInt8) : ByteArray := ⟨l.toArray⟩
theorem by8_size (l : List UInt8) : (by8 l).size = l.length := by simp [by8, ByteArray.size]
theorem by8_list (l : List UInt8) : (by8 l).data.toList = l := rfl
theorem by8_inj {a b : List UInt8} (h : by8 a = by8 b) : a = b := by
  have := congrArg (fun x : ByteArray => x.data.toList) h
  exact this
theorem by8_back (s : ByteArray) : by8 s.data.toList = s := rfl
theorem indexB_at (x t : List UInt8) (h : (32 : UInt8) ∉ x) : Lib.indexB (by8 (x ++ 32 :: t)) sp = x.length := by
  rw [Lib.one _ sp rfl]
  exact indexByte_at 32 x t h
theorem indexB_miss (x : List UInt8) (h : (32 : UInt8) ∉ x) : Lib.indexB (by8 x) sp = -1 := by
  rw [Lib.one _ sp rfl]
  exact indexByte_miss 32 x h
theorem extract_head (x t : List UInt8) : (by8 (x ++ t)).extract 0 x.length = by8 x := by
  apply ByteArray.ext
  simp [by8, ByteArray.data_extract]
theorem extract_tail (x t : List UInt8) : (by8 (x ++ 32 :: t)).extract (x.length + sp.size) (by8 (x ++ 32 :: t)).size = by8 t := by
  apply ByteArray.ext
  rw [by8_size]
  simp [by8, ByteArray.data_extract, sp, ByteArray.size]
  exact List.take_of_length_le (by omega)

def splitL (s : ByteArray) : List ByteArray := Lib.splitB sp 0 (Lib.countB s sp) s
theorem splitL_length (s : ByteArray) : (splitL s).length = Lib.countB s sp + 1 := Lib.splitB_all sp (by decide) 0 _ s rfl
theorem splitL_join : ∀ (r : List (List UInt8)) (x : List UInt8), (∀ y ∈ x :: r, (32 : UInt8) ∉ y) → splitL (by8 (Lib.join (x :: r) [32])) = (x :: r).map by8
  | [], x, h => by
    have hx := indexB_miss x (h x (by simp))
    rw [Lib.join_one]
    unfold splitL
    rw [Lib.countB_miss _ _ hx, Lib.splitB_zero]
    rfl
  | y :: r, x, h => by
    have hj : Lib.join (x :: y :: r) [32] = x ++ 32 :: Lib.join (y :: r) [32] := by
      rw [Lib.join_cons, Lib.join_cons]
      simp [Lib.joinTail]
    have hi := indexB_at x (Lib.join (y :: r) [32]) (h x (by simp))
    have ih := splitL_join r y (fun z hz => h z (by simp [hz]))
    unfold splitL at ih ⊢
    rw [hj, Lib.countB_hit _ _ _ (by decide) hi, extract_tail, Nat.add_comm 1, Lib.splitB_hit _ _ _ _ _ hi, extract_tail, ih, Nat.add_zero, extract_head]
    rfl

theorem parse_snoc (c : UInt8) : ∀ (l : List UInt8) (acc : Nat), Lib.parseUint10 acc (l ++ [c]) = match Lib.parseUint10 acc l with
    | .ok v => Lib.parseUint10 v [c]
    | e => e
  | [], acc => rfl
  | b :: l, acc => by
    simp only [List.cons_append, Lib.parseUint10]
    split
    · split
      · rfl
      · split
        · rfl
        · exact parse_snoc c l _
    · rfl
theorem digit_nat {d : Nat} (h : d < 10) : (UInt8.ofNat (48 + d)).toNat = 48 + d := by rw [UInt8.toNat_ofNat']; omega
theorem parse_dec (u : Nat) (h : u < 18446744073709551616) : Lib.parseUint10 0 (Lib.decDigits u) = .ok u := by
  induction u using Nat.strongRecOn with
  | _ u ih =>
    rw [Lib.decDigits]
    by_cases h10 : u < 10
    · rw [dif_pos h10]
      have := digit_nat h10
      simp only [Lib.parseUint10, this]
      rw [if_pos (by omega), if_neg (by omega), if_neg (by omega)]
      congr 1
      omega
    · rw [dif_neg h10, parse_snoc, ih (u / 10) (by omega) (by omega)]
      have := digit_nat (show u % 10 < 10 by omega)
      simp only [Lib.parseUint10, this]
      rw [if_pos (by omega), if_neg (by omega), if_neg (by omega)]
      congr 1
      omega
theorem dec_ne (u : Nat) : Lib.decDigits u ≠ [] := by
  rw [Lib.decDigits]
  split <;> simp
theorem dec_bytes (u : Nat) : ∀ b ∈ Lib.decDigits u, 48 ≤ b.toNat ∧ b.toNat ≤ 57 := by
  induction u using Nat.strongRecOn with
  | _ u ih =>
    rw [Lib.decDigits]
    intro b hb
    by_cases h10 : u < 10
    · rw [dif_pos h10] at hb
      obtain rfl := List.mem_singleton.1 hb
      rw [digit_nat h10]; omega
    · rw [dif_neg h10, List.mem_append] at hb
      rcases hb with hb | hb
      · exact ih (u / 10) (by omega) b hb
      · obtain rfl := List.mem_singleton.1 hb
        rw [digit_nat (by omega)]; omega
theorem itoa_bytes (n : Int) : ∀ b ∈ Lib.itoa n, b.toNat = 45 ∨ 48 ≤ b.toNat ∧ b.toNat ≤ 57 := by
  unfold Lib.itoa
  split
  · intro b hb
    rcases List.mem_cons.1 hb with rfl | hb
    · exact .inl rfl
    · exact .inr (dec_bytes _ b hb)
  · exact fun b hb => .inr (dec_bytes _ b hb)
theorem atoi_itoa (n : Int) (h : I64 n) : Lib.atoiAll (Lib.itoa n) = .ok n := by
  obtain ⟨h1, h2⟩ := h
  unfold Lib.itoa
  split
  · rw [Lib.atoiAll_minus]
    unfold Lib.parseMag
    rw [if_neg (dec_ne _), parse_dec _ (by omega)]
    simp only [Lib.signed]
    rw [if_neg (by omega)]
    congr 1
    omega
  · have hd := dec_bytes n.toNat
    have hp := parse_dec n.toNat (by omega)
    have hne := dec_ne n.toNat
    generalize Lib.decDigits n.toNat = l at hd hp hne
    cases l with
    | nil => exact absurd rfl hne
    | cons c r =>
      have hc := hd c (by simp)
      rw [Lib.atoiAll_plain c r (by omega) (by omega)]
      unfold Lib.parseMag
      rw [if_neg hne, hp]
      simp only [Lib.signless]
      rw [if_neg (by omega)]
      congr 1
      omega
theorem itoa_no32 (n : Int) : (32 : UInt8) ∉ Lib.itoa n := by
  intro h
  have := itoa_bytes n 32 h
  simp at this
theorem word_no32 (k : Int) : (32 : UInt8) ∉ wordB k := by
  unfold wordB
  split
  · have : ∀ i : Fin 8, (32 : UInt8) ∉ kindList.getD i.val [] := by decide +kernel
    exact this ⟨(k - 1).toNat, by omega⟩
  · exact itoa_no32 k
theorem split_line (e : Ev) : splitL (by8 (lineB e)) = (partsB e).map by8 := by
  unfold lineB partsB
  refine splitL_join _ _ ?_
  intro y hy
  simp only [List.mem_cons, List.not_mem_nil, or_false] at hy
  rcases hy with rfl | rfl | rfl | rfl | rfl | rfl
  · exact itoa_no32 _
  · exact word_no32 _
  all_goals exact itoa_no32 _

/-- How Atoi ends: the number, and whether there is no error. -/
def atoiN (s : List UInt8) : Int := match Lib.atoiAll s with
  | .ok v => v
  | .range => Lib.atoiSat s
  | _ => 0
def atoiOk (s : List UInt8) : Bool := match Lib.atoiAll s with
  | .ok _ => true
  | _ => false
theorem atoiN_itoa {n : Int} (h : I64 n) : atoiN (Lib.itoa n) = n := by unfold atoiN; rw [atoi_itoa n h]
theorem atoiOk_itoa {n : Int} (h : I64 n) : atoiOk (Lib.itoa n) = true := by unfold atoiOk; rw [atoi_itoa n h]
theorem atoiN_ok (s : List UInt8) : I64 (atoiN s) := by
  unfold atoiN
  split
  · next h => exact Lib.atoiAll_bounds h
  · unfold Lib.atoiSat I64
    split <;> constructor <;> decide
  · constructor <;> decide
def kindI (s : List UInt8) : Int := Lib.idxOfS (kindList.map by8) (by8 s)
def kindN (s : List UInt8) : Int := if 0 ≤ kindI s then kindI s + 1 else atoiN s
def kindOk (s : List UInt8) : Bool := if 0 ≤ kindI s then true else atoiOk s
theorem kind_ix : ∀ i : Fin 8, kindI (kindList.getD i.val []) = i.val := by decide +kernel
theorem kind_miss (s : List UInt8) (h : s ∉ kindList) : kindI s = -1 := by
  refine Lib.idxFromS_miss _ _ _ ?_
  intro j hj e
  have hm : by8 s ∈ kindList.map by8 := by
    rw [← e, List.getD_eq_getElem?_getD, List.getElem?_eq_getElem hj]
    exact List.getElem_mem hj
  obtain ⟨l, hl, e'⟩ := List.mem_map.1 hm
  exact h (by rw [← by8_inj e']; exact hl)
theorem idx_le (x : ByteArray) : ∀ (zs : List ByteArray) (i : Nat), Lib.idxFromS zs x i ≤ (i + zs.length : Nat)
  | [], i => by simp [Lib.idxFromS]
  | z :: zs, i => by
    have := idx_le x zs (i + 1)
    simp only [Lib.idxFromS]
    split
    · simp; omega
    · simp at this ⊢; omega
theorem kindI_le (s : List UInt8) : kindI s ≤ 8 := by
  have := idx_le (by8 s) (kindList.map by8) 0
  have hl : (0 + (kindList.map by8).length : Nat) = 8 := rfl
  rw [hl] at this
  exact this
theorem kind_head : ∀ l ∈ kindList, ∃ b ∈ l, 97 ≤ b.toNat := by decide +kernel
theorem itoa_noKind (n : Int) : Lib.itoa n ∉ kindList := by
  intro h
  obtain ⟨b, hb, h97⟩ := kind_head _ h
  have := itoa_bytes n b hb
  omega
theorem kind_word {k : Int} (h : I64 k) : kindN (wordB k) = k ∧ kindOk (wordB k) = true := by
  unfold wordB
  split
  · have := kind_ix ⟨(k - 1).toNat, by omega⟩
    simp only at this
    unfold kindN kindOk
    rw [this, if_pos (by omega), if_pos (by omega)]
    exact ⟨by omega, rfl⟩
  · unfold kindN kindOk
    rw [kind_miss _ (itoa_noKind k), if_neg (by decide), if_neg (by decide)]
    exact ⟨atoiN_itoa h, atoiOk_itoa h⟩
theorem kindN_ok (s : List UInt8) : I64 (kindN s) := by
  unfold kindN
  split
  · have := kindI_le s
    constructor <;> omega
  · exact atoiN_ok s
end Go.Proofs.YtdjknobolflldaaDoor
