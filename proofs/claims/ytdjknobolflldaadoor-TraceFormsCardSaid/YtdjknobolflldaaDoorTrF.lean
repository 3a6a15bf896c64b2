/- The reference's words: decimal, Line, Text. -/
import Derived.Test.YtdjknobolflldaaDoorTrE
import Derived.Laws.IdiomStrings
import Derived.Laws.Bits64
namespace Go.Proofs.YtdjknobolflldaaDoor
open Go.RowKit

/-- What the loop has written (s), u being left: what u's digits and s make is U's. -/
def DecAt (U u : Nat) (s : List UInt8) : Prop := (s = [] ∧ u = U) ∨ (s ≠ [] ∧ Lib.decDigits U = (if u = 0 then [] else Lib.decDigits u) ++ s)
theorem DecAt.step {U u : Nat} {s : List UInt8} (h : DecAt U u s) : 0 < u ∨ s = [] → DecAt U (u / 10) (UInt8.ofNat (48 + u % 10) :: s) := by
  intro h0
  have hd : Lib.decDigits u = (if u / 10 = 0 then [] else Lib.decDigits (u / 10)) ++ [UInt8.ofNat (48 + u % 10)] := by
    rw [Lib.decDigits]
    by_cases h10 : u < 10
    · rw [dif_pos h10, if_pos (by omega), show u % 10 = u by omega]; rfl
    · rw [dif_neg h10, if_neg (by omega)]
  rcases h with ⟨rfl, rfl⟩ | ⟨hs, hU⟩
  · exact .inr ⟨by simp, hd⟩
  · refine .inr ⟨by simp, ?_⟩
    have hu : u ≠ 0 := by
      rcases h0 with h0 | h0
      · omega
      · exact absurd h0 hs
    rw [hU, if_neg hu, hd, List.append_assoc]
    rfl
theorem DecAt.len {U u : Nat} {s : List UInt8} (h : DecAt U u s) (hU : U ≤ 9223372036854775808) : s.length ≤ 20 := by
  rcases h with ⟨rfl, _⟩ | ⟨_, h⟩
  · simp
  · have h1 : (Lib.decDigits U).length ≤ 20 := by rw [Lib.decDigits_length]; exact Lib.nDigits_le20 U (by omega)
    rw [h, List.length_append] at h1
    omega
theorem DecAt.done {U u : Nat} {s : List UInt8} (h : DecAt U u s) (hu : u = 0) (hs : s ≠ []) : s = Lib.decDigits U := by
  rcases h with ⟨h, _⟩ | ⟨_, h⟩
  · exact absurd h hs
  · rw [h, if_pos hu]; rfl

def emptyM : Value → Nat
  | .string b => if b.size = 0 then 1 else 0
  | _ => 0
theorem wrap_neg (n : Int) (h1 : -9223372036854775808 ≤ n) (h2 : n < 0) : IntKind.u64.wrap (-IntKind.u64.wrap n) = (n.natAbs : Int) := by
  rw [IntKind.wrap_u64, IntKind.wrap_u64]
  omega
theorem conv_digit (v : Nat) (w : World) : (convert 35 9 (.slice (some ⟨w.heap.size, 0, none⟩) 1 1)).run Tryd.prog (w.alloc (.cells #[.int .u8 (48 + (v : Int) % 10)] 5)) = .ok (.string ⟨[UInt8.ofNat (48 + v % 10)].toArray⟩) (w.alloc (.cells #[.int .u8 (48 + (v : Int) % 10)] 5)) := by
  refine run_convert_bytes_back _ 35 9 5 ⟨w.heap.size, 0, none⟩ 1 [UInt8.ofNat (48 + v % 10)] Tryd.underlying35 Tryd.underlying5 Tryd.underlying9 ?_
  intro j hj
  obtain rfl : j = 0 := by simpa using hj
  have := tcells_at (w := w) (xs := [.int .u8 (48 + (v : Int) % 10)]) (t := 5) rfl 0 _ rfl
  rw [this]
  have h1 : (UInt8.ofNat (48 + v % 10)).toNat = 48 + v % 10 := by rw [UInt8.toNat_ofNat']; omega
  simp only [List.getElem_cons_zero, h1]
  congr 2
theorem decimal_itoa (n : Int) (x : List UInt8) (h : x = Lib.decDigits n.natAbs) : (if n < 0 then [45] else []) ++ x = Lib.itoa n := by
  subst h
  unfold Lib.itoa
  split
  · rfl
  · rw [show n.natAbs = n.toNat by omega]; rfl

theorem dec_round {a b c d e : Prop} (h1 : a) (h2 : b) (h3 : c) (h4 : d) (h5 : e) : a ∧ b ∧ c ∧ d ∧ e := ⟨h1, h2, h3, h4, h5⟩
theorem dec_less {v : Nat} (hv : 0 < v) (d : UInt8) (x : List UInt8) : (intOf (.int .u64 ((v : Int) / 10))).toNat + emptyM (.string ⟨([d] ++ x).toArray⟩) < (intOf (.int .u64 (v : Int))).toNat + emptyM (.string ⟨x.toArray⟩) := by
  have h1 : emptyM (.string ⟨([d] ++ x).toArray⟩) = 0 := by simp [emptyM, ByteArray.size]
  rw [h1]
  simp only [intOf]
  omega
theorem ret_cat {a b c : List UInt8} (h : a ++ b = c) : Ending.returned (.string ((⟨a.toArray⟩ : ByteArray) ++ ⟨b.toArray⟩)) = Ending.returned (.string ⟨c.toArray⟩) := by rw [cat_bytes, h]

set_option maxRecDepth 100000 in
set_option maxHeartbeats 1000000 in
theorem decimal_any (n : Int) (hn : I64 n) (w : World) :
    Calls Tryd.prog 30 #[.int .i64 n] w fun r w' => r = .returned (.string ⟨(Lib.itoa n).toArray⟩) ∧ Below w.heap.size w w' := by
  obtain ⟨h1, h2⟩ := hn
  by_cases hneg : n < 0
  all_goals
    have hit := fun x => decimal_itoa n x
    first | rw [if_pos hneg] at hit | rw [if_neg hneg] at hit
    have Hit := hid hit
    clear hit
    go_enter Tryd.func30, Tryd.ntmps30
    go_wp2_with fail
    try rw [wrap_neg n h1 hneg]
    try rw [show n = (n.natAbs : Int) by omega]
    generalize hU : n.natAbs = U at Hit
    go_loopw [3, 5] (fun u s wr => ∃ (v : Nat) (x : List UInt8), u = .int .u64 v ∧ s = .string ⟨x.toArray⟩ ∧ v < 18446744073709551616 ∧ DecAt U v x ∧ Below w.heap.size w wr) (fun u s _ => (intOf u).toNat + emptyM s)
    case atStart => exact ⟨U, [], rfl, rfl, by omega, .inl ⟨rfl, rfl⟩, Below.refl _ _⟩
    case round =>
      obtain ⟨v, x, rfl, rfl, hv, hD, hB⟩ := hrel
      have hxl := hD.len (by omega)
      have HD := hid hD
      clear hD
      by_cases hv0 : 0 < v
      · have hcv := conv_digit v wr
        obtain ⟨d, hd⟩ : ∃ d, UInt8.ofNat (48 + v % 10) = d := ⟨_, rfl⟩
        rw [hd] at hcv
        have Hd := hid hd
        clear hd
        go_wp2_with fail
        go_roundw
        case rel =>
          exact ⟨v / 10, d :: x, by go_num, by rw [cat_bytes]; rfl, by omega, (by rw [← Hd.out]; exact HD.out.step (.inl hv0)), hB.alloc hB.size _⟩
        case measure =>
          rw [cat_bytes]
          exact dec_less hv0 d x
      · obtain rfl : v = 0 := by omega
        by_cases hx : x = []
        · subst hx
          have hcv : (convert 35 9 (.slice (some ⟨wr.heap.size, 0, none⟩) 1 1)).run Tryd.prog (wr.alloc (.cells #[.int .u8 48] 5)) = .ok (.string ⟨#[48]⟩) (wr.alloc (.cells #[.int .u8 48] 5)) := conv_digit 0 wr
          go_wp2_with fail
          go_roundw
          case rel => exact ⟨0, [48], by go_num, rfl, by omega, HD.out.step (.inr rfl), hB.alloc hB.size _⟩
          case measure => decide
        · have hd := Hit.out x (HD.out.done rfl hx)
          have hxe : x.isEmpty = false := by simpa using hx
          have Hd := hid hd
          clear hd
          go_wp2_with fail
          go_ret
          refine ⟨ret_cat Hd.out, hB⟩
end Go.Proofs.YtdjknobolflldaaDoor
