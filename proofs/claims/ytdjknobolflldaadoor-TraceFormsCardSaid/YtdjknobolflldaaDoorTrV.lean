/- TraceForms: the walk. -/
import Derived.Test.YtdjknobolflldaaDoorTrU
namespace Go.Proofs.YtdjknobolflldaaDoor
open Go.RowKit

theorem oddB_small {n : Int} (hn : I64 n) : ∀ i, ((oddB n).getD i []).length ≤ 64 := by
  intro i
  have h1 := itoa_small hn
  by_cases hi : i < 14
  · obtain rfl | rfl | rfl | rfl | rfl | rfl | rfl | rfl | rfl | rfl | rfl | rfl | rfl | rfl : i = 0 ∨ i = 1 ∨ i = 2 ∨ i = 3 ∨ i = 4 ∨ i = 5 ∨ i = 6 ∨ i = 7 ∨ i = 8 ∨ i = 9 ∨ i = 10 ∨ i = 11 ∨ i = 12 ∨ i = 13 := by omega
    all_goals simp [oddB, tailF]
    all_goals omega
  · rw [List.getD_eq_getElem?_getD, List.getElem?_eq_none (by simp [oddB]; omega)]
    simp
theorem ok_evF {n : Int} (h0 : 0 ≤ n) (h1 : n ≤ 1099511627776) : (evF n).ok := by
  unfold evF Ev.ok I64
  simp only
  refine ⟨⟨by omega, by omega⟩, by decide, by decide, by decide, by decide, by decide⟩
theorem odd_parse {n : Int} (h0 : 0 ≤ n) (h1 : n ≤ 1099511627776) (i : Nat) (hi : i < 14) (w : World) (ht : Tabs w) :
    Calls Tryd.prog 18 #[.string ⟨((oddB n).getD i [] ++ [10]).toArray⟩] w fun r w' => (∃ v, r = .returned (.tuple #[v, .int .i64 (if i = 0 then 0 else 2)])) ∧ Below w.heap.size w w' := by
  have hok := ok_evF h0 h1
  have hsm := oddB_small hok.1 i
  refine (parse_any ((oddB n).getD i [] ++ [10]) (by simp only [List.length_append, List.length_cons, List.length_nil]; simp only [evF] at hsm; omega) w ht).mono ?_
  rintro r w' ⟨⟨v, e, rfl, hp⟩, hb⟩
  refine ⟨⟨v, ?_⟩, hb⟩
  by_cases hi0 : i = 0
  · subst hi0
    have hl : AllOk [evF n] := fun e he => by rw [List.mem_singleton.1 he]; exact hok
    obtain ⟨rfl, _⟩ := parse_is hl (by rw [textB_cons, line_evF]; rfl) hp
    rfl
  · obtain ⟨rfl, _⟩ := parse_not (odd_not n i (by omega) hi) hp
    rw [if_neg hi0]

theorem ret_tuple {a b : Int} {v : Value} (h : a = b) : Ending.returned (.tuple #[v, .int .i64 a]) = .returned (.tuple #[v, .int .i64 b]) := by rw [h]
theorem take_tail (n : Int) : (Lib.itoa n ++ tailF).take ((Lib.itoa n).length + 12) = Lib.itoa n ++ tailF.take 12 := by
  rw [List.take_append, List.take_of_length_le (by omega), show (Lib.itoa n).length + 12 - (Lib.itoa n).length = 12 by omega]

theorem odd_str {a : ByteArray} {l : List UInt8} (h : a = ⟨l.toArray⟩) : some (Value.string a) = some (.string ⟨l.toArray⟩) := by rw [h]
theorem ext_bytes (l : List UInt8) (k : Nat) : (⟨l.toArray⟩ : ByteArray).extract 0 k = ⟨(l.take k).toArray⟩ := by
  apply ByteArray.ext
  simp
theorem odd_cell (n : Int) (d : List UInt8) (hd : Lib.itoa n ++ tailF = d) (i : Nat) (hi : i < 14) :
    (#[Value.string ⟨d.toArray⟩, .string ((⟨d.toArray⟩ : ByteArray) ++ ⟨#[32]⟩), .string ((⟨#[32]⟩ : ByteArray) ++ ⟨d.toArray⟩), .string ((⟨#[48]⟩ : ByteArray) ++ ⟨d.toArray⟩), .string ((⟨d.toArray⟩ : ByteArray).extract 0 (d.length - 2)), .string ((⟨d.toArray⟩ : ByteArray) ++ ⟨#[32, 48]⟩), .string ((⟨d.toArray⟩ : ByteArray) ++ ⟨#[10]⟩), .string ((⟨#[120]⟩ : ByteArray) ++ ⟨d.toArray⟩), .string ⟨#[49, 32, 103, 111, 110, 101, 32, 48, 32, 48, 32, 48, 32, 48]⟩, .string ⟨#[49, 32, 103, 111, 101, 115, 32, 45, 48, 32, 48, 32, 48, 32, 48]⟩, .string ⟨#[49, 32, 103, 111, 101, 115, 32, 43, 49, 32, 48, 32, 48, 32, 48]⟩, .string ⟨#[49, 32, 103, 111, 101, 115, 32, 57, 57, 57, 57, 57, 57, 57, 57, 57, 57, 57, 57, 57, 57, 57, 57, 57, 57, 57, 57, 32, 48, 32, 48, 32, 48]⟩, .string ⟨#[49, 32, 32, 103, 111, 101, 115, 32, 48, 32, 48, 32, 48, 32, 48]⟩, .string ⟨#[]⟩])[i]? = some (.string ⟨((oddB n).getD i []).toArray⟩) := by
  subst hd
  obtain rfl | rfl | rfl | rfl | rfl | rfl | rfl | rfl | rfl | rfl | rfl | rfl | rfl | rfl : i = 0 ∨ i = 1 ∨ i = 2 ∨ i = 3 ∨ i = 4 ∨ i = 5 ∨ i = 6 ∨ i = 7 ∨ i = 8 ∨ i = 9 ∨ i = 10 ∨ i = 11 ∨ i = 12 ∨ i = 13 := by omega
  · rfl
  · exact odd_str (cat_bytes _ [32])
  · exact odd_str (cat_bytes [32] _)
  · exact odd_str (cat_bytes [48] _)
  · refine odd_str (l := Lib.itoa n ++ tailF.take 12) ?_
    rw [ext_bytes, show (Lib.itoa n ++ tailF).length - 2 = (Lib.itoa n).length + 12 by rw [List.length_append]; rfl, take_tail]
  · exact odd_str (cat_bytes _ [32, 48])
  · exact odd_str (cat_bytes _ [10])
  · exact odd_str (cat_bytes [120] _)
  all_goals rfl

set_option maxRecDepth 100000 in
set_option maxHeartbeats 2000000 in
theorem traceForms_any (k n : Int) (hk : I64 k) (hn : I64 n) (w : World) (ht : Tabs w) :
    Calls Tryd.prog 6 #[.int .i64 k, .int .i64 n] w fun r w' => r = .returned (.bool true) ∧ Below w.heap.size w w' := by
  have HT := hid ht
  have Hk := hid hk
  clear ht hk
  by_cases h0 : n < 0
  · go_enter Tryd.func6, Tryd.ntmps6
    go_wp2_with fail
    have hcall := trAwake_any w HT.out
    refine hcall.mono ?_
    rintro r w1 ⟨rfl, hb⟩
    go_wp2_with fail
    go_ret
    exact ⟨rfl, hb⟩
  by_cases h1 : 1099511627776 < n
  · go_enter Tryd.func6, Tryd.ntmps6
    go_wp2_with fail
    have hcall := trAwake_any w HT.out
    refine hcall.mono ?_
    rintro r w1 ⟨rfl, hb⟩
    go_wp2_with fail
    go_ret
    exact ⟨rfl, hb⟩
  have h0' : 0 ≤ n := by omega
  have h1' : n ≤ 1099511627776 := by omega
  have hok := ok_evF h0' h1'
  have hln := itoa_small hn
  have hd := line_evF n
  obtain ⟨N, hN⟩ : ∃ N, Lib.itoa n = N := ⟨_, rfl⟩
  rw [hN] at hln hd
  obtain ⟨d, hd'⟩ : ∃ d, N ++ tailF = d := ⟨_, rfl⟩
  rw [hd'] at hd
  have hdl : d.length = N.length + 14 := by rw [← hd', List.length_append]; rfl
  have Hdl := hid hdl
  have hline := fun w' => refLine_any (evF n) hok w'
  rw [hd] at hline
  simp only [evF] at hline
  have Hline := hid hline
  have Hok := hid hok
  have HN := hid hN
  have Hd := hid hd'
  have hd1 : 14 ≤ d.length := by omega
  have hd2 : d.length ≤ 35 := by omega
  have HNd := hid (show Lib.itoa n ++ tailF = d by rw [hN, hd'])
  obtain ⟨i, hi, hi14⟩ : ∃ i : Nat, k % 14 = i ∧ i < 14 := ⟨(k % 14).toNat, by omega, by omega⟩
  have hr := fun w' => round_any k 14 Hk.out (by decide) (by decide) w'
  rw [hi] at hr
  have Hr := hid hr
  clear hd hline hok hN hd' hdl hln hr hi
  go_enter Tryd.func6, Tryd.ntmps6
  go_wp2_with fail
  refine (Hline.out _).mono ?_
  rintro r w1 ⟨rfl, hb1⟩
  go_wp2_with fail
  refine (Hr.out _).mono ?_
  rintro r w2 ⟨rfl, rfl⟩
  have hcell : (w1.alloc (.cells #[Value.string ⟨d.toArray⟩, .string ((⟨d.toArray⟩ : ByteArray) ++ ⟨#[32]⟩), .string ((⟨#[32]⟩ : ByteArray) ++ ⟨d.toArray⟩), .string ((⟨#[48]⟩ : ByteArray) ++ ⟨d.toArray⟩), .string ((⟨d.toArray⟩ : ByteArray).extract 0 (d.length - 2)), .string ((⟨d.toArray⟩ : ByteArray) ++ ⟨#[32, 48]⟩), .string ((⟨d.toArray⟩ : ByteArray) ++ ⟨#[10]⟩), .string ((⟨#[120]⟩ : ByteArray) ++ ⟨d.toArray⟩), .string ⟨#[49, 32, 103, 111, 110, 101, 32, 48, 32, 48, 32, 48, 32, 48]⟩, .string ⟨#[49, 32, 103, 111, 101, 115, 32, 45, 48, 32, 48, 32, 48, 32, 48]⟩, .string ⟨#[49, 32, 103, 111, 101, 115, 32, 43, 49, 32, 48, 32, 48, 32, 48]⟩, .string ⟨#[49, 32, 103, 111, 101, 115, 32, 57, 57, 57, 57, 57, 57, 57, 57, 57, 57, 57, 57, 57, 57, 57, 57, 57, 57, 57, 57, 32, 48, 32, 48, 32, 48]⟩, .string ⟨#[49, 32, 32, 103, 111, 101, 115, 32, 48, 32, 48, 32, 48, 32, 48]⟩, .string ⟨#[]⟩] 9)).cell? ⟨w1.heap.size, i, none⟩ = some (.string ⟨((oddB n).getD i []).toArray⟩) := by rw [World.cell?_alloc_new]; exact odd_cell n d HNd.out i hi14
  have HB1 : Below w.heap.size w (w1.alloc (.cells #[Value.string ⟨d.toArray⟩, .string ((⟨d.toArray⟩ : ByteArray) ++ ⟨#[32]⟩), .string ((⟨#[32]⟩ : ByteArray) ++ ⟨d.toArray⟩), .string ((⟨#[48]⟩ : ByteArray) ++ ⟨d.toArray⟩), .string ((⟨d.toArray⟩ : ByteArray).extract 0 (d.length - 2)), .string ((⟨d.toArray⟩ : ByteArray) ++ ⟨#[32, 48]⟩), .string ((⟨d.toArray⟩ : ByteArray) ++ ⟨#[10]⟩), .string ((⟨#[120]⟩ : ByteArray) ++ ⟨d.toArray⟩), .string ⟨#[49, 32, 103, 111, 110, 101, 32, 48, 32, 48, 32, 48, 32, 48]⟩, .string ⟨#[49, 32, 103, 111, 101, 115, 32, 45, 48, 32, 48, 32, 48, 32, 48]⟩, .string ⟨#[49, 32, 103, 111, 101, 115, 32, 43, 49, 32, 48, 32, 48, 32, 48]⟩, .string ⟨#[49, 32, 103, 111, 101, 115, 32, 57, 57, 57, 57, 57, 57, 57, 57, 57, 57, 57, 57, 57, 57, 57, 57, 57, 57, 57, 57, 32, 48, 32, 48, 32, 48]⟩, .string ⟨#[49, 32, 32, 103, 111, 101, 115, 32, 48, 32, 48, 32, 48, 32, 48]⟩, .string ⟨#[]⟩] 9)) := hb1.alloc hb1.size _
  have hodd := fun w' => odd_parse h0' h1' i hi14 w'
  have hsm := oddB_small (show I64 n from hn) i
  obtain ⟨o, ho⟩ : ∃ o, (oddB n).getD i [] = o := ⟨_, rfl⟩
  rw [ho] at hcell hodd hsm
  clear ho
  have Hodd := hid hodd
  clear hodd
  generalize w1.alloc _ = W at hcell HB1 ⊢
  by_cases hi0 : i = 0
  · subst hi0
    go_wp2_with fail
    rw [cat_bytes o [10]]
    have hcall := Hodd.out W (HT.out.below HB1)
    simp only [if_true] at hcall
    refine hcall.mono ?_
    rintro r w3 ⟨⟨v, rfl⟩, hb3⟩
    clear hcall
    have HB3 := HB1.trans (hb3.mono HB1.size)
    go_wp2_with fail
    have hcall := trAwake_any w3 (HT.out.below HB3)
    refine hcall.mono ?_
    rintro r w4 ⟨rfl, hb4⟩
    clear hcall
    go_wp2_with fail
    go_ret
    exact ⟨rfl, HB3.trans (hb4.mono HB3.size)⟩
  · have e0 : ((i : Int) == 0) = false := by simp; omega
    go_wp2_with fail
    rw [cat_bytes o [10]]
    have hcall := Hodd.out W (HT.out.below HB1)
    rw [if_neg hi0] at hcall
    refine hcall.mono ?_
    rintro r w3 ⟨⟨v, rfl⟩, hb3⟩
    clear hcall
    have HB3 := HB1.trans (hb3.mono HB1.size)
    go_wp2_with fail
    have hcall := trAwake_any w3 (HT.out.below HB3)
    refine hcall.mono ?_
    rintro r w4 ⟨rfl, hb4⟩
    clear hcall
    go_wp2_with fail
    go_ret
    exact ⟨rfl, HB3.trans (hb4.mono HB3.size)⟩
end Go.Proofs.YtdjknobolflldaaDoor
