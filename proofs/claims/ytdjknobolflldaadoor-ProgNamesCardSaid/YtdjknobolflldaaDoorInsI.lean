/- The law ProgNames: the walk. -/
import Derived.Test.YtdjknobolflldaaDoorInsH
namespace Go.Proofs.YtdjknobolflldaaDoor
open Go.RowKit

theorem name_small : ∀ i : Fin 32, (nameList.getD i.val []) ≠ [] ∧ ∀ c ∈ nameList.getD i.val [], 97 ≤ c.toNat ∧ c.toNat ≤ 122 := by decide +kernel
theorem name_apart : ∀ i j : Fin 32, nameList.getD i.val [] = nameList.getD j.val [] → i = j := by decide +kernel
theorem nameOf_in {a : Int} (h1 : 1 ≤ a) (h2 : a ≤ 32) : nameOf a = nameList.getD (a - 1).toNat [] := by unfold nameOf; rw [if_neg (by omega)]
theorem nameOf_ne {a : Int} (h1 : 1 ≤ a) (h2 : a ≤ 32) : nameOf a ≠ [] := by
  rw [nameOf_in h1 h2]; exact (name_small ⟨(a - 1).toNat, by omega⟩).1
theorem nameOf_low {a : Int} (h1 : 1 ≤ a) (h2 : a ≤ 32) : ∀ c ∈ nameOf a, 97 ≤ c.toNat ∧ c.toNat ≤ 122 := by
  rw [nameOf_in h1 h2]; exact (name_small ⟨(a - 1).toNat, by omega⟩).2
theorem nameOf_inj {a b : Int} (h1 : 1 ≤ a) (h2 : a ≤ 32) (h3 : 1 ≤ b) (h4 : b ≤ 32) (h : nameOf a = nameOf b) : a = b := by
  rw [nameOf_in h1 h2, nameOf_in h3 h4] at h
  have := name_apart ⟨(a - 1).toNat, by omega⟩ ⟨(b - 1).toNat, by omega⟩ h
  simp only [Fin.mk.injEq] at this
  omega

set_option maxRecDepth 100000 in
set_option maxHeartbeats 1000000 in
theorem walk_out_out (a b : Int) (w : World) (ha : a < 1 ∨ 32 < a) (hb : b < 1 ∨ 32 < b) (htab : Lib.TabIs Tryd.prog w "strings.asciiSpace" .u8 Lib.asciiSpaceTab) :
    Calls Tryd.prog 3 #[.int .i64 a, .int .i64 b] w fun e w' => e = .returned (.bool true) ∧ Below w.heap.size w w' := by
  have HT := hid htab
  have Ha := hid ha
  have Hb := hid hb
  have ea : (decide (a < 1) || decide (32 < a)) = true := by rcases ha with h | h <;> simp [h]
  have eb : (decide (b < 1) || decide (32 < b)) = true := by rcases hb with h | h <;> simp [h]
  clear htab ha hb
  go_enter Tryd.func3, Tryd.ntmps3
  go_wp2_with fail
  refine (name_out a _ Ha.out).mono ?_
  rintro e w1 ⟨rfl, rfl⟩
  go_wp2_with fail
  refine (name_out b _ Hb.out).mono ?_
  rintro e w1 ⟨rfl, rfl⟩
  go_wp2_with fail
  all_goals
    refine wp_loop_rounds 1 ?_
    rw [rounds_succ]
    go_wp2_with fail
    refine (awake_any _ HT.out).mono ?_
    rintro e w3 ⟨rfl, hb3⟩
    go_wp2_with fail
    go_ret
    exact ⟨rfl, hb3⟩

set_option maxRecDepth 100000 in
set_option maxHeartbeats 1000000 in
theorem walk_out_in (a b : Int) (w : World) (ha : a < 1 ∨ 32 < a) (hb1 : 1 ≤ b) (hb2 : b ≤ 32) (htab : Lib.TabIs Tryd.prog w "strings.asciiSpace" .u8 Lib.asciiSpaceTab) :
    Calls Tryd.prog 3 #[.int .i64 a, .int .i64 b] w fun e w' => e = .returned (.bool true) ∧ Below w.heap.size w w' := by
  have HT := hid htab
  have Ha := hid ha
  clear htab ha
  obtain ⟨ys, hys⟩ : ∃ ys, nameOf b = ys := ⟨_, rfl⟩
  have e1 : ys.isEmpty = false := by rw [← hys]; simpa using nameOf_ne hb1 hb2
  have Hys := hid hys
  clear hys
  have H1 := hid Ha.out
  rcases Decidable.em (a < 1) with h1 | h1
  all_goals
    have e2 : (decide (a < 1) || decide (32 < a)) = true := by rcases H1.out with h | h <;> simp [h]
    go_enter Tryd.func3, Tryd.ntmps3
    go_wp2_with fail
    refine (name_out a _ Ha.out).mono ?_
    rintro e w1 ⟨rfl, rfl⟩
    go_wp2_with fail
    refine (name_in b _ hb1 hb2 HT.out).mono ?_
    rintro e w1 ⟨rfl, hB1⟩
    rw [Hys.out]
    go_wp2_with fail
    refine wp_loop_rounds 1 ?_
    rw [rounds_succ]
    go_wp2_with fail
    refine (awake_any _ (tab_below HT.out hB1)).mono ?_
    rintro e w3 ⟨rfl, hb3⟩
    go_wp2_with fail
    go_ret
    exact ⟨rfl, hB1.trans (hb3.mono hB1.size)⟩

set_option maxRecDepth 100000 in
set_option maxHeartbeats 2000000 in
theorem walk_in_out (a b : Int) (w : World) (ha1 : 1 ≤ a) (ha2 : a ≤ 32) (hb : b < 1 ∨ 32 < b) (htab : Lib.TabIs Tryd.prog w "strings.asciiSpace" .u8 Lib.asciiSpaceTab) :
    Calls Tryd.prog 3 #[.int .i64 a, .int .i64 b] w fun e w' => e = .returned (.bool true) ∧ Below w.heap.size w w' := by
  have HT := hid htab
  have Hb := hid hb
  clear htab hb
  obtain ⟨xs, hxs⟩ : ∃ xs, nameOf a = xs := ⟨_, rfl⟩
  have e1 : xs.isEmpty = false := by rw [← hxs]; simpa using nameOf_ne ha1 ha2
  have hlow : ∀ c ∈ xs, 97 ≤ c.toNat ∧ c.toNat ≤ 122 := by rw [← hxs]; exact nameOf_low ha1 ha2
  have hlen : xs.length ≤ 1000 := by
    rw [← hxs, nameOf_in ha1 ha2]
    have : ∀ i : Fin 32, (nameList.getD i.val []).length ≤ 1000 := by decide +kernel
    exact this ⟨(a - 1).toNat, by omega⟩
  have Hlow := hid hlow
  have Hxs := hid hxs
  clear hxs hlow
  have d1 : decide (a < 1) = false := by simp; omega
  have d2 : decide (32 < a) = false := by simp; omega
  have H1 := hid Hb.out
  have e5 : (a == b) = false := by simp; rcases Hb.out with h | h <;> omega
  rcases Decidable.em (b < 1) with h1 | h1
  all_goals
    have e2 : (decide (b < 1) || decide (32 < b)) = true := by rcases H1.out with h | h <;> simp [h]
    go_enter Tryd.func3, Tryd.ntmps3
    go_wp2_with fail
    refine (name_in a _ ha1 ha2 HT.out).mono ?_
    rintro e w1 ⟨rfl, hB1⟩
    rw [Hxs.out]
    go_wp2_with fail
    refine (name_out b _ Hb.out).mono ?_
    rintro e w1 ⟨rfl, rfl⟩
    go_wp2_with fail
    go_loop [7] (fun i => ∃ k : Nat, k ≤ xs.length ∧ i = .int .i64 k) (fun i => xs.length - (intOf i).toNat)
    case atStart => exact ⟨0, by omega, rfl⟩
    case round =>
      obtain ⟨k, hk, rfl⟩ := hrel
      by_cases hlt : k < xs.length
      · have hsz : k < (⟨xs.toArray⟩ : ByteArray).size := by show k < xs.toArray.size; simpa using hlt
        have hb : 97 ≤ ((⟨xs.toArray⟩ : ByteArray)[k]'hsz).toNat ∧ ((⟨xs.toArray⟩ : ByteArray)[k]'hsz).toNat ≤ 122 := Hlow.out xs[k] (List.getElem_mem hlt)
        obtain ⟨g1, g2⟩ := hb
        go_wp2_with fail
        go_round
        case rel => exact ⟨k + 1, by omega, by go_num⟩
        case measure => simp [intOf]; omega
      · obtain rfl : k = xs.length := by omega
        go_wp2_with fail
        refine (awake_any _ (tab_below HT.out hB1)).mono ?_
        rintro e w3 ⟨rfl, hb3⟩
        go_wp2_with fail
        go_ret
        exact ⟨rfl, hB1.trans (hb3.mono hB1.size)⟩

set_option maxRecDepth 100000 in
set_option maxHeartbeats 2000000 in
theorem walk_in_in (a b : Int) (w : World) (ha1 : 1 ≤ a) (ha2 : a ≤ 32) (hb1 : 1 ≤ b) (hb2 : b ≤ 32) (htab : Lib.TabIs Tryd.prog w "strings.asciiSpace" .u8 Lib.asciiSpaceTab) :
    Calls Tryd.prog 3 #[.int .i64 a, .int .i64 b] w fun e w' => e = .returned (.bool true) ∧ Below w.heap.size w w' := by
  have HT := hid htab
  clear htab
  obtain ⟨xs, hxs⟩ : ∃ xs, nameOf a = xs := ⟨_, rfl⟩
  obtain ⟨ys, hys⟩ : ∃ ys, nameOf b = ys := ⟨_, rfl⟩
  have e1 : xs.isEmpty = false := by rw [← hxs]; simpa using nameOf_ne ha1 ha2
  have e0 : ys.isEmpty = false := by rw [← hys]; simpa using nameOf_ne hb1 hb2
  have hlow : ∀ c ∈ xs, 97 ≤ c.toNat ∧ c.toNat ≤ 122 := by rw [← hxs]; exact nameOf_low ha1 ha2
  have hlen : xs.length ≤ 1000 := by
    rw [← hxs, nameOf_in ha1 ha2]
    have : ∀ i : Fin 32, (nameList.getD i.val []).length ≤ 1000 := by decide +kernel
    exact this ⟨(a - 1).toNat, by omega⟩
  have hxy : xs = ys ↔ a = b := by
    rw [← hxs, ← hys]
    exact ⟨nameOf_inj ha1 ha2 hb1 hb2, fun h => by rw [h]⟩
  have Hlow := hid hlow
  have Hxs := hid hxs
  have Hys := hid hys
  have Hxy := hid hxy
  clear hxs hys hlow hxy
  have d1 : decide (a < 1) = false := by simp; omega
  have d2 : decide (32 < a) = false := by simp; omega
  have d3 : decide (b < 1) = false := by simp; omega
  have d4 : decide (32 < b) = false := by simp; omega
  go_enter Tryd.func3, Tryd.ntmps3
  go_wp2_with fail
  refine (name_in a _ ha1 ha2 HT.out).mono ?_
  rintro e w1 ⟨rfl, hB1⟩
  rw [Hxs.out]
  go_wp2_with fail
  refine (name_in b _ hb1 hb2 (tab_below HT.out hB1)).mono ?_
  rintro e w2 ⟨rfl, hb2'⟩
  have hB2 := hB1.trans (hb2'.mono hB1.size)
  clear hb2' hB1
  rw [Hys.out]
  go_wp2_with fail
  go_loop [7] (fun i => ∃ k : Nat, k ≤ xs.length ∧ i = .int .i64 k) (fun i => xs.length - (intOf i).toNat)
  case atStart => exact ⟨0, by omega, rfl⟩
  case round =>
    obtain ⟨k, hk, rfl⟩ := hrel
    by_cases hlt : k < xs.length
    · have hsz : k < (⟨xs.toArray⟩ : ByteArray).size := by show k < xs.toArray.size; simpa using hlt
      have hb : 97 ≤ ((⟨xs.toArray⟩ : ByteArray)[k]'hsz).toNat ∧ ((⟨xs.toArray⟩ : ByteArray)[k]'hsz).toNat ≤ 122 := Hlow.out xs[k] (List.getElem_mem hlt)
      obtain ⟨g1, g2⟩ := hb
      go_wp2_with fail
      go_round
      case rel => exact ⟨k + 1, by omega, by go_num⟩
      case measure => simp [intOf]; omega
    · obtain rfl : k = xs.length := by omega
      by_cases hab : a = b
      · have hx := Hxy.out.2 hab
        subst hab
        subst hx
        go_wp2_with fail
        refine (awake_any _ (tab_below HT.out hB2)).mono ?_
        rintro e w3 ⟨rfl, hb3⟩
        go_wp2_with fail
        go_ret
        exact ⟨rfl, hB2.trans (hb3.mono hB2.size)⟩
      · have hx : ¬ xs = ys := fun h => hab (Hxy.out.1 h)
        have e5 : (a == b) = false := by simpa using hab
        have e6 : (xs == ys) = false := by simpa using hx
        have HX := hid hx
        clear hab hx
        go_wp2_with fail

        refine (awake_any _ (tab_below HT.out hB2)).mono ?_
        rintro e w3 ⟨rfl, hb3⟩
        go_wp2_with fail
        go_ret
        exact ⟨rfl, hB2.trans (hb3.mono hB2.size)⟩

theorem progNames_any (a b : Int) (w : World) (htab : Lib.TabIs Tryd.prog w "strings.asciiSpace" .u8 Lib.asciiSpaceTab) :
    Calls Tryd.prog 3 #[.int .i64 a, .int .i64 b] w fun e w' => e = .returned (.bool true) ∧ Below w.heap.size w w' := by
  by_cases ha : a < 1 ∨ 32 < a <;> by_cases hb : b < 1 ∨ 32 < b
  · exact walk_out_out a b w ha hb htab
  · exact walk_out_in a b w ha (by omega) (by omega) htab
  · exact walk_in_out a b w (by omega) (by omega) hb htab
  · exact walk_in_in a b w (by omega) (by omega) (by omega) (by omega) htab
end Go.Proofs.YtdjknobolflldaaDoor
