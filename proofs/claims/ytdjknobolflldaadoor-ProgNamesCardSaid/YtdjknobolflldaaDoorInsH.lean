/- The law ProgNames: its awake, and the walk. -/
import Derived.Test.YtdjknobolflldaaDoorInsG
namespace Go.Proofs.YtdjknobolflldaaDoor
open Go.RowKit

theorem rdP_one {w : World} {n : Nat} {i : Ins} {sv : Value} {t : TypeId} (hn : n = w.heap.size) (hs : Rd w sv i.cases.length 3 (fun j => (i.cases.getD j noCase).cells)) :
    RdP (w.alloc (.cells (insCells i sv).toArray t)) (.slice (some ⟨n, 0, none⟩) 1 1) [i] := by
  subst hn
  refine ⟨fun _ => sv, .inr ⟨w.heap.size, 0, 1, rfl, by simp, by simp, fun k hk j x hx => ?_⟩, fun k hk => ?_⟩
  · obtain rfl : k = 0 := by simpa using hk
    simp only [Nat.zero_mul, Nat.zero_add]
    rw [World.cell?_alloc_new]
    simpa using hx
  · obtain rfl : k = 0 := by simpa using hk
    exact hs.below ((Below.refl _ _).alloc (Nat.le_refl _) _)
theorem rdP_two {w : World} {n : Nat} {i k : Ins} {sv tv : Value} {t : TypeId} (hn : n = w.heap.size) (hs : Rd w sv i.cases.length 3 (fun j => (i.cases.getD j noCase).cells)) (ht : Rd w tv k.cases.length 3 (fun j => (k.cases.getD j noCase).cells)) :
    RdP (w.alloc (.cells (insCells i sv ++ insCells k tv).toArray t)) (.slice (some ⟨n, 0, none⟩) 2 2) [i, k] := by
  subst hn
  refine ⟨fun m => if m = 0 then sv else tv, .inr ⟨w.heap.size, 0, 2, rfl, by simp, by simp, fun m hm j x hx => ?_⟩, fun m hm => ?_⟩
  · have hm2 : m < 2 := hm
    obtain rfl | rfl : m = 0 ∨ m = 1 := by omega
    · simp only [Nat.zero_mul, Nat.zero_add]
      rw [World.cell?_alloc_new, List.getElem?_toArray]
      have hj : j < 6 := by
        rcases Nat.lt_or_ge j 6 with h | h
        · exact h
        · rw [List.getElem?_eq_none (by simpa [insCells] using h)] at hx; cases hx
      rw [List.getElem?_append_left (by simpa [insCells] using hj)]
      exact hx
    · rw [World.cell?_alloc_new, List.getElem?_toArray, List.getElem?_append_right (by simp [insCells])]
      simp only [insCells, List.length_cons, List.length_nil]
      rw [show 0 + 1 * 6 + j - (0 + 1 + 1 + 1 + 1 + 1 + 1) = j by omega]
      exact hx
  · have hm2 : m < 2 := hm
    obtain rfl | rfl : m = 0 ∨ m = 1 := by omega
    · exact hs.below ((Below.refl _ _).alloc (Nat.le_refl _) _)
    · exact ht.below ((Below.refl _ _).alloc (Nat.le_refl _) _)
theorem rd_nil (w : World) (sz : Nat) (el : Nat → List Value) : Rd w (.slice none 0 0) 0 sz el := .inl ⟨rfl, rfl⟩
theorem rdI_new {w : World} {n : Nat} {a b c : Int} {t : TypeId} (hn : n = w.heap.size) : RdI (w.alloc (.cells #[.int .i64 a, .int .i64 b, .int .i64 c] t)) (.slice (some ⟨n, 0, none⟩) 3 3) [a, b, c] := by
  subst hn
  refine ⟨_, _, rfl, by simp, fun k hk => ⟨w.heap.size, 0, rfl, by simp, ?_⟩⟩
  have hk3 : k < 3 := hk
  rw [World.cell?_alloc_new]
  obtain rfl | rfl | rfl : k = 0 ∨ k = 1 ∨ k = 2 := by omega
  all_goals rfl

theorem rdP_nil (w : World) : RdP w (.slice none 0 0) [] := ⟨fun _ => .slice none 0 0, .inl ⟨rfl, rfl⟩, fun k hk => by simp at hk⟩
theorem rdPs_nil (w : World) : RdPs w (.slice none 0 0) [] := ⟨fun _ => .slice none 0 0, .inl ⟨rfl, rfl⟩, fun k hk => by simp at hk⟩
theorem rdPs_one {w : World} {n : Nat} {p : List Ins} {pv : Value} {t : TypeId} (hn : n = w.heap.size) (h : RdP w pv p) : RdPs (w.alloc (.cells #[pv] t)) (.slice (some ⟨n, 0, none⟩) 1 1) [p] := by
  subst hn
  refine ⟨fun _ => pv, .inr ⟨w.heap.size, 0, 1, rfl, by simp, by simp, fun k hk j x hx => ?_⟩, fun k hk => ?_⟩
  · obtain rfl : k = 0 := by simpa using hk
    simp only [Nat.zero_mul, Nat.zero_add]
    rw [World.cell?_alloc_new]
    simpa using hx
  · obtain rfl : k = 0 := by simpa using hk
    exact h.below ((Below.refl _ _).alloc (Nat.le_refl _) _)
theorem rdPs_two {w : World} {n : Nat} {p q : List Ins} {pv qv : Value} {t : TypeId} (hn : n = w.heap.size) (h : RdP w pv p) (h' : RdP w qv q) : RdPs (w.alloc (.cells #[pv, qv] t)) (.slice (some ⟨n, 0, none⟩) 2 2) [p, q] := by
  subst hn
  refine ⟨fun m => if m = 0 then pv else qv, .inr ⟨w.heap.size, 0, 2, rfl, by simp, by simp, fun m hm j x hx => ?_⟩, fun m hm => ?_⟩
  · have hm2 : m < 2 := hm
    have hj : j = 0 := by
      rcases Nat.eq_zero_or_pos j with h | h
      · exact h
      · rw [List.getElem?_eq_none (by simp; omega)] at hx; cases hx
    subst hj
    rw [World.cell?_alloc_new]
    obtain rfl | rfl : m = 0 ∨ m = 1 := by omega
    · exact hx
    · exact hx
  · have hm2 : m < 2 := hm
    obtain rfl | rfl : m = 0 ∨ m = 1 := by omega
    · exact h.below ((Below.refl _ _).alloc (Nat.le_refl _) _)
    · exact h'.below ((Below.refl _ _).alloc (Nat.le_refl _) _)
theorem gSpace : Tryd.prog.globalNamed "strings.asciiSpace" = some 0 := by kernel_rfl
theorem tab_below {w w' : World} (h : Lib.TabIs Tryd.prog w "strings.asciiSpace" .u8 Lib.asciiSpaceTab) (hb : Below w.heap.size w w') : Lib.TabIs Tryd.prog w' "strings.asciiSpace" .u8 Lib.asciiSpaceTab :=
  var?_below hb gSpace (World.block_lt_of_cell? w _ (h.cell gSpace 0 (by rw [Lib.asciiSpaceTab_length]; decide))) h

set_option maxRecDepth 100000 in
set_option maxHeartbeats 2000000 in
theorem awake_any (w : World) (htab : Lib.TabIs Tryd.prog w "strings.asciiSpace" .u8 Lib.asciiSpaceTab) :
    Calls Tryd.prog 10 #[] w fun e w' => e = .returned (.bool true) ∧ Below w.heap.size w w' := by
  have HT := hid htab
  clear htab
  go_enter Tryd.func10, Tryd.ntmps10
  go_wp2_with fail
  generalize hW2 : World.alloc (World.alloc w (.cells #[.bool false, .int .i64 4, .int .i64 0, .bool true, .int .i64 5, .int .i64 6] 42)) (.cells #[.int .i64 15, .int .i64 1, .int .i64 2, .int .i64 3, .slice (some ⟨w.heap.size, 0, none⟩) 2 2, .bool true] 45) = W2
  have hz : W2.heap.size = w.heap.size + 1 + 1 := by rw [← hW2]; simp
  have hsel : SelAt W2 w.heap.size := fun j x hx => by
    rw [← hW2, World.cell?_alloc_old _ _ _ (by simp), World.cell?_alloc_new]; simpa using hx
  have hin : ∀ j x, [Value.int .i64 15, .int .i64 1, .int .i64 2, .int .i64 3, .slice (some ⟨w.heap.size, 0, none⟩) 2 2, .bool true][j]? = some x → W2.cell? ⟨w.heap.size + 1, j, none⟩ = some x := fun j x hx => by
    rw [← hW2, World.cell?_alloc_at _ _ _ _ (by simp)]; simpa using hx
  have HB : Below w.heap.size w W2 := by rw [← hW2]; exact ((Below.refl _ _).alloc (Nat.le_refl _) _).alloc (by simp) _
  clear hW2
  have Hz := hid hz
  have Hsel := hid hsel
  have Hin := hid hin
  clear hz hsel hin
  refine (check_any [selIns, ⟨4, 2, 0, 0, [], false⟩] _ _ (rdP_two Hz.out.symm (Hsel.out.rd (by have := Hz.out; omega)) (rd_nil _ _ _))).mono ?_
  rintro e w3 ⟨rfl, hb⟩
  rw [show errB (checkB [selIns, ⟨4, 2, 0, 0, [], false⟩]) = 0 by decide +kernel]
  have H3 : Below W2.heap.size W2 w3 := ((Below.refl _ _).alloc (Nat.le_refl _) _).trans (hb.mono (by simp))
  clear hb
  go_wp2_with fail
  refine (check_any [⟨4, 2, 0, 0, [], false⟩] _ _ (rdP_one rfl (rd_nil _ _ _))).mono ?_
  rintro e w4 ⟨rfl, hb⟩
  rw [show errB (checkB [⟨4, 2, 0, 0, [], false⟩]) = 1 by decide +kernel]
  have H4 : Below W2.heap.size W2 w4 := H3.trans (((((Below.refl _ _).alloc (Nat.le_refl _) _).trans (hb.mono (by simp)))).mono H3.size)
  clear hb H3
  go_wp2_with fail
  refine (check_any [⟨1, 8, 0, 0, [], false⟩] _ _ (rdP_one rfl (rd_nil _ _ _))).mono ?_
  rintro e w5 ⟨rfl, hb⟩
  rw [show errB (checkB [⟨1, 8, 0, 0, [], false⟩]) = 1 by decide +kernel]
  have H5 : Below W2.heap.size W2 w5 := H4.trans (((((Below.refl _ _).alloc (Nat.le_refl _) _).trans (hb.mono (by simp)))).mono H4.size)
  clear hb H4
  go_wp2_with fail
  refine (all_any [[⟨8, 0, 1, 0, [], false⟩], []] _ _ (rdPs_two (by simp) (by exact rdP_one rfl (rd_nil _ _ _)) (rdP_nil _))).mono ?_
  rintro e w6 ⟨rfl, hb⟩
  rw [show errB (allB [[⟨8, 0, 1, 0, [], false⟩], []]) = 0 by decide +kernel]
  have H6 : Below W2.heap.size W2 w6 := H5.trans (((((Below.refl _ _).alloc (Nat.le_refl _) _).alloc (by simp) _).trans (hb.mono (by simp; omega))).mono H5.size)
  clear hb H5
  go_wp2_with fail
  refine (all_any [[⟨8, 0, 1, 0, [], false⟩]] _ _ (rdPs_one (by simp) (by exact rdP_one rfl (rd_nil _ _ _)))).mono ?_
  rintro e w7 ⟨rfl, hb⟩
  rw [show errB (allB [[⟨8, 0, 1, 0, [], false⟩]]) = 1 by decide +kernel]
  have H7 : Below W2.heap.size W2 w7 := H6.trans (((((Below.refl _ _).alloc (Nat.le_refl _) _).alloc (by simp) _).trans (hb.mono (by simp; omega))).mono H6.size)
  clear hb H6
  go_wp2_with fail
  refine (all_any [] _ _ (rdPs_nil _)).mono ?_
  rintro e w8 ⟨rfl, hb⟩
  rw [show errB (allB []) = 1 by decide +kernel]
  have H8 : Below W2.heap.size W2 w8 := H7.trans (hb.mono H7.size)
  clear hb H7
  have q0 := (H8.cell (p := ⟨w.heap.size + 1, 0, none⟩) (by have := Hz.out; show w.heap.size + 1 < _; omega)).trans (Hin.out 0 _ rfl)
  have q1 := (H8.cell (p := ⟨w.heap.size + 1, 1, none⟩) (by have := Hz.out; show w.heap.size + 1 < _; omega)).trans (Hin.out 1 _ rfl)
  have q2 := (H8.cell (p := ⟨w.heap.size + 1, 2, none⟩) (by have := Hz.out; show w.heap.size + 1 < _; omega)).trans (Hin.out 2 _ rfl)
  have q3 := (H8.cell (p := ⟨w.heap.size + 1, 3, none⟩) (by have := Hz.out; show w.heap.size + 1 < _; omega)).trans (Hin.out 3 _ rfl)
  have q4 := (H8.cell (p := ⟨w.heap.size + 1, 4, none⟩) (by have := Hz.out; show w.heap.size + 1 < _; omega)).trans (Hin.out 4 _ rfl)
  have q5 := (H8.cell (p := ⟨w.heap.size + 1, 5, none⟩) (by have := Hz.out; show w.heap.size + 1 < _; omega)).trans (Hin.out 5 _ rfl)
  go_wp2_with fail
  refine (reads_sel w.heap.size _ (by have := Hz.out; have := H8.size; omega) (fun j x hx => (H8.cell (p := ⟨w.heap.size, j, none⟩) (by have := Hz.out; show w.heap.size < _; omega)).trans (Hsel.out j x hx))).mono ?_
  rintro e w9 ⟨⟨v9, rfl, hr9⟩, hb⟩
  have H9 : Below W2.heap.size W2 w9 := H8.trans (hb.mono H8.size)
  have R9 := hid hr9
  clear hb H8 hr9 q0 q1 q2 q3 q4 q5
  go_wp2_with fail
  refine (ints_any [4, 5, 6] [4, 5, 6] _ _ _ (R9.out.below ((Below.refl _ _).alloc (Nat.le_refl _) _)) (rdI_new rfl)).mono ?_
  rintro e w10 ⟨rfl, hb⟩
  rw [show sameB [4, 5, 6] [4, 5, 6] = true by decide +kernel]
  have H10 : Below W2.heap.size W2 w10 := H9.trans (((((Below.refl _ _).alloc (Nat.le_refl _) _).trans (hb.mono (by simp)))).mono H9.size)
  clear hb H9
  have q0 := (H10.cell (p := ⟨w.heap.size + 1, 0, none⟩) (by have := Hz.out; show w.heap.size + 1 < _; omega)).trans (Hin.out 0 _ rfl)
  have q1 := (H10.cell (p := ⟨w.heap.size + 1, 1, none⟩) (by have := Hz.out; show w.heap.size + 1 < _; omega)).trans (Hin.out 1 _ rfl)
  have q2 := (H10.cell (p := ⟨w.heap.size + 1, 2, none⟩) (by have := Hz.out; show w.heap.size + 1 < _; omega)).trans (Hin.out 2 _ rfl)
  have q3 := (H10.cell (p := ⟨w.heap.size + 1, 3, none⟩) (by have := Hz.out; show w.heap.size + 1 < _; omega)).trans (Hin.out 3 _ rfl)
  have q4 := (H10.cell (p := ⟨w.heap.size + 1, 4, none⟩) (by have := Hz.out; show w.heap.size + 1 < _; omega)).trans (Hin.out 4 _ rfl)
  have q5 := (H10.cell (p := ⟨w.heap.size + 1, 5, none⟩) (by have := Hz.out; show w.heap.size + 1 < _; omega)).trans (Hin.out 5 _ rfl)
  go_wp2_with fail
  refine (writes_sel w.heap.size _ (by have := Hz.out; have := H10.size; omega) (fun j x hx => (H10.cell (p := ⟨w.heap.size, j, none⟩) (by have := Hz.out; show w.heap.size < _; omega)).trans (Hsel.out j x hx))).mono ?_
  rintro e w11 ⟨⟨v11, rfl, hr11⟩, hb⟩
  have H11 : Below W2.heap.size W2 w11 := H10.trans (hb.mono H10.size)
  have R11 := hid hr11
  clear hb H10 hr11 q0 q1 q2 q3 q4 q5
  go_wp2_with fail
  refine (ints_any [1, 2, 3] [1, 2, 3] _ _ _ (R11.out.below ((Below.refl _ _).alloc (Nat.le_refl _) _)) (rdI_new rfl)).mono ?_
  rintro e w12 ⟨rfl, hb⟩
  rw [show sameB [1, 2, 3] [1, 2, 3] = true by decide +kernel]
  have H12 : Below W2.heap.size W2 w12 := H11.trans (((((Below.refl _ _).alloc (Nat.le_refl _) _).trans (hb.mono (by simp)))).mono H11.size)
  clear hb H11
  go_wp2_with fail
  refine (name_in 32 _ (by decide) (by decide) (tab_below HT.out (HB.trans (H12.mono HB.size)))).mono ?_
  rintro e w13 ⟨rfl, hb⟩
  rw [show nameOf 32 = [117, 110, 97, 102, 116, 101, 114] by decide +kernel]
  have H13 : Below W2.heap.size W2 w13 := H12.trans (hb.mono H12.size)
  clear hb H12
  go_wp2_with fail
  refine (name_out 0 _ (by decide)).mono ?_
  rintro e w14 ⟨rfl, rfl⟩
  go_wp2_with fail
  go_ret
  exact ⟨rfl, HB.trans (H13.mono HB.size)⟩
end Go.Proofs.YtdjknobolflldaaDoor
