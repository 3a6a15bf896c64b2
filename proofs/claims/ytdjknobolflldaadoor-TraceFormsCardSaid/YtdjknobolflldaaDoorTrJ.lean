/- Atoi at every string; package trace: kind. -/
import Derived.Test.YtdjknobolflldaaDoorTrI
namespace Go.Proofs.YtdjknobolflldaaDoor
open Go.RowKit

/-- An error value: nil, or one that is not. -/
def ErIs (er : Value) (b : Bool) : Prop := (b = true ∧ er = .nilIface) ∨ (b = false ∧ ∃ t n, er = .iface t (.pointer (some ⟨n, 0, none⟩)))
theorem atoi_any (s : ByteArray) (hs : s.size ≤ 281474976710656) (w : World) (ht : Tabs w) :
    Calls Tryd.prog 49 #[.string s] w fun r w' => (∃ er, r = .returned (.tuple #[.int .i64 (atoiN s.data.toList), er]) ∧ ErIs er (atoiOk s.data.toList)) ∧ Below w.heap.size w w' := by
  rcases h : Lib.atoiAll s.data.toList with v | _ | _
  ·
    have hcall := Tryd.strconv_Atoi_ok s (by omega) v h w
    refine hcall.mono ?_
    rintro r w' ⟨rfl, hw⟩
    refine ⟨⟨_, by unfold atoiN; rw [h], .inl ⟨by unfold atoiOk; rw [h], rfl⟩⟩, ?_⟩
    rcases hw with rfl | ⟨t, rfl⟩
    · exact Below.refl _ _
    · exact Lib.bytesWorld_below _ _ _
  ·
    obtain ⟨ev, hev, hk⟩ := ht.syn
    have hcall : Calls Tryd.prog 49 #[.string s] w fun e w' => ∃ N, e = .returned (.tuple #[.int .i64 (0), .iface 128 (.pointer (some ⟨N, 0, none⟩))]) ∧ w.heap.size ≤ N ∧ w'.heap[N]? = some (.cells #[.string ⟨#[65, 116, 111, 105]⟩, .string s, ev] 153 (0, 0)) ∧ Below w.heap.size w w' :=
      Any.strconv_Atoi_syntax Tryd.laysC172 s hs h ev w hev hk
    refine hcall.mono ?_
    rintro r w' ⟨n, rfl, _, _, hb⟩
    exact ⟨⟨_, by unfold atoiN; rw [h], .inr ⟨by unfold atoiOk; rw [h], _, n, rfl⟩⟩, hb⟩
  ·
    obtain ⟨ev, hev, hk⟩ := ht.rng
    have hcall := Tryd.strconv_Atoi_range s hs h ev w hev hk
    refine hcall.mono ?_
    rintro r w' ⟨n, rfl, _, _, hb⟩
    exact ⟨⟨_, by unfold atoiN; rw [h], .inr ⟨by unfold atoiOk; rw [h], _, n, rfl⟩⟩, hb⟩

theorem ret_kind {a c : Int} {b d : Bool} (h1 : a = c) (h2 : b = d) : Ending.returned (.tuple #[.int .i64 a, .bool b]) = Ending.returned (.tuple #[.int .i64 c, .bool d]) := by rw [h1, h2]
set_option maxRecDepth 100000 in
set_option maxHeartbeats 1000000 in
theorem kind_any (s : ByteArray) (hs : s.size ≤ 281474976710656) (w : World) (ht : Tabs w) :
    Calls Tryd.prog 48 #[.string s] w fun r w' => r = .returned (.tuple #[.int .i64 (kindN s.data.toList), .bool (kindOk s.data.toList)]) ∧ Below w.heap.size w w' := by
  have HT := hid ht
  clear ht
  have hlen : kindList.length = 8 := rfl
  have hle := kindI_le s.data.toList
  obtain ⟨i, hi⟩ : ∃ i, kindI s.data.toList = i := ⟨_, rfl⟩
  have hi2 : Lib.idxOfS (kindList.map by8) s = i := hi
  rw [hi] at hle
  have hN : kindN s.data.toList = if 0 ≤ i then i + 1 else atoiN s.data.toList := by unfold kindN; rw [hi]
  have hO : kindOk s.data.toList = if 0 ≤ i then true else atoiOk s.data.toList := by unfold kindOk; rw [hi]
  have HN := hid (And.intro hN hO)
  have Hi := hid hi2
  clear hN hO hi hi2
  have HF := hid (fun (j : Nat) (hj : j < (kindList.map by8).length) => show (w.alloc (.cells (kindList.map fun l => Value.string ⟨l.toArray⟩).toArray 9)).cell? ⟨w.heap.size, 0 + j, none⟩ = some (.string ((kindList.map by8).getD j ByteArray.empty)) by
    rw [Nat.zero_add, World.cell?_alloc_new, List.getElem?_toArray, List.getElem?_map]
    rw [List.length_map] at hj
    rw [List.getElem?_eq_getElem hj, List.getD_eq_getElem?_getD, List.getElem?_map, List.getElem?_eq_getElem hj]
    rfl)
  by_cases h0 : 0 ≤ i
  · go_enter Tryd.func48, Tryd.ntmps48
    go_wp2_with fail
    refine (Tryd.strings_Fields ⟨kindsText.toArray⟩ w (by decide +kernel) (fun j b hb => ascii_kinds b (List.mem_of_getElem? hb)) HT.out.space).mono ?_
    rintro e w' ⟨rfl, rfl⟩
    rw [show (⟨kindsText.toArray⟩ : ByteArray).data.toList = kindsText from rfl, fields_kinds, hlen]
    go_wp2_with fail
    have hcall := Tryd.slices_Index_string w.heap.size 0 8 8 (kindList.map by8) s (w.alloc (.cells (kindList.map fun l => Value.string ⟨l.toArray⟩).toArray 9)) (by decide) (by decide) HF.out
    rw [List.take_of_length_le (by decide), Hi.out] at hcall
    refine hcall.mono ?_
    rintro e w1 ⟨rfl, rfl⟩
    go_wp2_with fail
    go_ret2
    exact ⟨ret_kind (by rw [HN.out.1, if_pos h0]) (by rw [HN.out.2, if_pos h0]), (Below.refl _ _).alloc (Nat.le_refl _) _⟩
  · go_enter Tryd.func48, Tryd.ntmps48
    go_wp2_with fail
    refine (Tryd.strings_Fields ⟨kindsText.toArray⟩ w (by decide +kernel) (fun j b hb => ascii_kinds b (List.mem_of_getElem? hb)) HT.out.space).mono ?_
    rintro e w' ⟨rfl, rfl⟩
    rw [show (⟨kindsText.toArray⟩ : ByteArray).data.toList = kindsText from rfl, fields_kinds, hlen]
    go_wp2_with fail
    have hcall := Tryd.slices_Index_string w.heap.size 0 8 8 (kindList.map by8) s (w.alloc (.cells (kindList.map fun l => Value.string ⟨l.toArray⟩).toArray 9)) (by decide) (by decide) HF.out
    rw [List.take_of_length_le (by decide), Hi.out] at hcall
    refine hcall.mono ?_
    rintro e w1 ⟨rfl, rfl⟩
    clear hcall
    go_wp2_with fail
    have hcall := atoi_any s hs _ (HT.out.below ((Below.refl _ _).alloc (Nat.le_refl _) (.cells (kindList.map fun l => Value.string ⟨l.toArray⟩).toArray 9)))
    refine hcall.mono ?_
    rintro e w1 ⟨⟨er, rfl, her⟩, hb⟩
    clear hcall
    rcases her with ⟨hok, rfl⟩ | ⟨hok, t, n, rfl⟩
    all_goals
      have Hok := hid hok
      clear hok
      go_wp2_with fail
      go_quiet (fail)
      go_wp2_with fail
      go_ret2
      exact ⟨ret_kind (by rw [HN.out.1, if_neg (show ¬ 0 ≤ i by omega)]) (by rw [HN.out.2, if_neg (show ¬ 0 ≤ i by omega), Hok.out]), (((Below.refl _ _).alloc (Nat.le_refl _) _).trans (hb.mono (by simp))).trans (drewN_below _ _ |>.mono (by have := hb.size; simp at this; omega))⟩
end Go.Proofs.YtdjknobolflldaaDoor
