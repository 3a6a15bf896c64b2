/- Package prog: Name; what a select reads and writes; lists of numbers held against each other. -/
import Derived.Test.YtdjknobolflldaaDoorInsE
import Derived.Test.YtdjknobolflldaaDoorShelf
import Derived.Lib.OwnBridge
import Derived.Lib.AppendIntMem
namespace Go.Proofs.YtdjknobolflldaaDoor
open Go.RowKit Go.Sort

def nameList : List (List UInt8) := [[115, 101, 116], [109, 111, 118, 101], [105, 110, 99], [106, 117, 109, 112], [122, 101, 114, 111], [101, 109, 105, 116], [101, 120, 105, 116], [103, 111], [109, 97, 107, 101], [115, 101, 110, 100], [114, 101, 99, 118], [99, 108, 111, 115, 101], [108, 101, 110], [99, 97, 112], [115, 101, 108, 101, 99, 116], [110, 111, 119], [110, 101, 119, 116, 105, 109, 101, 114], [116, 105, 99, 107, 101, 114], [102, 117, 110, 99], [115, 116, 111, 112], [114, 101, 115, 101, 116], [99, 97, 110, 99, 101, 108, 115], [100, 101, 97, 100, 108, 105, 110, 101], [116, 105, 109, 101, 111, 117, 116], [119, 105, 116, 104, 111, 117, 116], [99, 97, 110, 99, 101, 108], [101, 114, 114], [99, 97, 117, 115, 101], [100, 111, 110, 101], [117, 110, 116, 105, 108], [97, 102, 116, 101, 114], [117, 110, 97, 102, 116, 101, 114]]
def namesText : List UInt8 := [115, 101, 116, 32, 109, 111, 118, 101, 32, 105, 110, 99, 32, 106, 117, 109, 112, 32, 122, 101, 114, 111, 32, 101, 109, 105, 116, 32, 101, 120, 105, 116, 32, 103, 111, 32, 109, 97, 107, 101, 32, 115, 101, 110, 100, 32, 114, 101, 99, 118, 32, 99, 108, 111, 115, 101, 32, 108, 101, 110, 32, 99, 97, 112, 32, 115, 101, 108, 101, 99, 116, 32, 110, 111, 119, 32, 110, 101, 119, 116, 105, 109, 101, 114, 32, 116, 105, 99, 107, 101, 114, 32, 102, 117, 110, 99, 32, 115, 116, 111, 112, 32, 114, 101, 115, 101, 116, 32, 99, 97, 110, 99, 101, 108, 115, 32, 100, 101, 97, 100, 108, 105, 110, 101, 32, 116, 105, 109, 101, 111, 117, 116, 32, 119, 105, 116, 104, 111, 117, 116, 32, 99, 97, 110, 99, 101, 108, 32, 101, 114, 114, 32, 99, 97, 117, 115, 101, 32, 100, 111, 110, 101, 32, 117, 110, 116, 105, 108, 32, 97, 102, 116, 101, 114, 32, 117, 110, 97, 102, 116, 101, 114]

theorem ascii_names : ∀ b ∈ namesText, b.toNat < 128 := by decide +kernel
theorem fields_names : Lib.fields namesText = nameList := by decide +kernel

def nameOf (op : Int) : List UInt8 := if op < 1 ∨ 32 < op then [] else nameList.getD (op - 1).toNat []
set_option maxRecDepth 100000 in
theorem name_out (op : Int) (w : World) (h : op < 1 ∨ 32 < op) :
    Calls Tryd.prog 9 #[.int .i64 op] w fun e w' => e = .returned (.string ⟨#[]⟩) ∧ w = w' := by
  rcases h with h | h
  · go_enter Tryd.func9, Tryd.ntmps9
    go_wp2_with fail
    go_ret
    exact ⟨rfl, rfl⟩
  · by_cases h1 : op < 1
    · omega
    go_enter Tryd.func9, Tryd.ntmps9
    go_wp2_with fail
    go_ret
    exact ⟨rfl, rfl⟩
set_option maxRecDepth 100000 in
set_option maxHeartbeats 400000 in
theorem name_in (op : Int) (w : World) (h1 : 1 ≤ op) (h2 : op ≤ 32) (htab : Lib.TabIs Tryd.prog w "strings.asciiSpace" .u8 Lib.asciiSpaceTab) :
    Calls Tryd.prog 9 #[.int .i64 op] w fun e w' => e = .returned (.string ⟨(nameOf op).toArray⟩) ∧ Below w.heap.size w w' := by
  have e1 : decide (op < 1) = false := by simp; omega
  have e2 : decide (32 < op) = false := by simp; omega
  go_enter Tryd.func9, Tryd.ntmps9
  go_wp2_with fail
  refine (Tryd.strings_Fields ⟨namesText.toArray⟩ w (by decide +kernel) (fun j b hb => ascii_names b (List.mem_of_getElem? hb)) htab).mono ?_
  rintro e w' ⟨rfl, rfl⟩
  rw [show (⟨namesText.toArray⟩ : ByteArray).data.toList = namesText from rfl, fields_names]
  have hlt : (op - 1).toNat < 32 := by omega
  have hcell : (w.alloc (.cells (nameList.map fun l => Value.string ⟨l.toArray⟩).toArray 9)).cell? ⟨w.heap.size, (op - 1).toNat, none⟩ = some (.string ⟨(nameOf op).toArray⟩) := by
    have hn : nameOf op = nameList.getD (op - 1).toNat [] := by unfold nameOf; rw [if_neg (by omega)]
    have hl : (op - 1).toNat < nameList.length := hlt
    have hg : nameList[(op - 1).toNat]? = some (nameOf op) := by rw [hn, List.getD_eq_getElem?_getD, List.getElem?_eq_getElem hl]; rfl
    rw [World.cell?_alloc_new, List.getElem?_toArray, List.getElem?_map, hg]
    rfl
  rw [show (op - 1).toNat = op.toNat - 1 by omega] at hcell
  have hlen : nameList.length = 32 := rfl
  rw [hlen]
  generalize hW : w.alloc _ = W at hcell
  have HB : Below w.heap.size w W := by rw [← hW]; exact (Below.refl _ _).alloc (Nat.le_refl _) _
  clear hW
  go_wp2_with fail
  go_ret
  exact ⟨rfl, HB⟩

/-- The slice value v reads as the numbers xs. -/
def RdI (w : World) (v : Value) (xs : List Int) : Prop := ∃ a cap, v = .slice a xs.length cap ∧ xs.length ≤ 140737488351232 ∧ ∀ k, k < xs.length → ∃ b off, a = some ⟨b, off, none⟩ ∧ b < w.heap.size ∧ w.cell? ⟨b, off + k, none⟩ = some (.int .i64 (xs.getD k 0))
theorem RdI.below {w w' : World} {v : Value} {l : List Int} (h : RdI w v l) (hb : Below w.heap.size w w') : RdI w' v l := by
  obtain ⟨a, cap, h1, h2, h3⟩ := h
  exact ⟨a, cap, h1, h2, fun k hk => by
    obtain ⟨b, off, ha, hlt, hc⟩ := h3 k hk
    exact ⟨b, off, ha, Nat.lt_of_lt_of_le hlt hb.size, by rw [hb.cell (p := ⟨b, off + k, none⟩) hlt]; exact hc⟩⟩

theorem drewN_below (w : World) (n : Nat) : Below w.heap.size w (w.drewN n) := ⟨rfl, rfl, rfl, Nat.le_refl _, fun _ _ => rfl⟩

def sameB (a b : List Int) : Bool := decide (a = b)
theorem same_of {xs ys : List Int} (hl : xs.length = ys.length) (h : ∀ i, i < xs.length → xs.getD i 0 = ys.getD i 0) : sameB xs ys = true := by
  unfold sameB
  rw [decide_eq_true_eq]
  refine List.ext_getElem hl fun i h1 h2 => ?_
  have := h i h1
  simpa [h1, h2] using this
theorem same_not {xs ys : List Int} (k : Nat) (h : xs.getD k 0 ≠ ys.getD k 0) : sameB xs ys = false := by
  unfold sameB
  rw [decide_eq_false_iff_not]
  intro e; exact h (by rw [e])

set_option maxRecDepth 100000 in
set_option maxHeartbeats 400000 in
theorem ints_any (xs ys : List Int) (v u : Value) (w : World) (hx : RdI w v xs) (hy : RdI w u ys) :
    Calls Tryd.prog 24 #[v, u] w fun e w' => e = .returned (.bool (sameB xs ys)) ∧ Below w.heap.size w w' := by
  obtain ⟨ax, cx, rfl, hnx, hcx⟩ := hx
  obtain ⟨ay, cy, rfl, hny, hcy⟩ := hy
  by_cases hl : xs.length = ys.length
  · have HL := hid hl
    rw [← hl]
    rw [← hl] at hny hcy
    clear hl
    have Hx := hid hcx
    have Hy := hid hcy
    clear hcx hcy
    go_enter Tryd.func24, Tryd.ntmps24
    go_wp2_with fail
    go_loopw [5] (fun i wr => ∃ k : Nat, k ≤ xs.length ∧ i = .int .i64 k ∧ Below w.heap.size w wr ∧ ∀ i, i < k → xs.getD i 0 = ys.getD i 0) (fun i _ => xs.length - (intOf i).toNat)
    case atStart => exact ⟨0, Nat.zero_le _, rfl, Below.refl _ _, fun i hi => by omega⟩
    case round =>
      obtain ⟨k, hk, rfl, hB, hno⟩ := hrel
      have Hno := hid hno
      clear hno
      by_cases hlt : k < xs.length
      · obtain ⟨b, off, rfl, hb, h0⟩ := Hx.out k hlt
        obtain ⟨b2, off2, rfl, hb2, h2⟩ := Hy.out k hlt
        have c0 := (hB.cell (p := ⟨b, off + k, none⟩) hb).trans h0
        have c1 := (hB.cell (p := ⟨b2, off2 + k, none⟩) hb2).trans h2
        clear h0 h2
        obtain ⟨x, hx⟩ : ∃ x, xs.getD k 0 = x := ⟨_, rfl⟩
        obtain ⟨y, hy⟩ : ∃ y, ys.getD k 0 = y := ⟨_, rfl⟩
        rw [hx] at c0
        rw [hy] at c1
        have HX := hid hx
        have HY := hid hy
        clear hx hy
        by_cases hxy : x = y
        · subst hxy
          go_wp2_with fail
          go_quiet (fail)
          go_wp2_with fail
          go_roundw
          case rel => exact ⟨k + 1, by omega, by go_num, hB.trans ((drewN_below _ _).mono hB.size), fun i hi => by
            rcases Nat.lt_succ_iff_lt_or_eq.1 hi with h | rfl
            · exact Hno.out i h
            · rw [HX.out, HY.out]⟩
          case measure => simp [intOf]; omega
        · have e1 : (x != y) = true := by rw [bne_iff_ne]; exact hxy
          have HN := hid hxy
          clear hxy
          go_wp2_with fail
          go_quiet (fail)
          go_wp2_with fail
          go_ret
          exact ⟨ret_bool (same_not k (by rw [HX.out, HY.out]; exact HN.out)).symm, hB.trans ((drewN_below _ _).mono hB.size)⟩
      · obtain rfl : k = xs.length := by omega
        go_wp2_with fail
        go_ret
        exact ⟨ret_bool (same_of HL.out Hno.out).symm, hB⟩
  · have e1 : ((xs.length : Int) != (ys.length : Int)) = true := by rw [bne_iff_ne]; omega
    have HL := hid hl
    clear hl
    go_enter Tryd.func24, Tryd.ntmps24
    go_wp2_with fail
    go_ret
    exact ⟨ret_bool (by unfold sameB; rw [eq_comm, decide_eq_false_iff_not]; intro e; exact HL.out (by rw [e])), Below.refl _ _⟩
end Go.Proofs.YtdjknobolflldaaDoor
