/- Package trace: Text. -/
import Derived.Test.YtdjknobolflldaaDoorTrB
namespace Go.Proofs.YtdjknobolflldaaDoor
open Go.RowKit

/-- The slice value v reads as the events l. -/
def Evs (w : World) (v : Value) (l : List Ev) : Prop := ∃ a cap, v = .slice a l.length cap ∧ l.length ≤ 9223372036854775807 ∧ ∀ k, k < l.length → ∃ b off, a = some ⟨b, off, none⟩ ∧ b < w.heap.size ∧ ∀ j x, ((l.getD k noEv).cells)[j]? = some x → w.cell? ⟨b, off + k * 6 + j, none⟩ = some x
theorem Evs.below {w w' : World} {v : Value} {l : List Ev} (h : Evs w v l) (hb : Below w.heap.size w w') : Evs w' v l := by
  obtain ⟨a, cap, h1, h2, h3⟩ := h
  refine ⟨a, cap, h1, h2, fun k hk => ?_⟩
  obtain ⟨b, off, ha, hlt, hc⟩ := h3 k hk
  exact ⟨b, off, ha, Nat.lt_of_lt_of_le hlt hb.size, fun j x hx => (hb.cell hlt).trans (hc j x hx)⟩
theorem Evs.nil (w : World) (a : Option Addr) (cap : Nat) : Evs w (.slice a 0 cap) [] := ⟨a, cap, rfl, by decide, fun k hk => by simp at hk⟩
theorem Evs.parts {w : World} {v : Value} {l : List Ev} (h : Evs w v l) : ∃ a cap, v = .slice a l.length cap ∧ l.length ≤ 9223372036854775807 ∧ ∀ k, k < l.length → ∃ b off, a = some ⟨b, off, none⟩ ∧ b < w.heap.size ∧ ∀ w', Below w.heap.size w w' →
    w'.cell? ⟨b, off + k * 6, none⟩ = some (.int .i64 (l.getD k noEv).step) ∧ w'.cell? ⟨b, off + k * 6 + 1, none⟩ = some (.int .i64 (l.getD k noEv).kind) ∧ w'.cell? ⟨b, off + k * 6 + 2, none⟩ = some (.int .i64 (l.getD k noEv).task) ∧ w'.cell? ⟨b, off + k * 6 + 3, none⟩ = some (.int .i64 (l.getD k noEv).a) ∧ w'.cell? ⟨b, off + k * 6 + 4, none⟩ = some (.int .i64 (l.getD k noEv).b) ∧ w'.cell? ⟨b, off + k * 6 + 5, none⟩ = some (.int .i64 (l.getD k noEv).c) := by
  obtain ⟨a, cap, h1, h2, h3⟩ := h
  refine ⟨a, cap, h1, h2, fun k hk => ?_⟩
  obtain ⟨b, off, ha, hb, h⟩ := h3 k hk
  exact ⟨b, off, ha, hb, fun w' hw => ⟨(hw.cell hb).trans (h 0 _ rfl), (hw.cell hb).trans (h 1 _ rfl), (hw.cell hb).trans (h 2 _ rfl), (hw.cell hb).trans (h 3 _ rfl), (hw.cell hb).trans (h 4 _ rfl), (hw.cell hb).trans (h 5 _ rfl)⟩⟩

theorem byteCells_append (a b : List UInt8) : Lib.byteCells (a ++ b) = Lib.byteCells a ++ Lib.byteCells b := by simp [Lib.byteCells]
theorem builder_below {T e : TypeId} {B b : Nat} {bs : List Value} {w w' : World} (h : Lib.IsBuilder T e B b bs w) (hb : Below w.heap.size w w') : Lib.IsBuilder T e B b bs w' := by
  have key : ∀ p, Lib.BuilderAt T e B b p bs w → Lib.BuilderAt T e B b p bs w' := by
    intro p hp
    have hlt := hp.lt
    obtain ⟨h1, v, h2, h3, h4⟩ := hp
    exact ⟨h1, v, by rw [hb.block b hlt]; exact h2, own_below h3 hb, h4⟩
  exact h.imp (key _) (key _)
theorem builder_new (w : World) : Lib.IsBuilder 56 5 w.heap.size w.heap.size [] (w.alloc (.cells #[.pointer none, .slice none 0 0] 56)) :=
  .inl ⟨Nat.le_refl _, .slice none 0 0, heap_alloc_new _ _, World.ownsRow_nil _ _ _ _, by simp [Value.ownBlock]⟩
theorem textB_take {l : List Ev} {k : Nat} (hk : k < l.length) : textB (l.take (k + 1)) = textB (l.take k) ++ (lineB (l.getD k noEv) ++ [10]) := by
  unfold textB
  rw [List.take_add_one, List.flatMap_append, List.getElem?_eq_getElem hk]
  simp [List.getD_eq_getElem?_getD, List.getElem?_eq_getElem hk]
theorem text_small {l : List Ev} (h : ∀ e ∈ l, e.ok) : (textB l).length ≤ l.length * 132 := by
  induction l with
  | nil => simp [textB]
  | cons e l ih =>
    have h1 := line_small (h e (by simp))
    have h2 := ih fun e he => h e (by simp [he])
    simp only [textB, List.flatMap_cons, List.length_append, List.length_cons, List.length_nil] at h2 ⊢
    omega
theorem cat_bytes (x y : List UInt8) : ((⟨x.toArray⟩ : ByteArray) ++ ⟨y.toArray⟩) = ⟨(x ++ y).toArray⟩ := by
  apply ByteArray.ext
  simp
theorem text_room {l : List Ev} {k : Nat} {x y : List UInt8} (hk : k ≤ l.length) (h1 : x.length ≤ (l.take k).length * 132) (h2 : y.length ≤ 131) (hn : l.length ≤ 1000000000) : (Lib.byteCells x).length + (⟨(y ++ [10]).toArray⟩ : ByteArray).size ≤ 140737488355328 := by
  have e1 : (Lib.byteCells x).length = x.length := by simp [Lib.byteCells]
  have e2 : (⟨(y ++ [10]).toArray⟩ : ByteArray).size = y.length + 1 := by simp [ByteArray.size]
  rw [List.length_take, Nat.min_eq_left hk] at h1
  rw [e1, e2]
  omega
theorem getD_ok {l : List Ev} (h : ∀ e ∈ l, e.ok) {k : Nat} (hk : k < l.length) : (l.getD k noEv).ok := by
  rw [List.getD_eq_getElem?_getD, List.getElem?_eq_getElem hk]
  exact h _ (List.getElem_mem hk)
theorem Tabs.to {w w' : World} (h : Tabs w) {n : Nat} (hb : Below n w w') (hn : w.heap.size ≤ n) : Tabs w' := h.below (hb.mono hn)

set_option maxRecDepth 100000 in
set_option maxHeartbeats 1000000 in
theorem text_any (l : List Ev) (hl : ∀ e ∈ l, e.ok) (hn : l.length ≤ 1000000000) (sv : Value) (w : World) (h : Evs w sv l) (ht : Tabs w) :
    Calls Tryd.prog 14 #[sv] w fun r w' => r = .returned (.string ⟨(textB l).toArray⟩) ∧ Below w.heap.size w w' := by
  obtain ⟨a, cap, rfl, _, hc⟩ := h.parts
  have Hc := hid hc
  have HT := hid ht
  have HL := hid hl
  clear h hc ht hl
  go_enter Tryd.func14, Tryd.ntmps14
  go_wp2_with fail
  generalize hW : w.alloc _ = W
  have HB : Below w.heap.size w W := by rw [← hW]; exact (Below.refl _ _).alloc (Nat.le_refl _) _
  have hbd : Lib.IsBuilder 56 5 w.heap.size w.heap.size [] W := by rw [← hW]; exact builder_new w
  have HBd := hid hbd
  clear hW hbd
  go_loopw [5, 8] (fun _ i wr => ∃ k : Nat, k ≤ l.length ∧ i = .int .i64 k ∧ Lib.IsBuilder 56 5 w.heap.size w.heap.size (Lib.byteCells (textB (l.take k))) wr ∧ Below w.heap.size w wr) (fun _ i _ => l.length - (intOf i).toNat)
  case atStart => exact ⟨0, Nat.zero_le _, rfl, HBd.out, HB⟩
  case round =>
    obtain ⟨k, hk, rfl, hbd, hB⟩ := hrel
    have Hb := hid hbd
    have hsz := hB.size
    clear hbd
    by_cases hlt : k < l.length
    · obtain ⟨b, off, rfl, hb, hcs⟩ := Hc.out k hlt
      obtain ⟨c0, c1, c2, c3, c4, c5⟩ := hcs wr hB
      clear hcs
      have hok := getD_ok HL.out hlt
      obtain ⟨x, hx⟩ : ∃ x, l.getD k noEv = x := ⟨_, rfl⟩
      rw [hx] at c0 c1 c2 c3 c4 c5 hok
      have Hx := hid hx
      clear hx
      obtain ⟨s, kd, t, xa, xb, xc⟩ := x
      have Hok := hid hok
      clear hok
      simp only at c0 c1 c2 c3 c4 c5
      go_wp2_with fail
      refine (line_any ⟨s, kd, t, xa, xb, xc⟩ Hok.out _ (HT.out.below (hB.alloc hsz _))).mono ?_
      rintro e w1 ⟨rfl, hb1⟩
      have hb1' := ((Below.refl _ wr).alloc (Nat.le_refl _) _).trans (hb1.mono (by simp))
      have hbd1 := builder_below Hb.out hb1'
      have hlen := text_small (l := l.take k) (fun e he => HL.out e (List.mem_of_mem_take he))
      have hll := line_small Hok.out
      go_wp2_with fail
      rw [cat_bytes]
      have hsum : (Lib.byteCells (textB (l.take k))).length + (⟨(lineB ⟨s, kd, t, xa, xb, xc⟩ ++ [10]).toArray⟩ : ByteArray).size ≤ 140737488355328 := text_room hk hlen hll hn
      have hws : w.heap.size ≤ w1.heap.size := Nat.le_trans hsz hb1'.size
      have hcall := writeString_any w.heap.size w.heap.size (Lib.byteCells (textB (l.take k))) ⟨(lineB ⟨s, kd, t, xa, xb, xc⟩ ++ [10]).toArray⟩ w1 hbd1 hsum hws
      refine hcall.mono ?_
      rintro e w2 ⟨rfl, hbd2, hb2⟩
      go_wp2_with fail
      go_roundw
      case rel => exact ⟨k + 1, by omega, by go_num, .inr (by rw [textB_take hlt, byteCells_append, Hx.out, ← Lib.strCells_toArray (lineB ⟨s, kd, t, xa, xb, xc⟩ ++ [10])]; exact hbd2), (hB.trans (hb1'.mono hsz)).trans hb2⟩
      case measure => simp [intOf]; omega
    · obtain rfl : k = l.length := by omega
      go_wp2_with fail
      refine (Tryd.Builder_String_any w.heap.size w.heap.size (textB (l.take l.length)) wr Hb.out hsz).mono ?_
      rintro e w1 ⟨rfl, hb1⟩
      go_wp2_with fail
      go_ret
      exact ⟨rfl, hB.trans hb1⟩
end Go.Proofs.YtdjknobolflldaaDoor
