/- An argument that is a slice of events, opened; what the laid variables give. -/
import Derived.Test.YtdjknobolflldaaDoorTrO
import Derived.Test.YtdjknobolflldaaDoorRows
import Derived.Deep.Slices
import Derived.Deep.SlicePairs
import Derived.LaidLaws
import Derived.OpenShut
import Derived.Lib.LaidTab
import Derived.Lib.LaidU8
namespace Go.Proofs.YtdjknobolflldaaDoor
open Go.RowKit Go.Deep Go.ChangeShapes Go.WideShapes

theorem cellsEv : Tryd.prog.cellsOf 28 = 6 := by kernel_rfl
theorem cellsInt : Tryd.prog.cellsOf 3 = 1 := by kernel_rfl
set_option maxRecDepth 100000 in
theorem ev_of_cells {H : Type} {enc : TypeId × Value → H} {W : World} {base n : Nat} {sp : Nat → Bool} {held : Bool} {cs : List Value} {x : DataW H × List MemPlace}
    (h : DataW.trod enc Tryd.prog W base sp held n 28 cs = some x) : ∃ e : Ev, e.ok ∧ cs = e.cells := by
  obtain ⟨xs, k, _, _, hl, hxl, hf⟩ := DataW.trod_struct Tryd.underlying28 h
  rw [cellsEv] at hl
  match cs, hl with
  | [v0, v1, v2, v3, v4, v5], _ =>
    have hx : xs.length = 6 := hxl
    match xs, hx with
    | [y0, y1, y2, y3, y4, y5], _ =>
      have g0 := hf 0 { name := "Step", type := 3, offset := 0, embedded := false, tag := "", pkgPath := "", byteOffset := 0 } rfl
      have g1 := hf 1 { name := "Kind", type := 3, offset := 1, embedded := false, tag := "", pkgPath := "", byteOffset := 8 } rfl
      have g2 := hf 2 { name := "Task", type := 3, offset := 2, embedded := false, tag := "", pkgPath := "", byteOffset := 16 } rfl
      have g3 := hf 3 { name := "A", type := 3, offset := 3, embedded := false, tag := "", pkgPath := "", byteOffset := 24 } rfl
      have g4 := hf 4 { name := "B", type := 3, offset := 4, embedded := false, tag := "", pkgPath := "", byteOffset := 32 } rfl
      have g5 := hf 5 { name := "C", type := 3, offset := 5, embedded := false, tag := "", pkgPath := "", byteOffset := 40 } rfl
      simp only [cellsInt, List.drop, List.take, List.getElem?_cons_zero, List.getElem?_cons_succ] at g0 g1 g2 g3 g4 g5
      obtain ⟨n0, e0, _, w0⟩ := DataW.trod_int Tryd.underlying3 g0
      obtain ⟨n1, e1, _, w1⟩ := DataW.trod_int Tryd.underlying3 g1
      obtain ⟨n2, e2, _, w2⟩ := DataW.trod_int Tryd.underlying3 g2
      obtain ⟨n3, e3, _, w3⟩ := DataW.trod_int Tryd.underlying3 g3
      obtain ⟨n4, e4, _, w4⟩ := DataW.trod_int Tryd.underlying3 g4
      obtain ⟨n5, e5, _, w5⟩ := DataW.trod_int Tryd.underlying3 g5
      simp only [List.cons.injEq, and_true] at e0 e1 e2 e3 e4 e5
      subst e0 e1 e2 e3 e4 e5
      refine ⟨⟨n0, n1, n2, n3, n4, n5⟩, ⟨bounds_i64 w0, bounds_i64 w1, bounds_i64 w2, bounds_i64 w3, bounds_i64 w4, bounds_i64 w5⟩, rfl⟩
instance : Inhabited Ev := ⟨noEv⟩
theorem add_spot (a : Addr) {w : World} {v : Value} (h : w.cell? (a.add 0) = some v) : ∃ b off, a = ⟨b, off, none⟩ := by
  obtain ⟨b, off, spot⟩ := a
  have hs := World.cell?_spot h
  have hspot : spot = none := by simpa [Addr.add] using hs
  subst hspot
  exact ⟨b, off, rfl⟩
set_option maxRecDepth 100000 in
theorem evs_open {H : Type} {enc : TypeId × Value → H} {W : World} {v : Value} {d : DataW H} {p : List MemPlace} {b0 : Nat} (hv : Value.okWide Tryd.prog W .any b0 25 v) (h : DataW.Trod enc Tryd.prog W 0 (fun _ => true) true 25 v d p) : ∃ l, AllOk l ∧ Evs W v l := by
  obtain ⟨a, len, cap, rfl⟩ := okWide_slice Tryd.underlying25 hv
  obtain ⟨fuel, h⟩ := h
  rcases open_slice Tryd.underlying25 h with ⟨h0, _⟩ | ⟨a', len', cap', m, n, D, Pl, hc, _, hl, hm, hmm, _, hx⟩
  · have h1 : Value.slice a len cap = .slice none 0 0 := List.head_eq_of_cons_eq h0
    cases h1
    exact ⟨[], fun e he => by simp at he, Evs.nil W none 0⟩
  · have h1 : Value.slice a len cap = .slice (some a') len' cap' := List.head_eq_of_cons_eq hc
    cases h1
    have hlm : len ≤ m := by rw [hmm]; split <;> omega
    have each : ∀ i, i < len → ∃ e : Ev, e.ok ∧ ∀ j x, e.cells[j]? = some x → W.cell? (a'.add (i * 6 + j)) = some x := by
      intro i hi
      obtain ⟨cs', h1, h2⟩ := hx i (by omega)
      rw [cellsEv] at h1
      obtain ⟨_, hlen, hcell⟩ := World.cells?_some h1
      obtain ⟨e, he, rfl⟩ := ev_of_cells h2
      refine ⟨e, he, fun j x hj => ?_⟩
      have hj6 : j < 6 := (List.getElem?_eq_some_iff.1 hj).1
      have := hcell j hj6
      rw [add_add] at this
      rw [this, hj]
    obtain ⟨q, hq⟩ := choose_lt each
    have hlen : ((List.range len).map q).length = len := by simp
    have hget : ∀ k, k < len → ((List.range len).map q).getD k noEv = q k := by
      intro k hk
      rw [List.getD_eq_getElem?_getD, List.getElem?_map, List.getElem?_range hk]
      rfl
    refine ⟨(List.range len).map q, ?_, some a', cap, by rw [hlen], by rw [hlen]; exact Nat.le_trans hl hm, fun k hk => ?_⟩
    · intro e he
      obtain ⟨i, hi, rfl⟩ := List.mem_map.1 he
      exact (hq i (List.mem_range.1 hi)).1
    · rw [hlen] at hk
      rw [hget k hk]
      have h0 := (hq k hk).2
      obtain ⟨b, off, rfl⟩ := add_spot a' ((hq 0 (by omega)).2 0 _ rfl)
      have hb0 := h0 0 _ rfl
      refine ⟨b, off, rfl, ?_, fun j x hj => ?_⟩
      · have := World.block_lt_of_cell? W _ hb0
        rwa [Go.WideShapes.add_plain] at this
      · have := h0 j x hj
        rw [Go.WideShapes.add_plain] at this
        rw [Nat.add_assoc]
        exact this
end Go.Proofs.YtdjknobolflldaaDoor
