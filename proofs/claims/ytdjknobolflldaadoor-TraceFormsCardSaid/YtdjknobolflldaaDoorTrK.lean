/- Package trace: event. -/
import Derived.Test.YtdjknobolflldaaDoorTrJ
namespace Go.Proofs.YtdjknobolflldaaDoor
open Go.RowKit

def elL (s : ByteArray) (k : Nat) : List UInt8 := ((splitL s).getD k ByteArray.empty).data.toList
/-- What event reads out of a line, and whether the numbers are numbers. -/
def evN (s : ByteArray) : Ev := ⟨atoiN (elL s 0), kindN (elL s 1), atoiN (elL s 2), atoiN (elL s 3), atoiN (elL s 4), atoiN (elL s 5)⟩
def okK (s : ByteArray) : Nat → Bool
  | 0 => kindOk (elL s 1)
  | k + 1 => if k = 1 then okK s k else okK s k && atoiOk (elL s k)
def eventOk (s : ByteArray) : Bool := decide ((splitL s).length = 6) && okK s 6 && decide (lineB (evN s) = s.data.toList)
theorem evN_ok (s : ByteArray) : (evN s).ok := ⟨atoiN_ok _, kindN_ok _, atoiN_ok _, atoiN_ok _, atoiN_ok _, atoiN_ok _⟩
theorem splitB_small (sep : ByteArray) : ∀ (k : Nat) (s x : ByteArray), x ∈ Lib.splitB sep 0 k s → x.size ≤ s.size
  | 0, s, x, h => by rw [List.mem_singleton.1 h]; exact Nat.le_refl _
  | k + 1, s, x, h => by
    unfold Lib.splitB at h
    split at h
    · rw [List.mem_singleton.1 h]; exact Nat.le_refl _
    · rcases List.mem_cons.1 h with rfl | h
      · rw [ByteArray.size_extract]; omega
      · have := splitB_small sep k _ x h
        rw [ByteArray.size_extract] at this
        omega
/-- The cells of the event in the making, in front of round k. -/
def evCells (s : ByteArray) (k : Nat) : Array Value :=
  #[.int .i64 (if 0 < k then atoiN (elL s 0) else 0), .int .i64 (kindN (elL s 1)), .int .i64 (if 2 < k then atoiN (elL s 2) else 0), .int .i64 (if 3 < k then atoiN (elL s 3) else 0), .int .i64 (if 4 < k then atoiN (elL s 4) else 0), .int .i64 (if 5 < k then atoiN (elL s 5) else 0)]

theorem split_any (s : ByteArray) (hs : s.size < 4294967281) (w : World) (ht : Tabs w) :
    Calls Tryd.prog 47 #[.string s, .string ⟨#[32]⟩] w fun e w' => e = .returned (.slice (some ⟨w.heap.size, 0, none⟩) (splitL s).length (splitL s).length) ∧ w' = w.alloc (.cells ((splitL s).map Value.string).toArray 9) := by
  obtain ⟨m, hm⟩ := ht.maxLen
  have h := Tryd.strings_Split s sp m w hs hm (by decide)
  rw [splitL_length]
  exact h
theorem results_ev {fn : Func} (h : fn.results = #[.cell 2 28, .tmp 3]) {tmps : Array Value} {w : World} {g : Nat} {fr : Nat × Nat} {b : Bool} {c0 c1 c2 c3 c4 c5 : Value} (hp : tmps.getD 2 undef = .pointer (some ⟨g, 0, none⟩)) (hb : tmps.getD 3 undef = .bool b) (hg : w.heap[g]? = some (.cells #[c0, c1, c2, c3, c4, c5] 28 fr)) :
    (results fn tmps).run Tryd.prog w = .ok (.tuple #[.agg #[c0, c1, c2, c3, c4, c5], .bool b]) w := by
  rw [results_cell_tmp h, hp, hb]
  simp only [asAddr]
  have := run_loadVar_row (P := Tryd.prog) w g 28 28 #[c0, c1, c2, c3, c4, c5] fr _ hg Tryd.underlying28 rfl (by kernel_rfl)
  simp [Result.andThen, this]
theorem ev_block {w w' : World} {g : Nat} {cs : Array Value} {t : TypeId} (hg : g = w.heap.size) (hb : Below (w.alloc (.cells cs t)).heap.size (w.alloc (.cells cs t)) w') : w'.heap[g]? = some (.cells cs t) := by
  subst hg
  rw [hb.block _ (by simp)]
  exact heap_alloc_new w _

set_option maxRecDepth 100000 in
set_option maxHeartbeats 1000000 in
theorem event_not (s : ByteArray) (hs : s.size < 4294967281) (w : World) (ht : Tabs w) (h6 : (splitL s).length ≠ 6) :
    Calls Tryd.prog 34 #[.string s] w fun r w' => (∃ e : Ev, r = .returned (.tuple #[e.val, .bool (eventOk s)]) ∧ (eventOk s = true → e = evN s)) ∧ Below w.heap.size w w' := by
  have HT := hid ht
  clear ht
  have hok : eventOk s = false := by unfold eventOk; rw [decide_eq_false h6]; rfl
  rw [hok]
  have hsp := fun W hW => split_any s hs W hW
  obtain ⟨L, hL⟩ : ∃ L, splitL s = L := ⟨_, rfl⟩
  rw [hL] at hsp h6
  have e1 : ((L.length : Int) != 6) = true := by rw [bne_iff_ne]; omega
  have H6 := hid h6
  have HL := hid hL
  clear hok h6 hL
  go_enter Tryd.func34, Tryd.ntmps34
  go_wp2_with fail
  have hcall := hsp _ (HT.out.below ((Below.refl _ _).alloc (Nat.le_refl _) (.cells #[.int .i64 0, .int .i64 0, .int .i64 0, .int .i64 0, .int .i64 0, .int .i64 0] 28)))
  refine hcall.mono ?_
  rintro r w1 ⟨rfl, rfl⟩
  clear hcall
  go_wp2_with fail
  (try simp only [Exit.inBlock, Exit.then])
  refine bodyPost_ret (results_ev rfl rfl rfl (ev_block rfl ((Below.refl _ _).alloc (Nat.le_refl _) _))) rfl ?_
  exact ⟨⟨noEv, rfl, fun h => by cases h⟩, ((Below.refl _ _).alloc (Nat.le_refl _) _).alloc (by simp) _⟩

def ptrs (g : Nat) : Array Value := #[.pointer (some ⟨g, 0, none⟩), .pointer none, .pointer (some ⟨g, 2, none⟩), .pointer (some ⟨g, 3, none⟩), .pointer (some ⟨g, 4, none⟩), .pointer (some ⟨g, 5, none⟩)]
theorem ptr_at (g k : Nat) (h6 : k < 6) (h1 : k ≠ 1) : (ptrs g)[k]? = some (.pointer (some ⟨g, k, none⟩)) := by
  rcases k with _ | _ | _ | _ | _ | _ | k
  all_goals first | rfl | omega
theorem ptr_one (g : Nat) : (ptrs g)[1]? = some (.pointer none) := rfl
theorem evCells_at (s : ByteArray) (j k : Nat) (h6 : k < 6) : ∃ v, (evCells s j)[k]? = some (.int .i64 v) := by
  rcases k with _ | _ | _ | _ | _ | _ | k
  all_goals first | exact ⟨_, rfl⟩ | omega
theorem evCells_set (s : ByteArray) (k : Nat) (h6 : k < 6) (h1 : k ≠ 1) : (evCells s k).setIfInBounds k (.int .i64 (atoiN (elL s k))) = evCells s (k + 1) := by
  rcases k with _ | _ | _ | _ | _ | _ | k
  all_goals first | rfl | omega
theorem evCells_one (s : ByteArray) : evCells s 1 = evCells s 2 := rfl
theorem okK_step (s : ByteArray) (k : Nat) (h1 : k ≠ 1) : okK s (k + 1) = (okK s k && atoiOk (elL s k)) := by simp [okK, h1]
theorem setCell_here {w : World} {g k : Nat} {cs : Array Value} {t : TypeId} (h : w.heap[g]? = some (.cells cs t)) (v : Value) : (w.setCell ⟨g, k, none⟩ v).heap[g]? = some (.cells (cs.setIfInBounds k v) t) := by
  simp [World.setCell, Array.getElem?_modify, h]
theorem setCell_there {w : World} {g g' k : Nat} {o : Obj} (h : w.heap[g]? = some o) (v : Value) (hne : g ≠ g') : (w.setCell ⟨g', k, none⟩ v).heap[g]? = some o := by
  rw [Below.heap_setCell _ _ _ _ hne]
  exact h

theorem beq_decide (a b : List UInt8) : (a == b) = decide (a = b) := by
  by_cases h : a = b
  · rw [decide_eq_true h, beq_iff_eq.2 h]
  · rw [decide_eq_false h, beq_eq_false_iff_ne.2 h]
theorem ret_ev {e : Ev} {a b : Bool} (h : a = b) : Ending.returned (.tuple #[.agg #[.int .i64 e.step, .int .i64 e.kind, .int .i64 e.task, .int .i64 e.a, .int .i64 e.b, .int .i64 e.c], .bool a]) = Ending.returned (.tuple #[e.val, .bool b]) := by rw [h]; rfl
theorem drew_heap' (w : World) : w.drew.heap = w.heap := rfl
theorem six_cells0 {w : World} {g : Nat} {c0 c1 c2 c3 c4 c5 : Value} {t : TypeId} (h : w.heap[g]? = some (.cells #[c0, c1, c2, c3, c4, c5] t)) (n0 n1 n2 n3 n4 n5 : Int) :
    ((((((w.setCell ⟨g, 0, none⟩ (.int .i64 n0)).setCell ⟨g, 1, none⟩ (.int .i64 n1)).setCell ⟨g, 2, none⟩ (.int .i64 n2)).setCell ⟨g, 3, none⟩ (.int .i64 n3)).setCell ⟨g, 4, none⟩ (.int .i64 n4)).setCell ⟨g, 5, none⟩ (.int .i64 n5)).heap[g]? = some (.cells #[.int .i64 n0, .int .i64 n1, .int .i64 n2, .int .i64 n3, .int .i64 n4, .int .i64 n5] t) := by
  have h0 := setCell_here (k := 0) h (.int .i64 n0)
  have h1 := setCell_here (k := 1) h0 (.int .i64 n1)
  have h2 := setCell_here (k := 2) h1 (.int .i64 n2)
  have h3 := setCell_here (k := 3) h2 (.int .i64 n3)
  have h4 := setCell_here (k := 4) h3 (.int .i64 n4)
  have h5 := setCell_here (k := 5) h4 (.int .i64 n5)
  rw [h5]
  simp
theorem six_cells {w : World} {g : Nat} {c0 c1 c2 c3 c4 c5 : Value} {t : TypeId} (h : w.heap[g]? = some (.cells #[c0, c1, c2, c3, c4, c5] t)) (n0 n1 n2 n3 n4 n5 : Int) :
    ((((((w.setCell ⟨g, 0, none⟩ (.int .i64 n0)).setCell ⟨g, 1, none⟩ (.int .i64 n1)).setCell ⟨g, 2, none⟩ (.int .i64 n2)).setCell ⟨g, 3, none⟩ (.int .i64 n3)).setCell ⟨g, 4, none⟩ (.int .i64 n4)).setCell ⟨g, 5, none⟩ (.int .i64 n5)).drew.heap[g]? = some (.cells #[.int .i64 n0, .int .i64 n1, .int .i64 n2, .int .i64 n3, .int .i64 n4, .int .i64 n5] t) := by
  rw [drew_heap']
  exact six_cells0 h n0 n1 n2 n3 n4 n5
theorem six_below0 {w w' : World} (h : Below w.heap.size w w') (n0 n1 n2 n3 n4 n5 : Int) :
    Below w.heap.size w ((((((w'.setCell ⟨w.heap.size, 0, none⟩ (.int .i64 n0)).setCell ⟨w.heap.size, 1, none⟩ (.int .i64 n1)).setCell ⟨w.heap.size, 2, none⟩ (.int .i64 n2)).setCell ⟨w.heap.size, 3, none⟩ (.int .i64 n3)).setCell ⟨w.heap.size, 4, none⟩ (.int .i64 n4)).setCell ⟨w.heap.size, 5, none⟩ (.int .i64 n5)) :=
  (((((h.setCell (p := ⟨w.heap.size, 0, none⟩) (Nat.le_refl _) _).setCell (p := ⟨w.heap.size, 1, none⟩) (Nat.le_refl _) _).setCell (p := ⟨w.heap.size, 2, none⟩) (Nat.le_refl _) _).setCell (p := ⟨w.heap.size, 3, none⟩) (Nat.le_refl _) _).setCell (p := ⟨w.heap.size, 4, none⟩) (Nat.le_refl _) _).setCell (p := ⟨w.heap.size, 5, none⟩) (Nat.le_refl _) _
theorem six_below {w w' : World} (h : Below w.heap.size w w') (n0 n1 n2 n3 n4 n5 : Int) :
    Below w.heap.size w ((((((w'.setCell ⟨w.heap.size, 0, none⟩ (.int .i64 n0)).setCell ⟨w.heap.size, 1, none⟩ (.int .i64 n1)).setCell ⟨w.heap.size, 2, none⟩ (.int .i64 n2)).setCell ⟨w.heap.size, 3, none⟩ (.int .i64 n3)).setCell ⟨w.heap.size, 4, none⟩ (.int .i64 n4)).setCell ⟨w.heap.size, 5, none⟩ (.int .i64 n5)).drew :=
  (six_below0 h n0 n1 n2 n3 n4 n5).drew

set_option maxRecDepth 100000 in
set_option maxHeartbeats 1000000 in
theorem event_six (s : ByteArray) (hs : s.size < 4294967281) (w : World) (ht : Tabs w) (h6 : (splitL s).length = 6) :
    Calls Tryd.prog 34 #[.string s] w fun r w' => (∃ e : Ev, r = .returned (.tuple #[e.val, .bool (eventOk s)]) ∧ (eventOk s = true → e = evN s)) ∧ Below w.heap.size w w' := by
  have HT := hid ht
  clear ht
  have hsp := fun W hW => split_any s hs W hW
  rw [h6] at hsp
  have hsm : ∀ k, (elL s k).length ≤ 4294967281 := by
    intro k
    unfold elL
    by_cases hk : k < (splitL s).length
    · have := splitB_small sp _ s ((splitL s).getD k ByteArray.empty) (by rw [List.getD_eq_getElem?_getD, List.getElem?_eq_getElem hk]; exact List.getElem_mem hk)
      rw [show ((splitL s).getD k ByteArray.empty).data.toList.length = ((splitL s).getD k ByteArray.empty).size from rfl]
      omega
    · rw [List.getD_eq_getElem?_getD, List.getElem?_eq_none (by omega)]
      decide
  have hel : ∀ k, k < 6 → ((splitL s).map Value.string).toArray[k]? = some (.string ⟨(elL s k).toArray⟩) := by
    intro k hk
    rw [List.getElem?_toArray, List.getElem?_map, List.getElem?_eq_getElem (by omega)]
    unfold elL
    rw [List.getD_eq_getElem?_getD, List.getElem?_eq_getElem (by omega)]
    rfl
  have Hel := hid hel
  have Hsm := hid hsm
  clear hel hsm
  obtain ⟨A, hA⟩ : ∃ A, ((splitL s).map Value.string).toArray = A := ⟨_, rfl⟩
  rw [hA] at hsp Hel
  have H6 := hid h6
  clear h6 hA
  go_enter Tryd.func34, Tryd.ntmps34
  go_wp2_with fail
  have hcall := hsp _ (HT.out.below ((Below.refl _ _).alloc (Nat.le_refl _) (.cells #[.int .i64 0, .int .i64 0, .int .i64 0, .int .i64 0, .int .i64 0, .int .i64 0] 28)))
  refine hcall.mono ?_
  rintro r W ⟨rfl, hW⟩
  have E : W.heap[w.heap.size]? = some (.cells #[.int .i64 0, .int .i64 0, .int .i64 0, .int .i64 0, .int .i64 0, .int .i64 0] 28) := by
    rw [hW]; exact ev_block rfl ((Below.refl _ _).alloc (Nat.le_refl _) _)
  have S : W.heap[w.heap.size + 1]? = some (.cells A 9) := by
    rw [hW]
    have := heap_alloc_new (w.alloc (.cells #[.int .i64 0, .int .i64 0, .int .i64 0, .int .i64 0, .int .i64 0, .int .i64 0] 28)) (.cells A 9)
    rwa [show (w.alloc (.cells #[.int .i64 0, .int .i64 0, .int .i64 0, .int .i64 0, .int .i64 0, .int .i64 0] 28)).heap.size = w.heap.size + 1 by simp] at this
  have hsz : W.heap.size = w.heap.size + 2 := by rw [hW]; simp
  have HB : Below w.heap.size w W := by rw [hW]; exact ((Below.refl _ _).alloc (Nat.le_refl _) _).alloc (by simp) _
  have hs1 : W.cell? ⟨w.heap.size + 1, 1, none⟩ = some (.string ⟨(elL s 1).toArray⟩) := by rw [Lib.cell_of_heap S]; exact Hel.out 1 (by omega)
  rw [show (w.alloc (.cells #[.int .i64 0, .int .i64 0, .int .i64 0, .int .i64 0, .int .i64 0, .int .i64 0] 28)).heap.size = w.heap.size + 1 by simp]
  clear hcall hW hsp
  go_wp2_with fail
  have hcall := kind_any ⟨(elL s 1).toArray⟩ (by have := Hsm.out 1; simp [ByteArray.size]; omega) W (HT.out.below HB)
  refine hcall.mono ?_
  rintro r w1 ⟨rfl, hb1⟩
  clear hcall hs1
  have E1 := (hb1.block w.heap.size (by omega)).trans E
  have S1 := (hb1.block (w.heap.size + 1) (by omega)).trans S
  have hz1 := hb1.size
  have HB1 := HB.trans (hb1.mono HB.size)
  clear E S hb1
  have c1 := Lib.cell_of_heap E1 1
  have f1 := Lib.frozen_of_heap E1 1
  simp only [List.getElem?_toArray] at c1
  go_wp2_with fail
  have E2 : ((w1.setCell ⟨w.heap.size, 1, none⟩ (.int .i64 (kindN (elL s 1)))).alloc (.cells (ptrs w.heap.size) 80)).heap[w.heap.size]? = some (.cells (evCells s 0) 28) := by
    rw [heap_alloc_old _ _ (by simp [World.setCell]; omega), setCell_here E1]; rfl
  have S2 : ((w1.setCell ⟨w.heap.size, 1, none⟩ (.int .i64 (kindN (elL s 1)))).alloc (.cells (ptrs w.heap.size) 80)).heap[w.heap.size + 1]? = some (.cells A 9) := by
    rw [heap_alloc_old _ _ (by simp [World.setCell]; omega), setCell_there S1 _ (by omega)]
  have P2 : ((w1.setCell ⟨w.heap.size, 1, none⟩ (.int .i64 (kindN (elL s 1)))).alloc (.cells (ptrs w.heap.size) 80)).heap[w1.heap.size]? = some (.cells (ptrs w.heap.size) 80) := by
    have := heap_alloc_new (w1.setCell ⟨w.heap.size, 1, none⟩ (.int .i64 (kindN (elL s 1)))) (.cells (ptrs w.heap.size) 80)
    rwa [show (w1.setCell ⟨w.heap.size, 1, none⟩ (.int .i64 (kindN (elL s 1)))).heap.size = w1.heap.size by simp [World.setCell]] at this
  have B2 : Below w.heap.size w ((w1.setCell ⟨w.heap.size, 1, none⟩ (.int .i64 (kindN (elL s 1)))).alloc (.cells (ptrs w.heap.size) 80)) := (HB1.setCell (p := ⟨w.heap.size, 1, none⟩) (Nat.le_refl _) _).alloc (by simp [World.setCell]; omega) _
  have Z2 : w1.heap.size < ((w1.setCell ⟨w.heap.size, 1, none⟩ (.int .i64 (kindN (elL s 1)))).alloc (.cells (ptrs w.heap.size) 80)).heap.size := by simp [World.setCell]
  have H2 := hid (And.intro E2 (And.intro S2 (And.intro P2 (And.intro B2 Z2))))
  obtain ⟨bp, hbp⟩ : ∃ bp, w1.heap.size = bp := ⟨_, rfl⟩
  rw [hbp] at H2 ⊢
  have hbp2 : w.heap.size + 2 ≤ bp := by omega
  clear E2 S2 P2 B2 Z2 E1 S1 c1 f1
  go_loopw [3, 5, 6, 7, 8, 30] (fun ok _ _ _ _ i wr => ∃ k : Nat, k ≤ 6 ∧ i = .int .i64 k ∧ ok = .bool (okK s k) ∧ wr.heap[w.heap.size]? = some (.cells (evCells s k) 28) ∧ wr.heap[w.heap.size + 1]? = some (.cells A 9) ∧ wr.heap[bp]? = some (.cells (ptrs w.heap.size) 80) ∧ Below w.heap.size w wr ∧ bp < wr.heap.size) (fun _ _ _ _ _ i _ => 6 - (intOf i).toNat)
  case atStart => exact ⟨0, by omega, rfl, rfl, H2.out.1, H2.out.2.1, H2.out.2.2.1, H2.out.2.2.2.1, H2.out.2.2.2.2⟩
  case round =>
    clear H2
    obtain ⟨k, hk, rfl, rfl, E, S, P, hB, hz⟩ := hrel
    have hBs := hB.size
    have He := hid E
    have Hs := hid S
    have Hp := hid P
    clear E S P
    by_cases hlt : k < 6
    · by_cases h1 : k = 1
      · subst h1
        have p1 : wr.cell? ⟨bp, 1, none⟩ = some (.pointer none) := by rw [Lib.cell_of_heap Hp.out]; rfl
        go_wp2_with fail
        go_roundw
        case rel => exact ⟨2, by omega, by go_num, rfl, He.out, Hs.out, Hp.out, hB, hz⟩
        case measure => simp [intOf]
      · have p1 : wr.cell? ⟨bp, k, none⟩ = some (.pointer (some ⟨w.heap.size, k, none⟩)) := by rw [Lib.cell_of_heap Hp.out]; exact ptr_at _ k hlt h1
        have s1 : wr.cell? ⟨w.heap.size + 1, k, none⟩ = some (.string ⟨(elL s k).toArray⟩) := by rw [Lib.cell_of_heap Hs.out]; exact Hel.out k hlt
        have H1 := hid h1
        clear h1
        obtain ⟨ok, hok⟩ : ∃ ok, okK s k = ok := ⟨_, rfl⟩
        rw [hok]
        have Hok := hid hok
        clear hok
        go_wp2_with fail
        have hcall := atoi_any ⟨(elL s k).toArray⟩ (by have := Hsm.out k; simp [ByteArray.size]; omega) wr (HT.out.below hB)
        refine hcall.mono ?_
        rintro r w3 ⟨⟨er, rfl, her⟩, hb3⟩
        clear hcall p1 s1
        have E3 := (hb3.block w.heap.size (by omega)).trans He.out
        have S3 := (hb3.block (w.heap.size + 1) (by omega)).trans Hs.out
        have P3 := (hb3.block bp hz).trans Hp.out
        have hz3 := hb3.size
        obtain ⟨v0, hv0⟩ := evCells_at s k k hlt
        have c3 := (Lib.cell_of_heap E3 k).trans hv0
        have f3 := Lib.frozen_of_heap E3 k
        have H3 := hid (And.intro E3 (And.intro S3 P3))
        clear E3 S3 P3 hv0
        rcases her with ⟨hao, rfl⟩ | ⟨hao, t, n, rfl⟩
        all_goals
          have Hao := hid hao
          clear hao
          cases ok
          all_goals
            go_wp2_with fail
            go_region
            go_wp2_with fail
            go_roundw
            case rel => exact ⟨k + 1, by omega, by go_num, by rw [okK_step s k H1.out, Hok.out, Hao.out]; rfl, (setCell_here H3.out.1 _).trans (by rw [evCells_set s k hlt H1.out]), setCell_there H3.out.2.1 _ (by omega), setCell_there H3.out.2.2 _ (by omega), (hB.trans (hb3.mono hBs)).setCell (p := ⟨w.heap.size, k, none⟩) (Nat.le_refl _) _ |>.drew, by simp [World.setCell]; omega⟩
            case measure => simp [intOf]; omega
    · obtain rfl : k = 6 := by omega
      have hev : eventOk s = (okK s 6 && decide (lineB (evN s) = s.data.toList)) := by unfold eventOk; rw [decide_eq_true H6.out, Bool.true_and]
      obtain ⟨ok, hok⟩ : ∃ ok, okK s 6 = ok := ⟨_, rfl⟩
      rw [hok] at hev ⊢
      have Hev := hid hev
      clear hev hok
      have E := He.out
      have hec : evCells s 6 = (evN s).cells.toArray := rfl
      have hok6 := evN_ok s
      obtain ⟨n0, n1, n2, n3, n4, n5, hN⟩ : ∃ n0 n1 n2 n3 n4 n5, evN s = ⟨n0, n1, n2, n3, n4, n5⟩ := ⟨_, _, _, _, _, _, rfl⟩
      rw [hec, hN] at E
      rw [hN] at hok6
      have HN := hid hN
      have Hok6 := hid hok6
      have HE : Hid (∀ w', Below wr.heap.size wr w' → w'.heap[w.heap.size]? = some (.cells #[.int .i64 n0, .int .i64 n1, .int .i64 n2, .int .i64 n3, .int .i64 n4, .int .i64 n5] 28)) := hid fun w' hb => (hb.block _ (by omega)).trans E
      clear hec hN hok6 E
      have E := HE.out wr (Below.refl _ _)
      have c0 : wr.cell? ⟨w.heap.size, 0, none⟩ = some (.int .i64 n0) := Lib.cell_of_heap E 0
      have c1 : wr.cell? ⟨w.heap.size, 1, none⟩ = some (.int .i64 n1) := Lib.cell_of_heap E 1
      have c2 : wr.cell? ⟨w.heap.size, 2, none⟩ = some (.int .i64 n2) := Lib.cell_of_heap E 2
      have c3 : wr.cell? ⟨w.heap.size, 3, none⟩ = some (.int .i64 n3) := Lib.cell_of_heap E 3
      have c4 : wr.cell? ⟨w.heap.size, 4, none⟩ = some (.int .i64 n4) := Lib.cell_of_heap E 4
      have c5 : wr.cell? ⟨w.heap.size, 5, none⟩ = some (.int .i64 n5) := Lib.cell_of_heap E 5
      cases ok
      · have f0 := Lib.frozen_of_heap E 0
        have f1 := Lib.frozen_of_heap E 1
        have f2 := Lib.frozen_of_heap E 2
        have f3 := Lib.frozen_of_heap E 3
        have f4 := Lib.frozen_of_heap E 4
        have f5 := Lib.frozen_of_heap E 5
        clear E
        go_wp2_with fail
        go_region
        go_wp2_with fail
        (try simp only [Exit.inBlock, Exit.then])
        refine bodyPost_ret (results_ev rfl rfl rfl (six_cells (HE.out wr (Below.refl _ _)) n0 n1 n2 n3 n4 n5)) rfl ?_
        exact ⟨⟨⟨n0, n1, n2, n3, n4, n5⟩, ret_ev (e := ⟨n0, n1, n2, n3, n4, n5⟩) (by rw [Hev.out]; simp only [Bool.true_and, Bool.false_and]), fun _ => HN.out.symm⟩, six_below hB n0 n1 n2 n3 n4 n5⟩
      · clear E
        have hcut : Below wr.heap.size wr wr.drew := (Below.refl _ _).drew
        go_wp2_with fail
        go_region_with (go_at_call 12; have hcall := line_any ⟨n0, n1, n2, n3, n4, n5⟩ Hok6.out wr.drew (HT.out.below (hB.trans (hcut.mono hBs))); refine hcall.mono ?_; rintro e w4 ⟨rfl, hb4⟩; clear hcall; have E4 := HE.out w4 (hcut.trans hb4); have f0 := Lib.frozen_of_heap E4 0; have f1 := Lib.frozen_of_heap E4 1; have f2 := Lib.frozen_of_heap E4 2; have f3 := Lib.frozen_of_heap E4 3; have f4 := Lib.frozen_of_heap E4 4; have f5 := Lib.frozen_of_heap E4 5; have d0 : w4.cell? ⟨w.heap.size, 0, none⟩ = some (.int .i64 n0) := Lib.cell_of_heap E4 0; have d1 : w4.cell? ⟨w.heap.size, 1, none⟩ = some (.int .i64 n1) := Lib.cell_of_heap E4 1; have d2 : w4.cell? ⟨w.heap.size, 2, none⟩ = some (.int .i64 n2) := Lib.cell_of_heap E4 2; have d3 : w4.cell? ⟨w.heap.size, 3, none⟩ = some (.int .i64 n3) := Lib.cell_of_heap E4 3; have d4 : w4.cell? ⟨w.heap.size, 4, none⟩ = some (.int .i64 n4) := Lib.cell_of_heap E4 4; have d5 : w4.cell? ⟨w.heap.size, 5, none⟩ = some (.int .i64 n5) := Lib.cell_of_heap E4 5; have E4' := hid E4; clear E4)
        all_goals
          have hs : (lineB ⟨n0, n1, n2, n3, n4, n5⟩ == s.toList) = decide (lineB (evN s) = s.data.toList) := by
            rw [HN.out, ByteArray.toList_eq]
            exact beq_decide _ _
          rw [hs]
          go_wp2_with fail
          (try simp only [Exit.inBlock, Exit.then])
          simp only [Act.put, List.getElem_toArray, List.getElem_cons_succ, List.getElem_cons_zero, List.setIfInBounds_toArray, List.set_cons_succ, List.set_cons_zero]
          refine bodyPost_ret (results_ev rfl rfl rfl (six_cells0 E4'.out n0 n1 n2 n3 n4 n5)) rfl ?_
          exact ⟨⟨⟨n0, n1, n2, n3, n4, n5⟩, ret_ev (e := ⟨n0, n1, n2, n3, n4, n5⟩) (by rw [Hev.out]; simp only [Bool.true_and, Bool.false_and]), fun _ => HN.out.symm⟩, six_below0 (hB.trans ((hcut.trans hb4).mono hBs)) n0 n1 n2 n3 n4 n5⟩

theorem event_any (s : ByteArray) (hs : s.size < 4294967281) (w : World) (ht : Tabs w) :
    Calls Tryd.prog 34 #[.string s] w fun r w' => (∃ e : Ev, r = .returned (.tuple #[e.val, .bool (eventOk s)]) ∧ (eventOk s = true → e = evN s)) ∧ Below w.heap.size w w' := by
  by_cases h6 : (splitL s).length = 6
  · exact event_six s hs w ht h6
  · exact event_not s hs w ht h6
/-- A line's own event is read back. -/
theorem eventOk_line {e : Ev} (he : e.ok) : eventOk (by8 (lineB e)) = true ∧ evN (by8 (lineB e)) = e := by
  obtain ⟨h0, h1, h2, h3, h4, h5⟩ := he
  have hs := split_line e
  have hN : evN (by8 (lineB e)) = e := by
    unfold evN elL
    rw [hs]
    simp only [partsB, List.map_cons, List.map_nil, List.getD_cons_zero, List.getD_cons_succ, by8_list, atoiN_itoa h0, atoiN_itoa h2, atoiN_itoa h3, atoiN_itoa h4, atoiN_itoa h5, (kind_word h1).1]
  refine ⟨?_, hN⟩
  unfold eventOk
  rw [hN, hs, by8_list]
  have hk : okK (by8 (lineB e)) 6 = true := by
    unfold okK okK okK okK okK okK okK elL
    rw [hs]
    simp [partsB, by8_list, atoiOk_itoa h0, atoiOk_itoa h2, atoiOk_itoa h3, atoiOk_itoa h4, atoiOk_itoa h5, (kind_word h1).2]
  rw [hk]
  simp [partsB]
theorem eventOk_sound {s : ByteArray} (h : eventOk s = true) : lineB (evN s) = s.data.toList := by
  unfold eventOk at h
  simp only [Bool.and_eq_true, decide_eq_true_eq] at h
  exact h.2
end Go.Proofs.YtdjknobolflldaaDoor
