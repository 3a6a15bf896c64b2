/- Package trace: the word of a kind, and a line. -/
import Derived.Test.YtdjknobolflldaaDoorTrA
namespace Go.Proofs.YtdjknobolflldaaDoor
open Go.RowKit

theorem gSpace' : Tryd.prog.globalNamed "strings.asciiSpace" = some 0 := by kernel_rfl
theorem gPow : Tryd.prog.globalNamed "internal/strconv.uint64pow10" = some 3 := by kernel_rfl
theorem Tabs.below {w w' : World} (h : Tabs w) (hb : Below w.heap.size w w') : Tabs w' :=
  ⟨var?_below hb gSpace' (World.block_lt_of_cell? w _ (h.space.cell gSpace' 0 (by rw [Lib.asciiSpaceTab_length]; decide))) h.space,
   var?_below hb gPow (World.block_lt_of_cell? w _ (h.pow.cell gPow 0 (by decide))) h.pow,
   (let ⟨m, hm⟩ := h.maxLen; ⟨m, (hb.cell (World.block_lt_of_cell? w _ hm)).trans hm⟩),
   (let ⟨m, hm, hv⟩ := h.syn; ⟨m, (hb.cell (World.block_lt_of_cell? w _ hm)).trans hm, hv⟩),
   (let ⟨m, hm, hv⟩ := h.rng; ⟨m, (hb.cell (World.block_lt_of_cell? w _ hm)).trans hm, hv⟩)⟩

def kindList : List (List UInt8) := [[116, 111, 108, 100], [119, 97, 105, 116, 115], [103, 111, 101, 115], [101, 110, 100, 115], [115, 116, 97, 114, 116, 115], [102, 105, 114, 101, 115], [108, 97, 112, 115, 101, 115], [114, 101, 102, 117, 115, 101, 100]]
def kindsText : List UInt8 := [116, 111, 108, 100, 32, 119, 97, 105, 116, 115, 32, 103, 111, 101, 115, 32, 101, 110, 100, 115, 32, 115, 116, 97, 114, 116, 115, 32, 102, 105, 114, 101, 115, 32, 108, 97, 112, 115, 101, 115, 32, 114, 101, 102, 117, 115, 101, 100]

theorem ascii_kinds : ∀ b ∈ kindsText, b.toNat < 128 := by decide +kernel
theorem fields_kinds : Lib.fields kindsText = kindList := by decide +kernel
theorem ret_str {a b : List UInt8} (h : a = b) : Ending.returned (.string ⟨a.toArray⟩) = Ending.returned (.string ⟨b.toArray⟩) := by rw [h]
def I64 (n : Int) : Prop := -9223372036854775808 ≤ n ∧ n ≤ 9223372036854775807
def wordB (k : Int) : List UInt8 := if 1 ≤ k ∧ k ≤ 8 then kindList.getD (k - 1).toNat [] else Lib.itoa k

set_option maxRecDepth 100000 in
set_option maxHeartbeats 400000 in
theorem word_any (k : Int) (hk : I64 k) (w : World) (ht : Tabs w) :
    Calls Tryd.prog 28 #[.int .i64 k] w fun e w' => e = .returned (.string ⟨(wordB k).toArray⟩) ∧ Below w.heap.size w w' := by
  have HT := hid ht
  obtain ⟨hk1, hk2⟩ := hk
  clear ht
  have hlen : kindList.length = 8 := rfl
  have HF : ∀ i, i < 8 → (w.alloc (.cells (kindList.map fun l => Value.string ⟨l.toArray⟩).toArray 9)).cell? ⟨w.heap.size, i, none⟩ = some (.string ⟨(kindList.getD i []).toArray⟩) := by
    intro i hi
    have hl : i < kindList.length := hi
    have hg : kindList[i]? = some (kindList.getD i []) := by rw [List.getD_eq_getElem?_getD, List.getElem?_eq_getElem hl]; rfl
    rw [World.cell?_alloc_new, List.getElem?_toArray, List.getElem?_map, hg]
    rfl
  have H := hid HF
  clear HF
  by_cases h1 : k < 1
  · go_enter Tryd.func28, Tryd.ntmps28
    go_wp2_with fail
    refine (Tryd.strings_Fields ⟨kindsText.toArray⟩ w (by decide +kernel) (fun j b hb => ascii_kinds b (List.mem_of_getElem? hb)) HT.out.space).mono ?_
    rintro e w' ⟨rfl, rfl⟩
    rw [show (⟨kindsText.toArray⟩ : ByteArray).data.toList = kindsText from rfl, fields_kinds, hlen]
    go_wp2_with fail
    refine (itoa_any k hk1 hk2 _ (HT.out.below ((Below.refl _ _).alloc (Nat.le_refl _) _))).mono ?_
    rintro e w1 ⟨rfl, hb⟩
    go_wp2_with fail
    go_ret
    exact ⟨ret_str (by unfold wordB; rw [if_neg (by omega)]), ((Below.refl _ _).alloc (Nat.le_refl _) _).trans (hb.mono (by simp))⟩
  by_cases h2 : 8 < k
  · go_enter Tryd.func28, Tryd.ntmps28
    go_wp2_with fail
    refine (Tryd.strings_Fields ⟨kindsText.toArray⟩ w (by decide +kernel) (fun j b hb => ascii_kinds b (List.mem_of_getElem? hb)) HT.out.space).mono ?_
    rintro e w' ⟨rfl, rfl⟩
    rw [show (⟨kindsText.toArray⟩ : ByteArray).data.toList = kindsText from rfl, fields_kinds, hlen]
    go_wp2_with fail
    refine (itoa_any k hk1 hk2 _ (HT.out.below ((Below.refl _ _).alloc (Nat.le_refl _) _))).mono ?_
    rintro e w1 ⟨rfl, hb⟩
    go_wp2_with fail
    go_ret
    exact ⟨ret_str (by unfold wordB; rw [if_neg (by omega)]), ((Below.refl _ _).alloc (Nat.le_refl _) _).trans (hb.mono (by simp))⟩
  have e1 : decide (k < 1) = false := by simp; omega
  have e2 : decide (8 < k) = false := by simp; omega
  go_enter Tryd.func28, Tryd.ntmps28
  go_wp2_with fail
  refine (Tryd.strings_Fields ⟨kindsText.toArray⟩ w (by decide +kernel) (fun j b hb => ascii_kinds b (List.mem_of_getElem? hb)) HT.out.space).mono ?_
  rintro e w' ⟨rfl, rfl⟩
  rw [show (⟨kindsText.toArray⟩ : ByteArray).data.toList = kindsText from rfl, fields_kinds, hlen]
  have hcell := H.out (k - 1).toNat (by omega)
  rw [show (k - 1).toNat = k.toNat - 1 by omega] at hcell
  generalize hW : w.alloc _ = W at hcell
  have HB : Below w.heap.size w W := by rw [← hW]; exact (Below.refl _ _).alloc (Nat.le_refl _) _
  clear hW
  have hw : wordB k = kindList.getD (k.toNat - 1) [] := by unfold wordB; rw [if_pos (by omega), show (k - 1).toNat = k.toNat - 1 by omega]
  have Hw := hid hw
  clear hw
  rw [← Hw.out] at hcell
  go_wp2_with fail
  go_ret
  exact ⟨rfl, HB⟩

structure Ev where
  step : Int
  kind : Int
  task : Int
  a : Int
  b : Int
  c : Int
  deriving DecidableEq
def Ev.ok (e : Ev) : Prop := I64 e.step ∧ I64 e.kind ∧ I64 e.task ∧ I64 e.a ∧ I64 e.b ∧ I64 e.c
def Ev.cells (e : Ev) : List Value := [.int .i64 e.step, .int .i64 e.kind, .int .i64 e.task, .int .i64 e.a, .int .i64 e.b, .int .i64 e.c]
def partsB (e : Ev) : List (List UInt8) := [Lib.itoa e.step, wordB e.kind, Lib.itoa e.task, Lib.itoa e.a, Lib.itoa e.b, Lib.itoa e.c]
def lineB (e : Ev) : List UInt8 := Lib.join (partsB e) [32]
def noEv : Ev := ⟨0, 0, 0, 0, 0, 0⟩
theorem itoa_small {n : Int} (h : I64 n) : (Lib.itoa n).length ≤ 21 := Lib.itoa_length_le n h.1 h.2
theorem word_small {k : Int} (h : I64 k) : (wordB k).length ≤ 21 := by
  unfold wordB
  split
  · have : ∀ i : Fin 8, (kindList.getD i.val []).length ≤ 21 := by decide +kernel
    exact this ⟨(k - 1).toNat, by omega⟩
  · exact itoa_small h

def strsV (l : List (List UInt8)) : List Value := l.map fun x => Value.string ⟨x.toArray⟩
theorem strsV_append (a b : List (List UInt8)) : strsV (a ++ b) = strsV a ++ strsV b := by simp [strsV]
theorem info_string : (Tryd.prog.info? 9).map (fun i => (i.zero, i.size, i.bytes)) = some (some (.string ByteArray.empty), 1, 16) := by kernel_rfl
theorem grown_of_below {w w' : World} (hb : Below w.heap.size w w') (row : Option Nat) : w.grownBy w' row := ⟨hb.os, hb.tape, hb.output, hb.size, fun k hk _ => hb.block k hk⟩
theorem own_below {w w' : World} {B e size : Nat} {v : Value} {n : Nat} {xs : List Value} (h : w.ownsRow B e size v n xs) (hb : Below w.heap.size w w') : w'.ownsRow B e size v n xs :=
  h.kept (grown_of_below hb none) (by cases v.ownBlock <;> simp)
theorem owns_new {w : World} {B n m : Nat} {cs : List Value} {t : TypeId} (hn : n = w.heap.size) (hm : m = cs.length) (hB : B ≤ w.heap.size) (hs : m ≤ maxLen) : (w.alloc (.cells cs.toArray t)).ownsRow B t 1 (.slice (some ⟨n, 0, none⟩) m m) m cs := by
  subst hn
  subst hm
  exact ⟨by simp, .inr ⟨w.heap.size, cs.length, cs.toArray, rfl, hB, heap_alloc_new w _, Nat.le_refl _, hs, by simp, by simp⟩⟩
theorem own_slice {w : World} {B e n : Nat} {v : Value} {xs : List Value} (h : w.ownsRow B e 1 v n xs) (hn : 0 < n) : ∃ g cap, v = .slice (some ⟨g, 0, none⟩) n cap ∧ n ≤ cap ∧ g < w.heap.size ∧ B ≤ g ∧ ∀ (j : Nat) u, xs[j]? = some u → w.cell? ⟨g, 0 + j, none⟩ = some u := by
  rcases h.2 with ⟨_, h0⟩ | ⟨g, cap, cur, hv, hg, hh, hc, _⟩
  · omega
  · refine ⟨g, cap, hv, hc, (Array.getElem?_eq_some_iff.1 hh).1, hg, fun j u hu => ?_⟩
    have := h.cells (g := g) (by rw [hv]; rfl) j u hu
    have hadd : (⟨g, 0, none⟩ : Addr).add j = ⟨g, 0 + j, none⟩ := by unfold Addr.add; split <;> simp_all
    rw [hadd] at this
    exact this
theorem tcells_at {w : World} {n : Nat} {xs : List Value} {t : TypeId} (hn : n = w.heap.size) : ∀ (j : Nat) (u : Value), xs[j]? = some u → (w.alloc (.cells xs.toArray t)).cell? ((⟨n, 0, none⟩ : Addr).add j) = some u := by
  subst hn
  intro j u h
  have hadd : (⟨w.heap.size, 0, none⟩ : Addr).add j = ⟨w.heap.size, j, none⟩ := by unfold Addr.add; split <;> simp_all
  rw [hadd, World.cell?_alloc_new]
  simpa using h
theorem own_ne {w : World} {B e e' size : Nat} {v : Value} {n g : Nat} {xs : List Value} {cs : Array Value} {fz : Nat × Nat} (h : w.ownsRow B e size v n xs) (hg : w.heap[g]? = some (.cells cs e' fz)) (hne : e ≠ e') : v.ownBlock ≠ some g := by
  intro hv
  rcases h.2 with ⟨rfl, _⟩ | ⟨g', cap, cur, rfl, _, hh, _⟩
  · simp [Value.ownBlock] at hv
  · simp [Value.ownBlock] at hv
    subst hv
    rw [hg] at hh
    simp at hh
    exact hne hh.2.1.symm
theorem ints_cell {w : World} {g k : Nat} {x : Int} {a b c d : Int} {t : TypeId} (h : w.heap[g]? = some (.cells #[.int .i64 a, .int .i64 b, .int .i64 c, .int .i64 d] t)) (hx : [a, b, c, d][k]? = some x) : w.cell? ⟨g, k, none⟩ = some (.int .i64 x) := by
  unfold World.cell?
  simp only [h]
  rcases k with _ | _ | _ | _ | k <;> simp_all
theorem parts_step {step kind task a b c x : Int} {k : Nat} (hk : k < 4) (hx : [task, a, b, c][k]? = some x) : strsV ((partsB ⟨step, kind, task, a, b, c⟩).take (2 + (k + 1))) = strsV ((partsB ⟨step, kind, task, a, b, c⟩).take (2 + k)) ++ [.string ⟨(Lib.itoa x).toArray⟩] := by
  rcases k with _ | _ | _ | _ | k
  all_goals first | omega | (simp at hx; subst hx; simp [partsB, strsV])
theorem list_back (l : List (List UInt8)) : (l.map fun x => (⟨x.toArray⟩ : ByteArray)).map (·.data.toList) = l := by simp [List.map_map, Function.comp_def]
theorem line_small {e : Ev} (he : e.ok) : (lineB e).length ≤ 131 := by
  unfold lineB partsB
  rw [Lib.join_length]
  have h1 := itoa_small he.1
  have h2 := word_small he.2.1
  have h3 := itoa_small he.2.2.1
  have h4 := itoa_small he.2.2.2.1
  have h5 := itoa_small he.2.2.2.2.1
  have h6 := itoa_small he.2.2.2.2.2
  simp [Lib.lens]
  omega

set_option maxRecDepth 100000 in
set_option maxHeartbeats 1000000 in
theorem line_any (e : Ev) (he : e.ok) (w : World) (ht : Tabs w) :
    Calls Tryd.prog 12 #[.agg #[.int .i64 e.step, .int .i64 e.kind, .int .i64 e.task, .int .i64 e.a, .int .i64 e.b, .int .i64 e.c]] w fun r w' => r = .returned (.string ⟨(lineB e).toArray⟩) ∧ Below w.heap.size w w' := by
  have HT := hid ht
  have HE := hid he
  obtain ⟨i0, hi, iz0, iz1, iz2⟩ := info_parts info_string
  obtain ⟨step, kind, task, a, b, c⟩ := e
  clear ht he
  go_enter Tryd.func12, Tryd.ntmps12
  go_wp2_with fail
  generalize hW : w.alloc _ = W
  have HB : Below w.heap.size w W := by rw [← hW]; exact (Below.refl _ _).alloc (Nat.le_refl _) _
  have hq : ∀ j x, (Ev.cells ⟨step, kind, task, a, b, c⟩)[j]? = some x → ∀ w', Below W.heap.size W w' → w'.cell? ⟨w.heap.size, j, none⟩ = some x := fun j x hx w' hb => by
    rw [hb.cell (p := ⟨w.heap.size, j, none⟩) (by rw [← hW]; simp), ← hW]; simpa [Ev.cells] using hx
  have HQ := hid hq
  have hWs : W.heap.size = w.heap.size + 1 := by rw [← hW]; simp
  clear hq hW
  have p1 : ∀ w', Below W.heap.size W w' → w'.cell? ⟨w.heap.size, 1, none⟩ = some (.int .i64 kind) := fun w' hb => HQ.out 1 _ rfl w' hb
  have q0 := HQ.out 0 _ rfl W (Below.refl _ _)
  have q1 := HQ.out 1 _ rfl W (Below.refl _ _)
  have HI := hid (show I64 step ∧ I64 kind ∧ I64 task ∧ I64 a ∧ I64 b ∧ I64 c from HE.out)
  have HTs := hid (show ∀ w', Below W.heap.size W w' → Tabs w' from fun w' hb => HT.out.below (HB.trans (hb.mono HB.size)))
  go_region_with (first
    | (go_at_call 27; refine (itoa_any step HI.out.1.1 HI.out.1.2 _ (HTs.out _ (Below.refl _ _).drew)).mono ?_; rintro e w1 ⟨rfl, hb1⟩; have h1 : Below W.heap.size W w1 := (Below.refl _ W).drew.trans hb1; have q1 := p1 w1 h1)
    | (go_at_call 28; refine (word_any kind HI.out.2.1 _ (HTs.out _ h1)).mono ?_; rintro e w2 ⟨rfl, hb2⟩; have h2 : Below W.heap.size W w2 := h1.trans (hb2.mono h1.size)))
  all_goals
    have HB2 := HB.trans (h2.mono HB.size)
    have r2 := HQ.out 2 _ rfl w2 h2
    have r3 := HQ.out 3 _ rfl w2 h2
    have r4 := HQ.out 4 _ rfl w2 h2
    have r5 := HQ.out 5 _ rfl w2 h2
    have hsz : w.heap.size < w2.heap.size := by have := h2.size; omega
    clear q0 q1 p1
    have hown0 := owns_new (w := w2) (B := w.heap.size) (t := 9) (cs := strsV ((partsB ⟨step, kind, task, a, b, c⟩).take 2)) (n := w2.heap.size) (m := 2) rfl rfl (by omega) (by decide)
    have hints : ((w2.alloc (.cells #[.string ⟨(Lib.itoa step).toArray⟩, .string ⟨(wordB kind).toArray⟩] 9)).alloc (.cells #[.int .i64 task, .int .i64 a, .int .i64 b, .int .i64 c] 3)).heap[w2.heap.size + 1]? = some (.cells #[.int .i64 task, .int .i64 a, .int .i64 b, .int .i64 c] 3) := by
      have := heap_alloc_new (w2.alloc (.cells #[.string ⟨(Lib.itoa step).toArray⟩, .string ⟨(wordB kind).toArray⟩] 9)) (.cells #[.int .i64 task, .int .i64 a, .int .i64 b, .int .i64 c] 3)
      rwa [show (w2.alloc (.cells #[.string ⟨(Lib.itoa step).toArray⟩, .string ⟨(wordB kind).toArray⟩] 9)).heap.size = w2.heap.size + 1 by simp] at this
    have Hown := hid hown0
    have Hints := hid hints
    have HBs := hid HB2
    clear hown0 hints HB2
    go_wp2_with fail
    clear r2 r3 r4 r5
    go_loopw [3, 5, 23] (fun v _ i wr => ∃ k : Nat, k ≤ 4 ∧ i = .int .i64 k ∧ wr.ownsRow w.heap.size 9 1 v (2 + k) (strsV ((partsB ⟨step, kind, task, a, b, c⟩).take (2 + k))) ∧ Below w.heap.size w wr ∧ w2.heap.size + 1 < wr.heap.size ∧ wr.heap[w2.heap.size + 1]? = some (.cells #[.int .i64 task, .int .i64 a, .int .i64 b, .int .i64 c] 3)) (fun _ _ i _ => 4 - (intOf i).toNat)
    case atStart =>
      exact ⟨0, by omega, rfl, Hown.out.alloc _, (HBs.out.alloc (by omega) _).alloc (by simp; omega) _, by simp, Hints.out⟩
    case round =>
      obtain ⟨k, hk, rfl, hown, hB, hsz2, hints⟩ := hrel
      have Hn := hid hints
      clear hints
      by_cases hlt : k < 4
      · obtain ⟨x, hx⟩ : ∃ x, [task, a, b, c][k]? = some x := ⟨_, List.getElem?_eq_getElem (by simpa using hlt)⟩
        have hcell : wr.cell? ⟨w2.heap.size + 1, k, none⟩ = some (.int .i64 x) := ints_cell Hn.out hx
        have hxi : I64 x := by
          have := HI.out
          have hm := List.mem_of_getElem? hx
          simp at hm
          rcases hm with rfl | rfl | rfl | rfl <;> simp_all
        have Hx := hid hx
        have hbl : ∀ z, u3.ownBlock = some z → w.heap.size ≤ z ∧ z < wr.heap.size := hown.lt
        have hnb : u3.ownBlock ≠ some (w2.heap.size + 1) := own_ne hown Hn.out (by decide)
        have Hnb := hid hnb
        have Hbl := hid hbl
        clear hx hbl hnb
        go_wp2_with (first
          | (go_at_call 27; refine (itoa_any x hxi.1 hxi.2 _ (HT.out.below hB)).mono ?_; rintro e w3 ⟨rfl, hb3⟩; have hown3 := own_below hown hb3; have hs3 := hb3.size)
          | (at_builtin; refine wpList_append_own _ rfl (.tmp 27) (.tmp 30) 38 rfl w.heap.size 9 i0 (.string ByteArray.empty) 1 16 Tryd.underlying38 hi iz0 iz1 iz2 rfl (by decide) u3 (2 + k) _ rfl (hown3.alloc _) ⟨_, 0, none⟩ 1 1 [.string ⟨(Lib.itoa x).toArray⟩] rfl rfl (tcells_at (xs := [_]) rfl) (by simp [Value.oneCell']) (by simp only [maxLen]; omega) (by omega) (by simp; omega) ?_; intro v4 w4 hown4 hgrow4 _))
        have hz4 := hgrow4.size
        go_roundw
        case rel =>
          have hs3' : w3.heap.size + 1 ≤ w4.heap.size := by simpa using hz4
          refine ⟨k + 1, by omega, by go_num, ?_, ((hB.trans (hb3.mono hB.size)).alloc (by omega) _).grown hgrow4 (by simp; omega) (fun z hz => (Hbl.out z hz).1), by omega, ?_⟩
          · have hx := Hx.out
            rw [show (strsV ((partsB ⟨step, kind, task, a, b, c⟩).take (2 + (k + 1)))) = strsV ((partsB ⟨step, kind, task, a, b, c⟩).take (2 + k)) ++ [.string ⟨(Lib.itoa x).toArray⟩] from parts_step hlt hx]
            exact hown4
          · have h3 : w3.heap[w2.heap.size + 1]? = _ := (hb3.block _ hsz2).trans Hn.out
            have h3' : (w3.alloc (.cells #[.string ⟨(Lib.itoa x).toArray⟩] 9)).heap[w2.heap.size + 1]? = w3.heap[w2.heap.size + 1]? := heap_alloc_old w3 _ (by omega)
            rw [hgrow4.block (w2.heap.size + 1) (by simp; omega) (fun e => Hnb.out e.symm), h3', h3]
        case measure => simp [intOf]; omega
      · obtain rfl : k = 4 := by omega
        obtain ⟨g, cap, rfl, hcap, hg, hg2, hcells⟩ := own_slice hown (by omega)
        have hcs : ∀ (j : Nat) (x : ByteArray), ((partsB ⟨step, kind, task, a, b, c⟩).map fun l => (⟨l.toArray⟩ : ByteArray))[j]? = some x → wr.cell? ⟨g, 0 + j, none⟩ = some (.string x) := by
          intro j x hx
          refine hcells j _ ?_
          rw [List.take_of_length_le (by simp [partsB])]
          simp only [List.getElem?_map, Option.map_eq_some_iff, strsV] at hx ⊢
          obtain ⟨l, hl, rfl⟩ := hx
          exact ⟨l, hl, rfl⟩
        have Hc := hid hcs
        clear hcs hcells hown
        have hlen : (Lib.join (((partsB ⟨step, kind, task, a, b, c⟩).map fun l => (⟨l.toArray⟩ : ByteArray)).map (·.data.toList)) (⟨#[32]⟩ : ByteArray).data.toList).length ≤ 140737488355328 := by
          rw [list_back]
          have := line_small HE.out
          unfold lineB at this
          simp only [show (⟨#[32]⟩ : ByteArray).data.toList = [32] from rfl]
          omega
        have Hl := hid hlen
        clear hlen
        go_wp2_with (go_loud (go_at_call 29; refine (Tryd.strings_Join g 0 cap ((partsB ⟨step, kind, task, a, b, c⟩).map fun l => (⟨l.toArray⟩ : ByteArray)) ⟨#[32]⟩ wr Hc.out hg (by simp [partsB]) (by simpa [partsB] using hcap) Hl.out).mono ?_; rintro e w5 ⟨rfl, hb5⟩))
        go_ret
        exact ⟨ret_str (by rw [← List.map_map, list_back]; rfl), hB.trans (hb5.mono hB.size)⟩

def textB (l : List Ev) : List UInt8 := l.flatMap fun e => lineB e ++ [10]
end Go.Proofs.YtdjknobolflldaaDoor
