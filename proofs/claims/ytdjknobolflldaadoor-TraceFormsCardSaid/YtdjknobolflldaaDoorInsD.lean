/- Package prog: Check and All over programs in memory. -/
import Derived.Test.YtdjknobolflldaaDoorInsC
namespace Go.Proofs.YtdjknobolflldaaDoor
open Go.RowKit

section
variable {P : Program}
theorem wpQuiet_none {ops : Array Oper} {C : World → Prop} {Q : Act → Prop} {a : Act} {o : Oper} {rest : List Oper} (hg : o.guard = none)
    (h : ∀ K : Act → Prop, (∀ a, wpQuiet P ops C Q rest a → K a) → o.quiet P a C K) : wpQuiet P ops C Q (o :: rest) a :=
  wpQuiet_step fun K hK => by simp only [Region.wanted, hg, if_true]; exact h K hK
/-- A region that draws its order and whose operations leave all blocks that were there as they were: one walk, in the order of the text. -/
theorem wp_region_below {id : Nat} {Q : Exit → Act → World → Prop} {a : Act} {w : World} {l : List Oper} (hm : P.follows .mixedOrders = true) (hB : Region.lexB .any l.toArray = true)
    (h : wpQuiet P l.toArray (fun w' => Below w.heap.size w w') (fun a' => ∀ w', Below w.heap.size w w' → Q .normal a' w') l a) : (Code.region id l.toArray true).wp P Q a w :=
  wp_region_quiet (C := fun w' => Below w.heap.size w w') hm hB (Below.refl _ _).drew (by simpa using h)
end

def noIns : Ins := ⟨0, 0, 0, 0, [], false⟩
def insCells (i : Ins) (sv : Value) : List Value := [.int .i64 i.op, .int .i64 i.a, .int .i64 i.b, .int .i64 i.c, sv, .bool i.dflt]
/-- A program in memory: the instructions' cells, and each one's cases. -/
def RdP (w : World) (v : Value) (l : List Ins) : Prop :=
  ∃ svs : Nat → Value, Rd w v l.length 6 (fun k => insCells (l.getD k noIns) (svs k)) ∧ ∀ k, k < l.length → Rd w (svs k) (l.getD k noIns).cases.length 3 (fun j => ((l.getD k noIns).cases.getD j noCase).cells)
theorem RdP.below {w w' : World} {v : Value} {l : List Ins} (h : RdP w v l) (hb : Below w.heap.size w w') : RdP w' v l := by
  obtain ⟨svs, h1, h2⟩ := h
  exact ⟨svs, h1.below hb, fun k hk => (h2 k hk).below hb⟩

set_option maxRecDepth 100000 in
set_option maxHeartbeats 400000 in
/-- The predicate that Check hands on: an instruction that may not be. 'pb': the block of the captured program. -/
theorem checkPred_any (i : Ins) (sv : Value) (pb n cap : Nat) (ad : Option Addr) (w : World) (h : Rd w sv i.cases.length 3 (fun k => (i.cases.getD k noCase).cells))
    (hp : w.cell? ⟨pb, 0, none⟩ = some (.slice ad n cap)) :
    Calls Tryd.prog 38 #[.agg #[.int .i64 i.op, .int .i64 i.a, .int .i64 i.b, .int .i64 i.c, sv, .bool i.dflt], .pointer (some ⟨pb, 0, none⟩)] w fun e w' => e = .returned (.bool (!goodB i n)) ∧ Below w.heap.size w w' := by
  have Hr := hid h
  clear h
  have hlt : pb < w.heap.size := World.block_lt_of_cell? w _ hp
  obtain ⟨ad', cap', rfl⟩ : ∃ ad cap, sv = .slice ad i.cases.length cap := by
    rcases Hr.out with ⟨rfl, h0⟩ | ⟨b, off, cap, rfl, _⟩
    · exact ⟨none, 0, by rw [h0]⟩
    · exact ⟨_, cap, rfl⟩
  go_enter Tryd.func38, Tryd.ntmps38
  go_wp2_with fail
  refine (good_any i _ _ _ (Hr.out.below ((Below.refl _ _).alloc (Nat.le_refl _) _))).mono ?_
  rintro e w1 ⟨rfl, hb1⟩
  go_wp2_with fail
  go_ret
  exact ⟨rfl, ((Below.refl _ _).alloc (Nat.le_refl _) _).trans (hb1.mono (by simp))⟩

def startsOf (i : Ins) : Int := if i.op = 8 then i.b else if i.op = 19 ∨ i.op = 31 then i.c else -1
set_option maxRecDepth 100000 in
set_option maxHeartbeats 400000 in
theorem starts_any (i : Ins) (sv : Value) (w : World) (hs : sv.oneCell' = true) :
    Calls Tryd.prog 41 #[.agg #[.int .i64 i.op, .int .i64 i.a, .int .i64 i.b, .int .i64 i.c, sv, .bool i.dflt]] w fun e w' =>
      e = .returned (.int .i64 (startsOf i)) ∧ Below w.heap.size w w' := by
  obtain ⟨op, a, b, c, cs, d⟩ := i
  by_cases h1 : op = 8
  · subst h1
    go_enter Tryd.func41, Tryd.ntmps41
    go_wp2_with fail
    go_ret
    exact ⟨ret_int64 (by simp [startsOf]), (Below.refl _ _).alloc (Nat.le_refl _) _⟩
  have e1 : (op == 8) = false := by simpa using h1
  by_cases h2 : op = 19
  · subst h2
    go_enter Tryd.func41, Tryd.ntmps41
    go_wp2_with fail
    go_ret
    exact ⟨ret_int64 (by simp [startsOf]), (Below.refl _ _).alloc (Nat.le_refl _) _⟩
  have e2 : (op == 19) = false := by simpa using h2
  by_cases h3 : op = 31
  · subst h3
    go_enter Tryd.func41, Tryd.ntmps41
    go_wp2_with fail
    go_ret
    exact ⟨ret_int64 (by simp [startsOf]), (Below.refl _ _).alloc (Nat.le_refl _) _⟩
  have e3 : (op == 31) = false := by simpa using h3
  have H := hid (And.intro h1 (And.intro h2 h3))
  clear h1 h2 h3
  go_enter Tryd.func41, Tryd.ntmps41
  go_wp2_with fail
  go_ret
  exact ⟨ret_int64 (by obtain ⟨h1, h2, h3⟩ := H.out; simp [startsOf, h1, h2, h3]), (Below.refl _ _).alloc (Nat.le_refl _) _⟩

set_option maxRecDepth 100000 in
set_option maxHeartbeats 400000 in
/-- The predicate that All hands on: an instruction that lets a program start that is not there. -/
theorem allPred_any (i : Ins) (sv : Value) (pb n cap : Nat) (ad : Option Addr) (w : World) (hs : sv.oneCell' = true)
    (hp : w.cell? ⟨pb, 0, none⟩ = some (.slice ad n cap)) :
    Calls Tryd.prog 40 #[.agg #[.int .i64 i.op, .int .i64 i.a, .int .i64 i.b, .int .i64 i.c, sv, .bool i.dflt], .pointer (some ⟨pb, 0, none⟩)] w fun e w' => e = .returned (.bool (decide ((n : Int) ≤ startsOf i))) ∧ Below w.heap.size w w' := by
  have hlt : pb < w.heap.size := World.block_lt_of_cell? w _ hp
  go_enter Tryd.func40, Tryd.ntmps40
  go_wp2_with fail
  generalize hW : w.alloc _ = W
  have HB : Below w.heap.size w W := by rw [← hW]; exact (Below.refl _ _).alloc (Nat.le_refl _) _
  have hp' : ∀ w', Below W.heap.size W w' → w'.cell? ⟨pb, 0, none⟩ = some (.slice ad n cap) := fun w' hb => by
    rw [hb.cell (p := ⟨pb, 0, none⟩) (by rw [← hW]; simp; omega), HB.cell (p := ⟨pb, 0, none⟩) hlt]; exact hp
  have hq : ∀ j x, (insCells i sv)[j]? = some x → ∀ w', Below W.heap.size W w' → w'.cell? ⟨w.heap.size, j, none⟩ = some x := fun j x hx w' hb => by
    rw [hb.cell (p := ⟨w.heap.size, j, none⟩) (by rw [← hW]; simp), ← hW]; simpa [insCells] using hx
  have q0 := hq 0 _ rfl
  have q1 := hq 1 _ rfl
  have q2 := hq 2 _ rfl
  have q3 := hq 3 _ rfl
  have q4 := hq 4 _ rfl
  have q5 := hq 5 _ rfl
  clear hq hp hlt
  refine wp_region_below (by kernel_rfl) (by kernel_rfl) ?_
  -- the box is read
  refine wpQuiet_none rfl (fun K hK => ?_)
  apply Exists.intro
  refine ⟨fun w1 hC => ?_, ?_⟩
  · have p0 := q0 _ hC; have p1 := q1 _ hC; have p2 := q2 _ hC; have p3 := q3 _ hC; have p4 := q4 _ hC; have p5 := q5 _ hC
    go_simp
    exact rfl
  go_simp
  refine hK _ ?_
  clear hK K
  -- the call
  refine wpQuiet_none rfl (fun K hK => ?_)
  apply Exists.intro
  refine ⟨fun w1 hC => ?_, ?_⟩
  · go_simp
    exact (starts_any i sv w1 hs).mono fun e w2 ⟨he, hb⟩ => ⟨he, hC.trans (hb.mono hC.size)⟩
  go_simp
  refine hK _ ?_
  clear hK K
  -- the captured variable
  refine wpQuiet_none rfl (fun K hK => ?_)
  apply Exists.intro
  refine ⟨fun w1 hC => ?_, ?_⟩
  · have p0 := hp' _ hC
    go_simp
    exact rfl
  go_simp
  refine hK _ ?_
  clear hK K
  repeat
    refine wpQuiet_none rfl (fun K hK => ?_)
    apply Exists.intro
    refine ⟨fun w1 hC => ?_, ?_⟩
    · go_simp
      exact rfl
    go_simp
    refine hK _ ?_
    clear hK K
  refine wpQuiet_nil ?_
  intro w1 hC
  go_wp2_with fail
  go_ret
  exact ⟨rfl, HB.trans (hC.mono HB.size)⟩

set_option maxRecDepth 100000 in
set_option maxHeartbeats 400000 in
/-- IndexFunc over instructions, at whatever closure over one captured variable that answers p. -/
theorem idxIns_any (F : FuncId) (hF : ∀ (args : Array Value) (w : World), (callFunc F args).run Tryd.prog w = .ok (.enter F args) w) (pc : Value) (p : Ins → Bool) (l : List Ins) (pv : Value) (w : World) (h : RdP w pv l)
    (hcall : ∀ k, k < l.length → ∀ sv w', Below w.heap.size w w' → sv.oneCell' = true → Rd w' sv (l.getD k noIns).cases.length 3 (fun j => ((l.getD k noIns).cases.getD j noCase).cells) →
      Calls Tryd.prog F #[.agg #[.int .i64 (l.getD k noIns).op, .int .i64 (l.getD k noIns).a, .int .i64 (l.getD k noIns).b, .int .i64 (l.getD k noIns).c, sv, .bool (l.getD k noIns).dflt], pc] w' fun e w'' => e = .returned (.bool (p (l.getD k noIns))) ∧ Below w'.heap.size w' w'') :
    Calls Tryd.prog 51 #[pv, .func (.func F) #[] #[pc]] w fun e w' => e = .returned (.int .i64 (idxOf p l)) ∧ Below w.heap.size w w' := by
  obtain ⟨svs, h0, hcs⟩ := h
  have h00 : pv = .slice none 0 0 ∧ l.length = 0 ∨ ∃ b off cap, pv = .slice (some ⟨b, off, none⟩) l.length cap ∧ l.length ≤ 140737488351232 ∧ b < w.heap.size ∧ ∀ k, k < l.length → ∀ j x, (insCells (l.getD k noIns) (svs k))[j]? = some x → w.cell? ⟨b, off + k * 6 + j, none⟩ = some x := h0
  obtain ⟨a, cap, rfl, hn, hc⟩ : ∃ a cap, pv = .slice a l.length cap ∧ l.length ≤ 140737488351232 ∧ ∀ k, k < l.length → ∃ b off, a = some ⟨b, off, none⟩ ∧ b < w.heap.size ∧ w.cell? ⟨b, off + k * 6, none⟩ = some (.int .i64 (l.getD k noIns).op) ∧ w.cell? ⟨b, off + k * 6 + 1, none⟩ = some (.int .i64 (l.getD k noIns).a) ∧ w.cell? ⟨b, off + k * 6 + 2, none⟩ = some (.int .i64 (l.getD k noIns).b) ∧ w.cell? ⟨b, off + k * 6 + 3, none⟩ = some (.int .i64 (l.getD k noIns).c) ∧ w.cell? ⟨b, off + k * 6 + 4, none⟩ = some (svs k) ∧ w.cell? ⟨b, off + k * 6 + 5, none⟩ = some (.bool (l.getD k noIns).dflt) := by
    rcases h00 with ⟨rfl, h9⟩ | ⟨b, off, cap, rfl, hn, hb, hc⟩
    · exact ⟨none, 0, by rw [h9], by omega, fun k hk => by omega⟩
    · exact ⟨_, cap, rfl, hn, fun k hk => ⟨b, off, rfl, hb, hc k hk 0 _ rfl, hc k hk 1 _ rfl, hc k hk 2 _ rfl, hc k hk 3 _ rfl, hc k hk 4 _ rfl, hc k hk 5 _ rfl⟩⟩
  have Hcs := hid hcs
  have Hcall := hid hcall
  clear h0 h00 hcs hcall
  go_enter Tryd.func51, Tryd.ntmps51
  go_wp2_with fail
  go_loopw [5, 8] (fun _ i wr => ∃ k : Nat, k ≤ l.length ∧ i = .int .i64 k ∧ Below w.heap.size w wr ∧ ∀ i, i < k → p (l.getD i noIns) = false) (fun _ i _ => l.length - (intOf i).toNat)
  case atStart => exact ⟨0, Nat.zero_le _, rfl, Below.refl _ _, fun i hi => by omega⟩
  case round =>
    obtain ⟨k, hk, rfl, hB, hno⟩ := hrel
    have Hno := hid hno
    clear hno
    by_cases hlt : k < l.length
    · obtain ⟨b, off, rfl, hb, h0, h1, h2, h3, h4, h5⟩ := hc k hlt
      have hcl := Hcall.out k hlt (svs k) wr hB
      have hrs := (Hcs.out k hlt).below hB
      obtain ⟨ins, hins⟩ : ∃ ins, l.getD k noIns = ins := ⟨_, rfl⟩
      rw [hins] at h0 h1 h2 h3 h5 hcl hrs
      have Hins := hid hins
      clear hins
      obtain ⟨op, ia, ib, ic, cs, d⟩ := ins
      obtain ⟨sv, hsv⟩ : ∃ sv, svs k = sv := ⟨_, rfl⟩
      rw [hsv] at h4 hcl hrs
      clear hsv
      obtain ⟨ad', cap', rfl⟩ : ∃ ad cap, sv = .slice ad cs.length cap := by
        rcases hrs with ⟨rfl, h9⟩ | ⟨b, off, cap, rfl, _⟩
        · exact ⟨none, 0, by rw [h9]⟩
        · exact ⟨_, cap, rfl⟩
      have hcl := hcl rfl hrs
      dsimp only at hcl
      have c0 := (hB.cell (p := ⟨b, off + k * 6, none⟩) hb).trans h0
      have c1 := (hB.cell (p := ⟨b, off + k * 6 + 1, none⟩) hb).trans h1
      have c2 := (hB.cell (p := ⟨b, off + k * 6 + 2, none⟩) hb).trans h2
      have c3 := (hB.cell (p := ⟨b, off + k * 6 + 3, none⟩) hb).trans h3
      have c4 := (hB.cell (p := ⟨b, off + k * 6 + 4, none⟩) hb).trans h4
      have c5 := (hB.cell (p := ⟨b, off + k * 6 + 5, none⟩) hb).trans h5
      have Hcl := hid hcl
      have Hc := hid hc
      clear h0 h1 h2 h3 h4 h5 hc hcl hrs
      cases hp : p ⟨op, ia, ib, ic, cs, d⟩
      all_goals
        have Hp := hid hp
        clear hp
        go_wp2_with fail
        refine Hcl.out.mono ?_
        rintro e w1 ⟨rfl, hb1⟩
        rw [Hp.out]
        go_wp2_with fail
      · go_roundw
        case rel => exact ⟨k + 1, by omega, by go_num, hB.trans (hb1.mono hB.size), fun i hi => by
          rcases Nat.lt_succ_iff_lt_or_eq.1 hi with h | rfl
          · exact Hno.out i h
          · rw [Hins.out]; exact Hp.out⟩
        case measure => simp [intOf]; omega
      · go_ret
        exact ⟨ret_int64 (findIdx_at _ _ _ _ hlt Hno.out (by rw [Hins.out]; exact Hp.out)).symm, hB.trans (hb1.mono hB.size)⟩
    · obtain rfl : k = l.length := by omega
      go_wp2_with fail
      go_ret
      exact ⟨ret_int64 (findIdx_none _ _ _ Hno.out).symm, hB⟩

theorem containsIns_any (F : FuncId) (hF : ∀ (args : Array Value) (w : World), (callFunc F args).run Tryd.prog w = .ok (.enter F args) w) (pc : Value) (p : Ins → Bool) (l : List Ins) (pv : Value) (w : World) (h : RdP w pv l)
    (hcall : ∀ k, k < l.length → ∀ sv w', Below w.heap.size w w' → sv.oneCell' = true → Rd w' sv (l.getD k noIns).cases.length 3 (fun j => ((l.getD k noIns).cases.getD j noCase).cells) →
      Calls Tryd.prog F #[.agg #[.int .i64 (l.getD k noIns).op, .int .i64 (l.getD k noIns).a, .int .i64 (l.getD k noIns).b, .int .i64 (l.getD k noIns).c, sv, .bool (l.getD k noIns).dflt], pc] w' fun e w'' => e = .returned (.bool (p (l.getD k noIns))) ∧ Below w'.heap.size w' w'') :
    Calls Tryd.prog 37 #[pv, .func (.func F) #[] #[pc]] w fun e w' => e = .returned (.bool (l.any p)) ∧ Below w.heap.size w w' := by
  have H := hid h
  have Hc := hid hcall
  have Hi := hid (idxOf_nonneg p l)
  clear h hcall
  go_enter Tryd.func37, Tryd.ntmps37
  go_wp2_with fail
  refine (idxIns_any F hF pc p l _ _ H.out Hc.out).mono ?_
  rintro e w1 ⟨rfl, hb1⟩
  go_wp2_with fail
  go_ret
  exact ⟨ret_bool Hi.out, hb1⟩

theorem enter_checkPred (args : Array Value) (w : World) : (callFunc 38 args).run Tryd.prog w = .ok (.enter 38 args) w := by go_simp
theorem enter_allPred (args : Array Value) (w : World) : (callFunc 40 args).run Tryd.prog w = .ok (.enter 40 args) w := by go_simp
def checkB (l : List Ins) : Bool := decide (l.length ≤ 100) && !l.any (fun i => !goodB i l.length)
def errB (b : Bool) : Int := if b then 0 else 1

set_option maxRecDepth 100000 in
set_option maxHeartbeats 400000 in
theorem check_any (l : List Ins) (pv : Value) (w : World) (h : RdP w pv l) :
    Calls Tryd.prog 22 #[pv] w fun e w' => e = .returned (.int .i64 (errB (checkB l))) ∧ Below w.heap.size w w' := by
  have H := hid h
  obtain ⟨ad, cap, rfl⟩ : ∃ ad cap, pv = .slice ad l.length cap := by
    obtain ⟨svs, h0, _⟩ := h
    rcases h0 with ⟨rfl, h9⟩ | ⟨b, off, cap, rfl, _⟩
    · exact ⟨none, 0, by rw [h9]⟩
    · exact ⟨_, cap, rfl⟩
  clear h
  by_cases hl : 100 < l.length
  · go_enter Tryd.func22, Tryd.ntmps22
    go_wp2_with fail
    go_ret
    exact ⟨ret_int64 (by simp [errB, checkB]; omega), (Below.refl _ _).alloc (Nat.le_refl _) _⟩
  · cases hany : l.any (fun i => !goodB i l.length)
    all_goals
      have Ha := hid hany
      clear hany
      go_enter Tryd.func22, Tryd.ntmps22
      go_wp2_with fail
      refine (containsIns_any 38 enter_checkPred (.pointer (some ⟨w.heap.size, 0, none⟩)) (fun i => !goodB i l.length) l _ _ (H.out.below ((Below.refl _ _).alloc (Nat.le_refl _) _)) ?_).mono ?_
      · intro k hk sv w' hb _ hr
        exact checkPred_any _ sv w.heap.size l.length cap ad w' hr (by rw [hb.cell (p := ⟨w.heap.size, 0, none⟩) (by simp)]; simp)
      rintro e w1 ⟨rfl, hb1⟩
      rw [Ha.out]
      go_wp2_with fail
      go_ret
      exact ⟨ret_int64 (by simp [errB, checkB, Ha.out] <;> omega), ((Below.refl _ _).alloc (Nat.le_refl _) _).trans (hb1.mono (by simp))⟩
end Go.Proofs.YtdjknobolflldaaDoor
