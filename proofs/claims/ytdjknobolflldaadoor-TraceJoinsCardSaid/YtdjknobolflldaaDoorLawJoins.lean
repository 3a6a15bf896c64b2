/- TraceJoins (tarpaulinlaw21): for every argument the law returns true and changes nothing; the card, over the variables as the program's text lays them. -/
import Derived.Test.YtdjknobolflldaaDoorTrQ
import Derived.Test.YtdjknobolflldaaDoorTrU
namespace Go.Proofs.YtdjknobolflldaaDoor
open Go.ChangeShapes Go.WideShapes Go.ChangeAt Go.RowKit

theorem trLaidOut : laidOutB Tryd.prog = true := by kernel_rfl
theorem trArg {H : Type} {enc : TypeId × Value → H} {W W' : World} {v : Value} {d : DataW H} {ps : List MemPlace} (h : DataW.Trod enc Tryd.prog W 0 (fun _ => true) true 25 v d ps) (hb : Below W.heap.size W W') (hlt : ∀ x ∈ ps, x.block < W.heap.size) :
    DataW.Trod enc Tryd.prog W' 0 (fun b => decide (b < W.heap.size)) true 25 v d ps :=
  Below.trod trLaidOut (by kernel_rfl) (of_decide_eq_true (by kernel_rfl)) h hb hlt
theorem trCap {H : Type} {enc : TypeId × Value → H} {W : World} {v : Value} {d : DataW H} {p : List MemPlace} (h : DataW.Trod enc Tryd.prog W 0 (fun _ => true) true 25 v d p) : ∀ a n c, v = .slice a n c → n ≤ c := by
  intro a n c hv
  subst hv
  obtain ⟨fuel, h⟩ := h
  rcases Go.Deep.open_slice Tryd.underlying25 h with ⟨h0, _⟩ | ⟨a', len', cap', m, k, D, Pl, hc, _, hl, hm, hmm, _, hx⟩
  · have h1 : Value.slice a n c = .slice none 0 0 := List.head_eq_of_cons_eq h0
    cases h1
    exact Nat.le_refl _
  · have h1 : Value.slice a n c = .slice (some a') len' cap' := List.head_eq_of_cons_eq hc
    cases h1
    exact hl

set_option maxRecDepth 100000 in
theorem traceJoins_contract (H : Type) (enc : TypeId × Value → H) (W : World) (base : Nat) (args : Array Value) (ds gs : List (DataW H)) (before : List MemPlace)
    (hval : ∀ (j : Nat) t v, Tryd.f8.params[j]? = some t → args[j]? = some v → Value.okWide Tryd.prog W .any base t v)
    (hW : DataW.Whole enc Tryd.prog Tryd.f8.params.toList Rows.traceJoinsSpec.vars false W args.toList ds gs before) (hL : laidMetH Tryd.prog Rows.traceJoinsRow.laid W) (hsh : W.ShapedOpen Tryd.prog) :
    Calls Tryd.prog 8 args W fun e W' => ∃ v, e = .returned v ∧ Rows.traceJoinsSpec.post enc Tryd.prog Tryd.f8 false true false false W args v W' := by
  have hW' := hW
  obtain ⟨p, q, hA0, hV, rfl, hfz, hnd⟩ := hW
  have hA : DataW.TrodAll enc Tryd.prog W 0 (fun _ => true) true Tryd.f8.params.toList args.toList ds p := hA0
  have hlt := hA.lt
  rw [Tryd.params8] at hA hval
  obtain ⟨v0, vs0, d0, ds0, p0, q0, hargs, rfl, rfl, h0, r0⟩ := trodAll_cons hA
  obtain ⟨v1, vs1, d1, ds1, p1, q1, hargs1, rfl, rfl, h1, r1⟩ := trodAll_cons r0
  obtain ⟨rfl, rfl, rfl⟩ := trodAll_nil r1
  subst hargs1
  obtain rfl : args = #[v0, v1] := by cases args; simp_all
  obtain ⟨rfl, rfl⟩ := trodVars_none hV
  obtain ⟨l0, hl0, el0⟩ := evs_open (hval 0 25 v0 rfl rfl) h0
  obtain ⟨l1, hl1, el1⟩ := evs_open (hval 1 25 v1 rfl rfl) h1
  clear hA0
  simp only [List.append_nil] at hW'
  refine (traceJoins_any l0 l1 hl0 hl1 v0 v1 W el0 el1 (tabs_of hL hsh)).mono fun e W' ⟨he, hb⟩ => ?_
  subst he
  exact ⟨_, rfl, _, _, _, [], _, [], hW', trodAll_cons_mk (shut_bool Tryd.underlying4 _) trodAll_mk0, (trodAll_cons_mk (trArg h0 hb fun x hx => hlt x (by simp [hx])) (trodAll_cons_mk (trArg h1 hb fun x hx => hlt x (by simp [hx])) trodAll_mk0)), rfl, hb.frame _, fun h => by cases h⟩

theorem traceJoins_reads (os : Os) {H : Type} (enc : TypeId × Value → H) : ∃ places, DataW.whole enc Tryd.prog ((trWorld os).forCall (fun _ _ => 0) ⟨#[], #[.slice none 0 0, .slice none 0 0], []⟩).memory Tryd.f8.params.toList Rows.traceJoinsSpec.vars false #[Value.slice none 0 0, Value.slice none 0 0].toList 8 = some ([.nil, .nil], [], places) :=
  ⟨[], by kernel_rfl⟩

set_option maxRecDepth 100000 in
theorem traceJoins_lifted (os : Os) (started : os.Started) (H : Type) (enc : TypeId × Value → H) (F : Stop.Interp) :
    ReturnsInHanded {} Tryd.checked os 8 .any ((OpenSpec.ofChange Rows.traceJoinsSpec).preRow enc Tryd.prog Tryd.f8 Rows.traceJoinsRow.domain false Rows.traceJoinsRow.laid) (((OpenSpec.ofChange Rows.traceJoinsSpec).at F).post enc Tryd.prog Tryd.f8 false true false false) := by
  obtain ⟨places, hx⟩ := traceJoins_reads os enc
  refine returnsInHanded_of_row (C := Tryd.checked) (s := OpenSpec.ofChange Rows.traceJoinsSpec) trOwn started (by kernel_rfl) Tryd.func8
    (witness_row_atRef (enc := enc) (C := Tryd.checked) false (trWorld os) #[.slice none 0 0, .slice none 0 0] rfl (by kernel_rfl) (by kernel_rfl) (by kernel_rfl)
      (OpenSpec.preRow_of_cond 8 hx (by kernel_rfl) (fun k hk => by cases hk) (by kernel_rfl) (tr_met os _))) ?_
  intro W base args ds gs before hval hW _ _ _ hL hsh _
  exact traceJoins_contract H enc W base args ds gs before hval hW hL hsh

theorem traceJoins_said : Rows.TraceJoinsSaid :=
  OpenClaim.holds_of_cond 8 Tryd.f8 rfl rfl rfl rfl rfl rfl rfl ⟨rfl, rfl, rfl, rfl, rfl⟩ rfl rfl rfl rfl rfl (by kernel_rfl) Tryd.func8 (by kernel_rfl)
    (of_decide_eq_true (by kernel_rfl)) (by unfold Func.isWrapper; first | (rw [if_pos (by decide +kernel)]; kernel_rfl) | (rw [if_neg (by decide +kernel)]; exact ⟨rfl, rfl⟩))
    (fun os started H enc _ F => by rw [OpenClaim.pre_eq_preRow]; exact traceJoins_lifted os started H enc F)

theorem traceJoins_plain (f : FuncId) (fn : Func) (hf : Tryd.pinned.checked.prog.funcNamed "tarpaulin/tarpaulinlaw21.TraceJoins" = some f) (hfn : Tryd.pinned.checked.prog.funcs[f]? = some fn) :
    true = Tryd.pinned.checked.prog.looks [] ∧ ∀ (j : Nat) t, fn.params[j]? = some t → Tryd.pinned.checked.prog.wantsStandIn t = false := by
  obtain rfl : f = 8 := Option.some.inj ((show Tryd.prog.funcNamed "tarpaulin/tarpaulinlaw21.TraceJoins" = some 8 by kernel_rfl).symm.trans hf) |>.symm
  obtain rfl : fn = Tryd.f8 := (Option.some.inj (Tryd.func8.symm.trans hfn)).symm
  refine ⟨by kernel_rfl, fun j t ht => ?_⟩
  rw [Tryd.params8] at ht
  obtain rfl : t = 25 := by have := Array.mem_of_getElem? ht; simpa using this
  exact (show Tryd.prog.wantsStandIn 25 = false by kernel_rfl)

/-- The card. -/
theorem traceJoins_card : Rows.TraceJoinsCardSaid :=
  Claim7.holds_tied_plain_at .later [] _ _ _ _ traceJoins_said (fun _ h => by cases h) (by kernel_rfl) (fun _ h => by cases h) traceJoins_row_tie rfl ⟨rfl, rfl⟩ (by kernel_rfl) rfl traceJoins_plain (by kernel_rfl)
#print axioms traceJoins_card
end Go.Proofs.YtdjknobolflldaaDoor
