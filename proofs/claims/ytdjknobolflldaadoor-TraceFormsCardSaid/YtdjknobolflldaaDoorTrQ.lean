/- What the rows' lists and the world's shape give the walks of package trace; a start that meets the lists. -/
import Derived.Test.YtdjknobolflldaaDoorTrP
import Derived.Test.YtdjknobolflldaaDoorCards
import Derived.Test.YtdjknobolflldaaDoorTie
import Derived.ProofKit
import Derived.OpenShut
import Derived.LaidMore
import Derived.Deep.DeepLaidRun
import Derived.Deep.DeepHandedRow
import Derived.Deep.DeepWitnessRowRef
namespace Go.Proofs.YtdjknobolflldaaDoor
open Go.ChangeShapes Go.WideShapes Go.ChangeAt Go.RowKit

theorem trOwn : ownKnob Tryd.prog.godebug = none := by kernel_rfl
theorem gSpaceTy : (Tryd.prog.globals[0]?).map (·.type) = some 66 := by kernel_rfl
theorem cellsSp : Tryd.prog.cellsOf 66 = 256 := by kernel_rfl
theorem cellsB : Tryd.prog.cellsOf 5 = 1 := by kernel_rfl
theorem gPowTy : (Tryd.prog.globals[3]?).map (·.type) = some 142 := by kernel_rfl
theorem cellsPow : Tryd.prog.cellsOf 142 = 20 := by kernel_rfl
theorem cellsU64 : Tryd.prog.cellsOf 75 = 1 := by kernel_rfl
theorem tab_of_reads {P : Program} {W : World} {name : String} {k : IntKind} {zs : List Int} {g : Nat} {t e : TypeId} {n : Nat}
    (hg : P.globalNamed name = some g) (hty : (P.globals[g]?).map (·.type) = some t) (ht : P.underlying t = some (.array n e)) (he : P.underlying e = some (.int k)) (hce : P.cellsOf e = 1) (hct : P.cellsOf t = n)
    (h : Lib.VarReads P W name (Lib.tabData k zs)) : Lib.TabIs P W name k zs := by
  obtain ⟨g', t', cs, fuel, p, hg', ht', hvar, hd⟩ := h
  obtain rfl := Option.some.inj (hg.symm.trans hg')
  obtain rfl := Option.some.inj (hty.symm.trans ht')
  unfold Lib.TabIs
  rw [hvar, ← Lib.cells_of_tab ht he hce hct hd]
theorem gSyn : Tryd.prog.globalNamed "strconv.ErrSyntax" = some 4 := by kernel_rfl
theorem gRng : Tryd.prog.globalNamed "strconv.ErrRange" = some 5 := by kernel_rfl
theorem gSynTy : (Tryd.prog.globals[4]?).map (·.type) = some 58 := by kernel_rfl
theorem gRngTy : (Tryd.prog.globals[5]?).map (·.type) = some 58 := by kernel_rfl
theorem err_of_reads {W : World} {name : String} {g : Nat} {nm : String} {d : DataW Unit} (hg : Tryd.prog.globalNamed name = some g) (hty : (Tryd.prog.globals[g]?).map (·.type) = some 58)
    (h : Lib.VarReads Tryd.prog W name (.iface nm d)) : ∃ ev, W.cell? ⟨g, 0, none⟩ = some ev ∧ (ev = .nilIface ∨ ∃ te pe, ev = .iface te pe) := by
  obtain ⟨g', t', cs, fuel, p, hg', ht', hvar, hd⟩ := h
  obtain rfl := Option.some.inj (hg.symm.trans hg')
  obtain rfl := Option.some.inj (hty.symm.trans ht')
  obtain ⟨_, u, v, hcs, _⟩ := iface_of_trod Tryd.underlying58 hd
  have := World.var?_cell hg hvar 0
  rw [Array.eq_one_of_toList hcs] at this
  exact ⟨.iface u v, by rw [this]; rfl, .inr ⟨u, v, rfl⟩⟩

set_option maxRecDepth 100000 in
theorem tabs_of {W : World} (h : laidMetH Tryd.prog Rows.traceTellsRow.laid W) (hsh : W.ShapedOpen Tryd.prog) : Tabs W where
  space := tab_of_reads gSpace' gSpaceTy Tryd.underlying66 Tryd.underlying5 cellsB cellsSp (Lib.laidMet.reads (l := Rows.traceTellsRow.laid) h (.tail _ (.tail _ (.tail _ (.tail _ (.tail _ (.tail _ (.tail _ (.head _)))))))))
  pow := tab_of_reads gPow gPowTy Tryd.underlying142 Tryd.underlying75 cellsU64 cellsPow (Lib.laidMet.reads (l := Rows.traceTellsRow.laid) h (.tail _ (.tail _ (.head _))))
  maxLen := Tryd.laysM146.s1_3 W hsh
  syn := err_of_reads gSyn gSynTy (Lib.laidMet.reads (l := Rows.traceTellsRow.laid) h (.tail _ (.tail _ (.tail _ (.tail _ (.tail _ (.head _)))))))
  rng := err_of_reads gRng gRngTy (Lib.laidMet.reads (l := Rows.traceTellsRow.laid) h (.tail _ (.tail _ (.tail _ (.tail _ (.head _))))))
/-- The start: what the program's own door lays; Go's own table utf8.first besides. -/
noncomputable def trWorld (os : Os) : World :=
  let w0 := World.doorLaid Tryd.prog 96 os
  { w0 with heap := w0.heap.modify 8 fun
      | .cells _ t frozen => .cells (Lib.firstTab.map (Value.int .u8)).toArray t frozen
      | o => o }
theorem tr_met (os : Os) (args : Array Value) : laidMetH Tryd.prog Rows.traceTellsRow.laid ((trWorld os).forCall (fun _ _ => 0) ⟨#[], args, []⟩).memory :=
  laidMet_of_run3 8 (by kernel_rfl) (by kernel_rfl) (by kernel_rfl)
end Go.Proofs.YtdjknobolflldaaDoor
