/- The closed facts of the row, one by one. -/
import Derived.Test.YtojbfpfkkcdlhaaGreatRows
import Derived.WalkKit
import Derived.ProofKit
import Derived.OpenShut
namespace Go.Proofs.YtojbfpfkkcdlhaaGreat.hostValid
set_option linter.unusedVariables false
set_option linter.unusedSimpArgs false
open Go.ChangeShapes Go.WideShapes Go.ChangeAt Go.RowKit

theorem k1 : (Rows.hostValidUptoRow.wf (OpenSpec.ofChange (Rows.OpenSpec.upto Rows.hostValidSpec).bare)) = true := by kernel_rfl
theorem k2 : (laidOutB Tryz.prog) = true := by kernel_rfl
theorem k3 : (mapsRowed Tryz.prog) = true := by kernel_rfl
theorem k4 : (Tryz.f5.params.all (Tryz.prog.readableRec ·)) = true := by kernel_rfl
theorem k5 : (namedTie Tryz.prog Rows.hostValidUptoRow.named (Rows.OpenSpec.upto Rows.hostValidSpec).bare.vars) = true := by kernel_rfl
theorem k6 : ((Rows.hostValidUptoRow.stops == [])) = true := by kernel_rfl
theorem k7 : ((Tryz.prog.stops == [])) = true := by kernel_rfl
theorem k8 : ((Rows.hostValidUptoRow.knobs == [])) = true := by kernel_rfl
theorem k9 : ((Tryz.prog.stopKnobs == [])) = true := by kernel_rfl
theorem k10 : ((Rows.hostValidUptoRow.inPlace == Tryz.prog.inPlace 5)) = true := by kernel_rfl
theorem k11 : ((Rows.hostValidUptoRow.unfollowed == Tryz.prog.unfollowed 5)) = true := by kernel_rfl
theorem k12 : ((Rows.hostValidUptoRow.recurses == Tryz.prog.recurses 5)) = true := by kernel_rfl
theorem k13 : ((Rows.hostValidUptoRow.named == Tryz.prog.varsNamed 5)) = true := by kernel_rfl
theorem k14 : ((Rows.hostValidUptoRow.maps == (Tryz.f5.params.toList ++ (Rows.OpenSpec.upto Rows.hostValidSpec).bare.plain.varTypes Tryz.prog).any (Tryz.prog.mapsRec ·))) = true := by kernel_rfl
theorem k15 : ((Rows.hostValidUptoRow.ifaces == (Tryz.f5.params.toList ++ (Rows.OpenSpec.upto Rows.hostValidSpec).bare.plain.varTypes Tryz.prog).any (Tryz.prog.ifacesRec ·))) = true := by kernel_rfl
theorem k16 : ((Rows.hostValidUptoRow.mapsOut == Tryz.prog.mapsAmong Tryz.f5.resultTypes.toList)) = true := by kernel_rfl
theorem k17 : ((Rows.hostValidUptoRow.loops == (Tryz.f5.params.toList ++ (Rows.OpenSpec.upto Rows.hostValidSpec).bare.plain.varTypes Tryz.prog).any (Tryz.prog.loopsFrom ·))) = true := by kernel_rfl
theorem k18 : ((Rows.hostValidUptoRow.wideKeys == (Tryz.f5.params.toList ++ (Rows.OpenSpec.upto Rows.hostValidSpec).bare.plain.varTypes Tryz.prog ++ Tryz.f5.resultTypes.toList).any (Tryz.prog.wideKeysFrom ·))) = true := by kernel_rfl
theorem k19 : ((Rows.OpenSpec.upto Rows.hostValidSpec).bare.vars.all (Tryz.prog.varReadable ·)) = true := by kernel_rfl
theorem k20 : (Tryz.f5.resultTypes.all (fun t => Tryz.prog.readableRec t && decide (t < Tryz.prog.types.size))) = true := by kernel_rfl
theorem k21 : ((Rows.hostValidUptoRow.ifacesOut == Tryz.f5.resultTypes.toList.any (Tryz.prog.ifacesRec ·))) = true := by kernel_rfl
theorem k22 : ((Rows.hostValidUptoRow.loopsOut == Tryz.f5.resultTypes.toList.any (Tryz.prog.loopsFrom ·))) = true := by kernel_rfl
theorem k23 : ((Rows.hostValidUptoRow.plainKeys == Tryz.prog.plainKeys)) = true := by kernel_rfl
theorem k24 : (Rows.hostValidUptoRow.shortTexts.isNone) = true := by kernel_rfl
theorem k25 : (Tryz.prog.stopsHeard) = true := by kernel_rfl
theorem k26 : (Tryz.prog.mayEnter) = true := by kernel_rfl
theorem k27 : ((Rows.hostValidUptoRow.lifted == Tryz.prog.liftsFinal)) = true := by kernel_rfl
theorem k28 : ((Tryz.prog.make == some Rows.hostValidUptoRow.make)) = true := by kernel_rfl
theorem k29 : ((Rows.hostValidUptoRow.kinds == (if Rows.hostValidUptoRow.domain.isEmpty then [] else Tryz.f5.params.toList.map fun t => match Tryz.prog.underlying t with | some (.int k) => some k | _ => none))) = true := by kernel_rfl
theorem k30 : ((Rows.hostValidUptoRow.pinned == Rows.hostValidUptoRow.pinnedBy)) = true := by kernel_rfl
theorem k31 : ((Rows.hostValidUptoRow.veiled == (Tryz.f5.params.toList ++ (Rows.OpenSpec.upto Rows.hostValidSpec).bare.plain.varTypes Tryz.prog ++ Tryz.f5.resultTypes.toList).any (Tryz.prog.veiledRec ·))) = true := by kernel_rfl
theorem k32 : (Rows.hostValidUptoRow.veiledFits Tryz.prog Tryz.f5.params.toList (Tryz.f5.params.toList ++ (Rows.OpenSpec.upto Rows.hostValidSpec).bare.plain.varTypes Tryz.prog ++ Tryz.f5.resultTypes.toList)) = true := by kernel_rfl
theorem and_mk {a b : Bool} (h : a = true) (k : b = true) : (a && b) = true := by rw [h, k]; rfl
end Go.Proofs.YtojbfpfkkcdlhaaGreat.hostValid
