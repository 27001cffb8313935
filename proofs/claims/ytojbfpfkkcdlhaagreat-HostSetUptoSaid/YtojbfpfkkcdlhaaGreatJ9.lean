/- The closed facts of the row, one by one. -/
import Derived.Test.YtojbfpfkkcdlhaaGreatRows
import Derived.WalkKit
import Derived.ProofKit
import Derived.OpenShut
namespace Go.Proofs.YtojbfpfkkcdlhaaGreat.hostSet
set_option linter.unusedVariables false
set_option linter.unusedSimpArgs false
open Go.ChangeShapes Go.WideShapes Go.ChangeAt Go.RowKit

theorem k1 : (Rows.hostSetUptoRow.wf (OpenSpec.ofChange (Rows.OpenSpec.upto Rows.hostSetSpec).bare)) = true := by kernel_rfl
theorem k2 : (laidOutB Tryz.prog) = true := by kernel_rfl
theorem k3 : (mapsRowed Tryz.prog) = true := by kernel_rfl
theorem k4 : (Tryz.f9.params.all (Tryz.prog.readableRec ·)) = true := by kernel_rfl
theorem k5 : (namedTie Tryz.prog Rows.hostSetUptoRow.named (Rows.OpenSpec.upto Rows.hostSetSpec).bare.vars) = true := by kernel_rfl
theorem k6 : ((Rows.hostSetUptoRow.stops == [])) = true := by kernel_rfl
theorem k7 : ((Tryz.prog.stops == [])) = true := by kernel_rfl
theorem k8 : ((Rows.hostSetUptoRow.knobs == [])) = true := by kernel_rfl
theorem k9 : ((Tryz.prog.stopKnobs == [])) = true := by kernel_rfl
theorem k10 : ((Rows.hostSetUptoRow.inPlace == Tryz.prog.inPlace 9)) = true := by kernel_rfl
theorem k11 : ((Rows.hostSetUptoRow.unfollowed == Tryz.prog.unfollowed 9)) = true := by kernel_rfl
theorem k12 : ((Rows.hostSetUptoRow.recurses == Tryz.prog.recurses 9)) = true := by kernel_rfl
theorem k13 : ((Rows.hostSetUptoRow.named == Tryz.prog.varsNamed 9)) = true := by kernel_rfl
theorem k14 : ((Rows.hostSetUptoRow.maps == (Tryz.f9.params.toList ++ (Rows.OpenSpec.upto Rows.hostSetSpec).bare.plain.varTypes Tryz.prog).any (Tryz.prog.mapsRec ·))) = true := by kernel_rfl
theorem k15 : ((Rows.hostSetUptoRow.ifaces == (Tryz.f9.params.toList ++ (Rows.OpenSpec.upto Rows.hostSetSpec).bare.plain.varTypes Tryz.prog).any (Tryz.prog.ifacesRec ·))) = true := by kernel_rfl
theorem k16 : ((Rows.hostSetUptoRow.mapsOut == Tryz.prog.mapsAmong Tryz.f9.resultTypes.toList)) = true := by kernel_rfl
theorem k17 : ((Rows.hostSetUptoRow.loops == (Tryz.f9.params.toList ++ (Rows.OpenSpec.upto Rows.hostSetSpec).bare.plain.varTypes Tryz.prog).any (Tryz.prog.loopsFrom ·))) = true := by kernel_rfl
theorem k18 : ((Rows.hostSetUptoRow.wideKeys == (Tryz.f9.params.toList ++ (Rows.OpenSpec.upto Rows.hostSetSpec).bare.plain.varTypes Tryz.prog ++ Tryz.f9.resultTypes.toList).any (Tryz.prog.wideKeysFrom ·))) = true := by kernel_rfl
theorem k19 : ((Rows.OpenSpec.upto Rows.hostSetSpec).bare.vars.all (Tryz.prog.varReadable ·)) = true := by kernel_rfl
theorem k20 : (Tryz.f9.resultTypes.all (fun t => Tryz.prog.readableRec t && decide (t < Tryz.prog.types.size))) = true := by kernel_rfl
theorem k21 : ((Rows.hostSetUptoRow.ifacesOut == Tryz.f9.resultTypes.toList.any (Tryz.prog.ifacesRec ·))) = true := by kernel_rfl
theorem k22 : ((Rows.hostSetUptoRow.loopsOut == Tryz.f9.resultTypes.toList.any (Tryz.prog.loopsFrom ·))) = true := by kernel_rfl
theorem k23 : ((Rows.hostSetUptoRow.plainKeys == Tryz.prog.plainKeys)) = true := by kernel_rfl
theorem k24 : (Rows.hostSetUptoRow.shortTexts.isNone) = true := by kernel_rfl
theorem k25 : (Tryz.prog.stopsHeard) = true := by kernel_rfl
theorem k26 : (Tryz.prog.mayEnter) = true := by kernel_rfl
theorem k27 : ((Rows.hostSetUptoRow.lifted == Tryz.prog.liftsFinal)) = true := by kernel_rfl
theorem k28 : ((Tryz.prog.make == some Rows.hostSetUptoRow.make)) = true := by kernel_rfl
theorem k29 : ((Rows.hostSetUptoRow.kinds == (if Rows.hostSetUptoRow.domain.isEmpty then [] else Tryz.f9.params.toList.map fun t => match Tryz.prog.underlying t with | some (.int k) => some k | _ => none))) = true := by kernel_rfl
theorem k30 : ((Rows.hostSetUptoRow.pinned == Rows.hostSetUptoRow.pinnedBy)) = true := by kernel_rfl
theorem k31 : ((Rows.hostSetUptoRow.veiled == (Tryz.f9.params.toList ++ (Rows.OpenSpec.upto Rows.hostSetSpec).bare.plain.varTypes Tryz.prog ++ Tryz.f9.resultTypes.toList).any (Tryz.prog.veiledRec ·))) = true := by kernel_rfl
theorem k32 : (Rows.hostSetUptoRow.veiledFits Tryz.prog Tryz.f9.params.toList (Tryz.f9.params.toList ++ (Rows.OpenSpec.upto Rows.hostSetSpec).bare.plain.varTypes Tryz.prog ++ Tryz.f9.resultTypes.toList)) = true := by kernel_rfl
theorem and_mk {a b : Bool} (h : a = true) (k : b = true) : (a && b) = true := by rw [h, k]; rfl
end Go.Proofs.YtojbfpfkkcdlhaaGreat.hostSet
