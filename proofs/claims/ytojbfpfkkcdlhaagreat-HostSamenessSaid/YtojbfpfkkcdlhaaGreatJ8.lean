/- The closed facts of the row, one by one. -/
import Derived.Test.YtojbfpfkkcdlhaaGreatRows
import Derived.WalkKit
import Derived.ProofKit
import Derived.OpenShut
namespace Go.Proofs.YtojbfpfkkcdlhaaGreat.hostSameness
set_option linter.unusedVariables false
set_option linter.unusedSimpArgs false
open Go.ChangeShapes Go.WideShapes Go.ChangeAt Go.RowKit

theorem k1 : (Rows.hostSamenessRow.wf (OpenSpec.ofChange Rows.hostSamenessSpec)) = true := by kernel_rfl
theorem k2 : (laidOutB Tryz.prog) = true := by kernel_rfl
theorem k3 : (mapsRowed Tryz.prog) = true := by kernel_rfl
theorem k4 : (Tryz.f8.params.all (Tryz.prog.readableRec ·)) = true := by kernel_rfl
theorem k5 : (namedTie Tryz.prog Rows.hostSamenessRow.named Rows.hostSamenessSpec.vars) = true := by kernel_rfl
theorem k6 : ((Rows.hostSamenessRow.stops == [])) = true := by kernel_rfl
theorem k7 : ((Tryz.prog.stops == [])) = true := by kernel_rfl
theorem k8 : ((Rows.hostSamenessRow.knobs == [])) = true := by kernel_rfl
theorem k9 : ((Tryz.prog.stopKnobs == [])) = true := by kernel_rfl
theorem k10 : ((Rows.hostSamenessRow.inPlace == Tryz.prog.inPlace 8)) = true := by kernel_rfl
theorem k11 : ((Rows.hostSamenessRow.unfollowed == Tryz.prog.unfollowed 8)) = true := by kernel_rfl
theorem k12 : ((Rows.hostSamenessRow.recurses == Tryz.prog.recurses 8)) = true := by kernel_rfl
theorem k13 : ((Rows.hostSamenessRow.named == Tryz.prog.varsNamed 8)) = true := by kernel_rfl
theorem k14 : ((Rows.hostSamenessRow.maps == (Tryz.f8.params.toList ++ Rows.hostSamenessSpec.plain.varTypes Tryz.prog).any (Tryz.prog.mapsRec ·))) = true := by kernel_rfl
theorem k15 : ((Rows.hostSamenessRow.ifaces == (Tryz.f8.params.toList ++ Rows.hostSamenessSpec.plain.varTypes Tryz.prog).any (Tryz.prog.ifacesRec ·))) = true := by kernel_rfl
theorem k16 : ((Rows.hostSamenessRow.mapsOut == Tryz.prog.mapsAmong Tryz.f8.resultTypes.toList)) = true := by kernel_rfl
theorem k17 : ((Rows.hostSamenessRow.loops == (Tryz.f8.params.toList ++ Rows.hostSamenessSpec.plain.varTypes Tryz.prog).any (Tryz.prog.loopsFrom ·))) = true := by kernel_rfl
theorem k18 : ((Rows.hostSamenessRow.wideKeys == (Tryz.f8.params.toList ++ Rows.hostSamenessSpec.plain.varTypes Tryz.prog ++ Tryz.f8.resultTypes.toList).any (Tryz.prog.wideKeysFrom ·))) = true := by kernel_rfl
theorem k19 : (Rows.hostSamenessSpec.vars.all (Tryz.prog.varReadable ·)) = true := by kernel_rfl
theorem k20 : (Tryz.f8.resultTypes.all (fun t => Tryz.prog.readableRec t && decide (t < Tryz.prog.types.size))) = true := by kernel_rfl
theorem k21 : ((Rows.hostSamenessRow.ifacesOut == Tryz.f8.resultTypes.toList.any (Tryz.prog.ifacesRec ·))) = true := by kernel_rfl
theorem k22 : ((Rows.hostSamenessRow.loopsOut == Tryz.f8.resultTypes.toList.any (Tryz.prog.loopsFrom ·))) = true := by kernel_rfl
theorem k23 : ((Rows.hostSamenessRow.plainKeys == Tryz.prog.plainKeys)) = true := by kernel_rfl
theorem k24 : (Rows.hostSamenessRow.shortTexts.isNone) = true := by kernel_rfl
theorem k25 : (Tryz.prog.stopsHeard) = true := by kernel_rfl
theorem k26 : (Tryz.prog.mayEnter) = true := by kernel_rfl
theorem k27 : ((Rows.hostSamenessRow.lifted == Tryz.prog.liftsFinal)) = true := by kernel_rfl
theorem k28 : ((Tryz.prog.make == some Rows.hostSamenessRow.make)) = true := by kernel_rfl
theorem k29 : ((Rows.hostSamenessRow.kinds == (if Rows.hostSamenessRow.domain.isEmpty then [] else Tryz.f8.params.toList.map fun t => match Tryz.prog.underlying t with | some (.int k) => some k | _ => none))) = true := by kernel_rfl
theorem k30 : ((Rows.hostSamenessRow.pinned == Rows.hostSamenessRow.pinnedBy)) = true := by kernel_rfl
theorem k31 : ((Rows.hostSamenessRow.veiled == (Tryz.f8.params.toList ++ Rows.hostSamenessSpec.plain.varTypes Tryz.prog ++ Tryz.f8.resultTypes.toList).any (Tryz.prog.veiledRec ·))) = true := by kernel_rfl
theorem k32 : (Rows.hostSamenessRow.veiledFits Tryz.prog Tryz.f8.params.toList (Tryz.f8.params.toList ++ Rows.hostSamenessSpec.plain.varTypes Tryz.prog ++ Tryz.f8.resultTypes.toList)) = true := by kernel_rfl
theorem and_mk {a b : Bool} (h : a = true) (k : b = true) : (a && b) = true := by rw [h, k]; rfl
end Go.Proofs.YtojbfpfkkcdlhaaGreat.hostSameness
