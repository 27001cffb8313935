/- HostSameness returns true for every input, and its arguments read as they did: the statement. -/
import Derived.Test.YtojbfpfkkcdlhaaGreatG8a
import Derived.Test.YtojbfpfkkcdlhaaGreatJ8
import Derived.WalkKit
namespace Go.Proofs.YtojbfpfkkcdlhaaGreat.hostSameness
set_option linter.unusedVariables false
set_option linter.unusedSimpArgs false
open Go.ChangeShapes Go.WideShapes Go.ChangeAt Go.RowKit Go.Av

set_option maxRecDepth 100000 in
theorem closed : joinedFacts Tryz.prog 8 Tryz.f8 Rows.hostSamenessSpec Rows.hostSamenessRow = true := by
  unfold joinedFacts
  exact (and_mk (and_mk (and_mk (and_mk (and_mk (and_mk (and_mk (and_mk (and_mk (and_mk (and_mk (and_mk (and_mk (and_mk (and_mk (and_mk (and_mk (and_mk (and_mk (and_mk (and_mk (and_mk (and_mk (and_mk (and_mk (and_mk (and_mk (and_mk (and_mk (and_mk (and_mk k1 k2) k3) k4) k5) k6) k7) k8) k9) k10) k11) k12) k13) k14) k15) k16) k17) k18) k19) k20) k21) k22) k23) k24) k25) k26) k27) k28) k29) k30) k31) k32)

theorem over : Rows.hostSamenessRow.holds Tryz.pinned (OpenSpec.ofChange Rows.hostSamenessSpec) :=
  OpenClaim.holds_of_wide 8 Tryz.f8 rfl rfl rfl rfl rfl rfl rfl ⟨rfl, rfl, rfl, rfl, rfl⟩ rfl rfl rfl rfl rfl (by kernel_rfl) Tryz.func8 closed
    (of_decide_eq_true (by kernel_rfl)) (by unfold Func.isWrapper; first | (rw [if_pos (by decide +kernel)]; kernel_rfl) | (rw [if_neg (by decide +kernel)]; exact ⟨rfl, rfl⟩))
    (fun os started H enc _ => lifted os started H enc)

theorem proved : Rows.HostSamenessSaid :=
  over
end Go.Proofs.YtojbfpfkkcdlhaaGreat.hostSameness
#print axioms Go.Proofs.YtojbfpfkkcdlhaaGreat.hostSameness.proved
