/- HostSameness returns true for every input, and its arguments read as they did: the statement. -/
import Derived.Test.YtojbfpfkkcdlhaaGreatF8
import Derived.WalkKit
namespace Go.Proofs.YtojbfpfkkcdlhaaGreat.hostSameness
set_option linter.unusedVariables false
set_option linter.unusedSimpArgs false
open Go.ChangeShapes Go.WideShapes Go.ChangeAt Go.RowKit Go.Av

set_option maxRecDepth 100000 in
theorem lifted (os : Os) (started : os.Started) (H : Type) (enc : TypeId × Value → H) :
    ReturnsInHanded {} Tryz.checked os 8 .any (Rows.hostSamenessSpec.pre6 enc Tryz.prog Tryz.f8 Rows.hostSamenessRow.domain false) (Rows.hostSamenessSpec.post enc Tryz.prog Tryz.f8 false true false false) := by
  refine returnsInHanded_of_change (C := Tryz.checked) own started (by kernel_rfl) Tryz.func8
    (ChangeSpec.witness6 (enc := enc) (C := Tryz.checked) false ⟨#[], #[.agg #[.slice none 0 0, .slice none 0 0, .slice none 0 0], .agg #[.slice none 0 0, .slice none 0 0, .slice none 0 0]], []⟩ 8 (by kernel_rfl) (by kernel_rfl) (by kernel_rfl) (by kernel_rfl)) ?_
  intro W base args ds gs before hval hW _ _
  exact contract H enc W base args ds gs before hval hW

end Go.Proofs.YtojbfpfkkcdlhaaGreat.hostSameness
