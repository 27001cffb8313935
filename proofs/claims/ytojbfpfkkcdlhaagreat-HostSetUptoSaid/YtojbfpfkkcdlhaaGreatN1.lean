/- What the model's entry for looking for a byte in a string gives, through the function that calls it. -/
import Derived.Test.YtojbfpfkkcdlhaaGreatProg
import Derived.WalkKit
import Derived.Lib.Bytealg
import Derived.Lib.Walk
namespace Go.Av
set_option linter.unusedVariables false
set_option linter.unusedSimpArgs false
open Go.Proofs Go.RowKit Go.Lib

set_option maxRecDepth 100000 in
theorem calls377 (s : ByteArray) (c : Int) (w : World) :
    Calls Tryz.prog 377 #[.string s, .int .u8 c] w fun e w' => e = .returned (.int .i64 (Go.Lib.indexByte s.data.toList c.toNat.toUInt8)) ∧ w' = w := by
  go_enter Tryz.func377, Tryz.ntmps377
  go_wp2
  rw [run_callFunc_extern Tryz.func387 (by kernel_rfl) (by kernel_rfl) (by kernel_rfl) (e := Extern.BytealgIndexByte.indexByte) (by kernel_rfl), Go.Lib.run_indexByteString]
  simp only [Result.andThen]
  rw [Oper.upon_value]
  go_wp2
  go_ret
  exact ⟨rfl, rfl⟩
end Go.Av
