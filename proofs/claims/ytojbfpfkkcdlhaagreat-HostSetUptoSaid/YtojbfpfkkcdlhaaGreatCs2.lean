/- Code of functions: what the compiled form of each is. -/
import Derived.Test.YtojbfpfkkcdlhaaGreatAv19
import Derived.KernelRfl
import Derived.Test.YtojbfpfkkcdlhaaGreatProg
namespace Go.Av
set_option linter.unusedVariables false
set_option linter.unusedSimpArgs false
open Go.Proofs
/-! slices.swapRangeCmpFunc[int] -/
abbrev b386x0 : BC := .reg [⟨0, some 10, .assign (K 0), none⟩] []
abbrev b386x1 : BC := .reg [⟨0, some 11, .move (T 10), none⟩,
  ⟨1, some 12, .move (T 3), none⟩,
  ⟨2, some 13, .binOp .lss 3 (T 11) (T 12) 3, none⟩] []
abbrev b386x2 : BC := .reg [⟨0, some 16, .move (T 0), none⟩,
  ⟨1, some 17, .move (T 1), none⟩,
  ⟨2, some 18, .move (T 10), none⟩,
  ⟨3, some 19, .binOp .add 3 (T 17) (T 18) 3, none⟩,
  ⟨4, some 20, .move (T 0), none⟩,
  ⟨5, some 21, .move (T 2), none⟩,
  ⟨6, some 22, .move (T 10), none⟩,
  ⟨7, some 23, .binOp .add 3 (T 21) (T 22) 3, none⟩,
  ⟨8, some 24, .move (T 0), none⟩,
  ⟨9, some 25, .move (T 2), none⟩,
  ⟨10, some 26, .move (T 10), none⟩,
  ⟨11, some 27, .binOp .add 3 (T 25) (T 26) 3, none⟩,
  ⟨12, some 28, .indexAddr 26 (T 24) (T 27), none⟩,
  ⟨13, some 29, .load 3 (T 28), none⟩,
  ⟨14, some 30, .move (T 0), none⟩,
  ⟨15, some 31, .move (T 1), none⟩,
  ⟨16, some 32, .move (T 10), none⟩,
  ⟨17, some 33, .binOp .add 3 (T 31) (T 32) 3, none⟩,
  ⟨18, some 34, .indexAddr 26 (T 30) (T 33), none⟩,
  ⟨19, some 35, .load 3 (T 34), none⟩,
  ⟨20, some 36, .indexAddr 26 (T 16) (T 19), none⟩,
  ⟨21, none, .store 3 (T 36) (T 29), none⟩,
  ⟨22, some 37, .indexAddr 26 (T 20) (T 23), none⟩,
  ⟨23, none, .store 3 (T 37) (T 35), none⟩] [(0, 1), (0, 2), (1, 2), (0, 3), (0, 4), (1, 4), (2, 4), (3, 4), (0, 5), (1, 5), (2, 5), (3, 5), (4, 5), (0, 6), (1, 6), (2, 6), (3, 6), (4, 6), (5, 6), (0, 7), (1, 7), (2, 7), (3, 7), (4, 7), (0, 8), (1, 8), (2, 8), (3, 8), (4, 8), (5, 8), (6, 8), (7, 8), (0, 9), (1, 9), (2, 9), (3, 9), (4, 9), (5, 9), (6, 9), (7, 9), (8, 9), (0, 10), (1, 10), (2, 10), (3, 10), (4, 10), (5, 10), (6, 10), (7, 10), (8, 10), (9, 10), (0, 11), (1, 11), (2, 11), (3, 11), (4, 11), (5, 11), (6, 11), (7, 11), (8, 11), (0, 12), (1, 12), (2, 12), (3, 12), (4, 12), (5, 12), (6, 12), (7, 12), (0, 13), (1, 13), (2, 13), (3, 13), (4, 13), (5, 13), (6, 13), (7, 13), (0, 14), (1, 14), (2, 14), (3, 14), (4, 14), (5, 14), (6, 14), (7, 14), (8, 14), (9, 14), (10, 14), (11, 14), (12, 14), (13, 14), (0, 15), (1, 15), (2, 15), (3, 15), (4, 15), (5, 15), (6, 15), (7, 15), (8, 15), (9, 15), (10, 15), (11, 15), (12, 15), (13, 15), (14, 15), (0, 16), (1, 16), (2, 16), (3, 16), (4, 16), (5, 16), (6, 16), (7, 16), (8, 16), (9, 16), (10, 16), (11, 16), (12, 16), (13, 16), (14, 16), (15, 16), (0, 17), (1, 17), (2, 17), (3, 17), (4, 17), (5, 17), (6, 17), (7, 17), (8, 17), (9, 17), (10, 17), (11, 17), (12, 17), (13, 17), (14, 17), (0, 18), (1, 18), (2, 18), (3, 18), (4, 18), (5, 18), (6, 18), (7, 18), (8, 18), (9, 18), (10, 18), (11, 18), (12, 18), (13, 18), (0, 19), (1, 19), (2, 19), (3, 19), (4, 19), (5, 19), (6, 19), (7, 19), (8, 19), (9, 19), (10, 19), (11, 19), (12, 19), (13, 19), (4, 20), (5, 20), (6, 20), (7, 20), (4, 21), (5, 21), (6, 21), (7, 21)]
abbrev b386x3 : BC := .reg [⟨0, some 14, .move (T 10), none⟩,
  ⟨1, some 15, .binOp .add 3 (T 14) (K 1) 3, none⟩,
  ⟨2, some 10, .assign (T 15), none⟩] []
abbrev b386x4 : BC := .loop (.seq (.seq b386x1 (.cond (T 13) .skip (.exit 0))) (.seq (.block 1 b386x2) b386x3))
abbrev b386 : BC := .seq b386x0 (.block 0 b386x4)
theorem c386 : Tryz.f386.body.bind (compile Tryz.f386.ntmps) = some b386 := by kernel_rfl
theorem ok386 : EntryOK Tryz.prog (386, ⟨38, b386, #[]⟩) := ⟨Tryz.f386, Tryz.func386, c386, Tryz.ntmps386, by kernel_rfl, Tryz.call386⟩
end Go.Av
