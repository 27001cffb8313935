/- Code of functions: what the compiled form of each is. -/
import Derived.Test.YtojbfpfkkcdlhaaGreatAv19
import Derived.KernelRfl
import Derived.Test.YtojbfpfkkcdlhaaGreatProg
namespace Go.Av
set_option linter.unusedVariables false
set_option linter.unusedSimpArgs false
open Go.Proofs
/-! slices.pdqsortOrdered[int] -/
abbrev b263x0 : BC := .reg [⟨0, some 8, .assign (.const (.bool true)), none⟩] []
abbrev b263x1 : BC := .reg [⟨0, some 9, .assign (.const (.bool true)), none⟩] []
abbrev b263x2 : BC := .reg [⟨0, some 19, .move (T 2), none⟩,
  ⟨1, some 20, .move (T 1), none⟩,
  ⟨2, some 21, .binOp .sub 3 (T 19) (T 20) 3, none⟩,
  ⟨3, some 10, .assign (T 21), none⟩] []
abbrev b263x3 : BC := .reg [⟨0, some 22, .move (T 10), none⟩,
  ⟨1, some 23, .binOp .leq 3 (T 22) (K 12) 3, none⟩] []
abbrev b263x4 : BC := .reg [⟨0, some 24, .move (T 0), none⟩,
  ⟨1, some 25, .move (T 1), none⟩,
  ⟨2, some 26, .move (T 2), none⟩,
  ⟨3, some 27, .call ⟨.value (.func 310), #[(T 24), (T 25), (T 26)], #[26, 3, 3]⟩, none⟩] []
abbrev b263x5 : BC := .reg [⟨0, some 28, .move (T 3), none⟩,
  ⟨1, some 29, .binOp .eql 3 (T 28) (K 0) 3, none⟩] []
abbrev b263x6 : BC := .reg [⟨0, some 30, .move (T 0), none⟩,
  ⟨1, some 31, .move (T 1), none⟩,
  ⟨2, some 32, .move (T 2), none⟩,
  ⟨3, some 33, .call ⟨.value (.func 311), #[(T 30), (T 31), (T 32)], #[26, 3, 3]⟩, none⟩] []
abbrev b263x7 : BC := .reg [⟨0, some 34, .move (T 8), none⟩,
  ⟨1, some 35, .unOp .not 4 (T 34), none⟩] []
abbrev b263x8 : BC := .reg [⟨0, some 36, .move (T 0), none⟩,
  ⟨1, some 37, .move (T 1), none⟩,
  ⟨2, some 38, .move (T 2), none⟩,
  ⟨3, some 39, .call ⟨.value (.func 312), #[(T 36), (T 37), (T 38)], #[26, 3, 3]⟩, none⟩] []
abbrev b263x9 : BC := .reg [⟨0, some 40, .move (T 3), none⟩,
  ⟨1, some 41, .binOp .sub 3 (T 40) (K 1) 3, none⟩,
  ⟨2, some 3, .assign (T 41), none⟩] []
abbrev b263x10 : BC := .reg [⟨0, some 43, .move (T 0), none⟩,
  ⟨1, some 44, .move (T 1), none⟩,
  ⟨2, some 45, .move (T 2), none⟩,
  ⟨3, some 46, .call ⟨.value (.func 313), #[(T 43), (T 44), (T 45)], #[26, 3, 3]⟩, none⟩,
  ⟨4, some 42, .move (T 46), none⟩,
  ⟨5, some 47, .extract (T 42) 0, none⟩,
  ⟨6, some 48, .extract (T 42) 1, none⟩,
  ⟨7, some 11, .assign (T 47), none⟩,
  ⟨8, some 12, .assign (T 48), none⟩] []
abbrev b263x11 : BC := .reg [⟨0, some 49, .move (T 12), none⟩,
  ⟨1, some 50, .binOp .eql 352 (T 49) (K 2) 352, none⟩] []
abbrev b263x12 : BC := .reg [⟨0, some 51, .move (T 0), none⟩,
  ⟨1, some 52, .move (T 1), none⟩,
  ⟨2, some 53, .move (T 2), none⟩,
  ⟨3, some 54, .call ⟨.value (.func 314), #[(T 51), (T 52), (T 53)], #[26, 3, 3]⟩, none⟩] []
abbrev b263x13 : BC := .reg [⟨0, some 55, .move (T 2), none⟩,
  ⟨1, some 56, .binOp .sub 3 (T 55) (K 1) 3, none⟩,
  ⟨2, some 57, .move (T 11), none⟩,
  ⟨3, some 58, .move (T 1), none⟩,
  ⟨4, some 59, .binOp .sub 3 (T 57) (T 58) 3, none⟩,
  ⟨5, some 60, .binOp .sub 3 (T 56) (T 59) 3, none⟩,
  ⟨6, some 11, .assign (T 60), none⟩] []
abbrev b263x14 : BC := .reg [⟨0, some 12, .assign (K 1), none⟩] []
abbrev b263x15 : BC := .reg [⟨0, some 61, .move (T 8), none⟩,
  ⟨1, some 62, .move (T 61), none⟩,
  ⟨2, some 63, .move (T 9), some (62, true)⟩,
  ⟨3, some 64, .pick (T 62) (T 63) (.const (.bool false)), none⟩,
  ⟨4, some 65, .move (T 64), none⟩,
  ⟨5, some 66, .move (T 12), some (65, true)⟩,
  ⟨6, some 67, .binOp .eql 352 (T 66) (K 1) 352, some (65, true)⟩,
  ⟨7, some 68, .pick (T 65) (T 67) (.const (.bool false)), none⟩] []
abbrev b263x16 : BC := .reg [⟨0, some 69, .move (T 0), none⟩,
  ⟨1, some 70, .move (T 1), none⟩,
  ⟨2, some 71, .move (T 2), none⟩,
  ⟨3, some 72, .call ⟨.value (.func 315), #[(T 69), (T 70), (T 71)], #[26, 3, 3]⟩, none⟩] []
abbrev b263x17 : BC := .reg [⟨0, some 73, .move (T 1), none⟩,
  ⟨1, some 74, .binOp .gtr 3 (T 73) (K 0) 3, none⟩,
  ⟨2, some 75, .move (T 74), none⟩,
  ⟨3, some 76, .move (T 0), some (75, true)⟩,
  ⟨4, some 77, .move (T 1), some (75, true)⟩,
  ⟨5, some 78, .binOp .sub 3 (T 77) (K 1) 3, some (75, true)⟩,
  ⟨6, some 79, .indexAddr 26 (T 76) (T 78), some (75, true)⟩,
  ⟨7, some 80, .load 3 (T 79), some (75, true)⟩,
  ⟨8, some 81, .move (T 0), some (75, true)⟩,
  ⟨9, some 82, .move (T 11), some (75, true)⟩,
  ⟨10, some 83, .indexAddr 26 (T 81) (T 82), some (75, true)⟩,
  ⟨11, some 84, .load 3 (T 83), some (75, true)⟩,
  ⟨12, some 85, .call ⟨.value (.func 288), #[(T 80), (T 84)], #[3, 3]⟩, some (75, true)⟩,
  ⟨13, some 86, .unOp .not 4 (T 85), some (75, true)⟩,
  ⟨14, some 87, .pick (T 75) (T 86) (.const (.bool false)), none⟩] [(3, 4), (3, 5), (3, 8), (4, 8), (5, 8), (6, 8), (7, 8), (3, 9), (4, 9), (5, 9), (6, 9), (7, 9), (8, 9), (3, 10), (4, 10), (5, 10), (6, 10), (7, 10), (3, 11), (4, 11), (5, 11), (6, 11), (7, 11)]
abbrev b263x18 : BC := .reg [⟨0, some 88, .move (T 0), none⟩,
  ⟨1, some 89, .move (T 1), none⟩,
  ⟨2, some 90, .move (T 2), none⟩,
  ⟨3, some 91, .move (T 11), none⟩,
  ⟨4, some 92, .call ⟨.value (.func 316), #[(T 88), (T 89), (T 90), (T 91)], #[26, 3, 3, 3]⟩, none⟩,
  ⟨5, some 13, .assign (T 92), none⟩] []
abbrev b263x19 : BC := .reg [⟨0, some 93, .move (T 13), none⟩,
  ⟨1, some 1, .assign (T 93), none⟩] []
abbrev b263x20 : BC := .reg [⟨0, some 95, .move (T 0), none⟩,
  ⟨1, some 96, .move (T 1), none⟩,
  ⟨2, some 97, .move (T 2), none⟩,
  ⟨3, some 98, .move (T 11), none⟩,
  ⟨4, some 99, .call ⟨.value (.func 317), #[(T 95), (T 96), (T 97), (T 98)], #[26, 3, 3, 3]⟩, none⟩,
  ⟨5, some 94, .move (T 99), none⟩,
  ⟨6, some 100, .extract (T 94) 0, none⟩,
  ⟨7, some 101, .extract (T 94) 1, none⟩,
  ⟨8, some 14, .assign (T 100), none⟩,
  ⟨9, some 15, .assign (T 101), none⟩] []
abbrev b263x21 : BC := .reg [⟨0, some 102, .move (T 15), none⟩,
  ⟨1, some 9, .assign (T 102), none⟩] []
abbrev b263x22 : BC := .reg [⟨0, some 103, .move (T 14), none⟩,
  ⟨1, some 104, .move (T 1), none⟩,
  ⟨2, some 105, .binOp .sub 3 (T 103) (T 104) 3, none⟩,
  ⟨3, some 106, .move (T 2), none⟩,
  ⟨4, some 107, .move (T 14), none⟩,
  ⟨5, some 108, .binOp .sub 3 (T 106) (T 107) 3, none⟩,
  ⟨6, some 16, .assign (T 105), none⟩,
  ⟨7, some 17, .assign (T 108), none⟩] []
abbrev b263x23 : BC := .reg [⟨0, some 109, .move (T 10), none⟩,
  ⟨1, some 110, .binOp .quo 3 (T 109) (K 8) 3, none⟩,
  ⟨2, some 18, .assign (T 110), none⟩] []
abbrev b263x24 : BC := .reg [⟨0, some 111, .move (T 16), none⟩,
  ⟨1, some 112, .move (T 17), none⟩,
  ⟨2, some 113, .binOp .lss 3 (T 111) (T 112) 3, none⟩] []
abbrev b263x25 : BC := .reg [⟨0, some 114, .move (T 16), none⟩,
  ⟨1, some 115, .move (T 18), none⟩,
  ⟨2, some 116, .binOp .geq 3 (T 114) (T 115) 3, none⟩,
  ⟨3, some 8, .assign (T 116), none⟩] []
abbrev b263x26 : BC := .reg [⟨0, some 117, .move (T 0), none⟩,
  ⟨1, some 118, .move (T 1), none⟩,
  ⟨2, some 119, .move (T 14), none⟩,
  ⟨3, some 120, .move (T 3), none⟩,
  ⟨4, some 121, .call ⟨.value (.func 263), #[(T 117), (T 118), (T 119), (T 120)], #[26, 3, 3, 3]⟩, none⟩] []
abbrev b263x27 : BC := .reg [⟨0, some 122, .move (T 14), none⟩,
  ⟨1, some 123, .binOp .add 3 (T 122) (K 1) 3, none⟩,
  ⟨2, some 1, .assign (T 123), none⟩] []
abbrev b263x28 : BC := .reg [⟨0, some 124, .move (T 17), none⟩,
  ⟨1, some 125, .move (T 18), none⟩,
  ⟨2, some 126, .binOp .geq 3 (T 124) (T 125) 3, none⟩,
  ⟨3, some 8, .assign (T 126), none⟩] []
abbrev b263x29 : BC := .reg [⟨0, some 127, .move (T 0), none⟩,
  ⟨1, some 128, .move (T 14), none⟩,
  ⟨2, some 129, .binOp .add 3 (T 128) (K 1) 3, none⟩,
  ⟨3, some 130, .move (T 2), none⟩,
  ⟨4, some 131, .move (T 3), none⟩,
  ⟨5, some 132, .call ⟨.value (.func 263), #[(T 127), (T 129), (T 130), (T 131)], #[26, 3, 3, 3]⟩, none⟩] []
abbrev b263x30 : BC := .reg [⟨0, some 133, .move (T 14), none⟩,
  ⟨1, some 2, .assign (T 133), none⟩] []
abbrev b263x31 : BC := .seq b263x24 (.cond (T 113) (.seq b263x25 (.seq b263x26 b263x27)) (.seq b263x28 (.seq b263x29 b263x30)))
abbrev b263x32 : BC := .seq (.seq b263x17 (.cond (T 87) (.seq b263x18 (.seq b263x19 (.exit 1))) .skip)) (.seq b263x20 (.seq b263x21 (.seq b263x22 (.seq b263x23 b263x31))))
abbrev b263x33 : BC := .seq (.seq b263x11 (.cond (T 50) (.seq b263x12 (.seq b263x13 b263x14)) .skip)) (.seq (.seq b263x15 (.cond (T 68) (.seq b263x16 (.cond (T 72) .ret .skip)) .skip)) b263x32)
abbrev b263x34 : BC := .seq (.seq b263x5 (.cond (T 29) (.seq b263x6 .ret) .skip)) (.seq (.seq b263x7 (.cond (T 35) (.seq b263x8 b263x9) .skip)) (.seq b263x10 b263x33))
abbrev b263x35 : BC := .loop (.block 1 (.seq b263x2 (.seq (.seq b263x3 (.cond (T 23) (.seq b263x4 .ret) .skip)) b263x34)))
abbrev b263 : BC := .seq b263x0 (.seq b263x1 (.block 0 b263x35))
theorem c263 : Tryz.f263.body.bind (compile Tryz.f263.ntmps) = some b263 := by kernel_rfl
theorem ok263 : EntryOK Tryz.prog (263, ⟨134, b263, #[]⟩) := ⟨Tryz.f263, Tryz.func263, c263, Tryz.ntmps263, by kernel_rfl, Tryz.call263⟩
/-! math/bits.Len -/
abbrev b264x0 : BC := .reg [⟨0, some 2, .assign (K 0), none⟩] []
abbrev b264x1 : BC := .reg [⟨0, some 3, .move (T 0), none⟩,
  ⟨1, some 4, .convert 321 359 (T 3), none⟩,
  ⟨2, some 5, .call ⟨.value (.func 318), #[(T 4)], #[359]⟩, none⟩,
  ⟨3, some 2, .assign (T 5), none⟩] []
abbrev b264x2 : BC := .reg [⟨0, some 6, .move (T 0), none⟩,
  ⟨1, some 7, .call ⟨.value (.func 319), #[(T 6)], #[135]⟩, none⟩,
  ⟨2, some 2, .assign (T 7), none⟩] []
abbrev b264 : BC := .seq b264x0 (.seq (.cond (.const (.bool false)) (.seq b264x1 .ret) .skip) (.seq b264x2 .ret))
theorem c264 : Tryz.f264.body.bind (compile Tryz.f264.ntmps) = some b264 := by kernel_rfl
theorem ok264 : EntryOK Tryz.prog (264, ⟨8, b264, #[.tmp 2]⟩) := ⟨Tryz.f264, Tryz.func264, c264, Tryz.ntmps264, by kernel_rfl, Tryz.call264⟩
/-! slices.ContainsFunc[[]scarfjoint/api.NodeType,scarfjoint/api.NodeType] -/
abbrev b269x0 : BC := .reg [⟨0, some 4, .assign (.const (.bool false)), none⟩] []
abbrev b269x1 : BC := .reg [⟨0, some 5, .move (T 0), none⟩,
  ⟨1, some 6, .move (T 1), none⟩,
  ⟨2, some 7, .call ⟨.value (.func 326), #[(T 5), (T 6)], #[22, 326]⟩, none⟩,
  ⟨3, some 8, .binOp .geq 3 (T 7) (K 0) 3, none⟩,
  ⟨4, some 4, .assign (T 8), none⟩] []
abbrev b269 : BC := .seq b269x0 (.seq b269x1 .ret)
theorem c269 : Tryz.f269.body.bind (compile Tryz.f269.ntmps) = some b269 := by kernel_rfl
theorem ok269 : EntryOK Tryz.prog (269, ⟨9, b269, #[.tmp 4]⟩) := ⟨Tryz.f269, Tryz.func269, c269, Tryz.ntmps269, by kernel_rfl, Tryz.call269⟩
/-! scarfjoint/types.node$1 -/
abbrev b270x0 : BC := .reg [⟨0, some 2, .box 157 (T 0), none⟩,
  ⟨1, some 3, .assign (.const (.bool false)), none⟩] []
abbrev b270x1 : BC := .reg [⟨0, some 4, .fieldAddr 157 (T 2) 0, none⟩,
  ⟨1, some 5, .load 9 (T 4), none⟩,
  ⟨2, some 6, .fieldAddr 157 (T 1) 0, none⟩,
  ⟨3, some 7, .load 9 (T 6), none⟩,
  ⟨4, some 8, .binOp .eql 9 (T 5) (T 7) 9, none⟩,
  ⟨5, some 3, .assign (T 8), none⟩] []
abbrev b270 : BC := .seq b270x0 (.seq b270x1 .ret)
theorem c270 : Tryz.f270.body.bind (compile Tryz.f270.ntmps) = some b270 := by kernel_rfl
theorem ok270 : EntryOK Tryz.prog (270, ⟨9, b270, #[.tmp 3]⟩) := ⟨Tryz.f270, Tryz.func270, c270, Tryz.ntmps270, by kernel_rfl, Tryz.call270⟩
/-! scarfjoint/types.attribute -/
abbrev b271x0 : BC := .reg [⟨0, some 2, .box 160 (T 0), none⟩,
  ⟨1, some 4, .assign (K 0), none⟩] []
abbrev b271x1 : BC := .reg [⟨0, some 8, .fieldAddr 160 (T 2) 0, none⟩,
  ⟨1, some 9, .load 9 (T 8), none⟩,
  ⟨2, some 10, .call ⟨.value (.func 148), #[(T 9)], #[9]⟩, none⟩,
  ⟨3, some 11, .unOp .not 4 (T 10), none⟩,
  ⟨4, some 7, .assign (T 11), none⟩] []
abbrev b271x2 : BC := .reg [⟨0, some 4, .assign (K 2), none⟩] []
abbrev b271x3 : BC := .reg [⟨0, some 13, .move (T 1), none⟩,
  ⟨1, some 14, .makeFunc (.func 328) #[] #[(T 2)], none⟩,
  ⟨2, some 15, .call ⟨.value (.func 327), #[(T 13), (T 14)], #[155, 372]⟩, none⟩,
  ⟨3, some 12, .assign (T 15), none⟩] []
abbrev b271x4 : BC := .reg [⟨0, some 4, .assign (K 5), none⟩] []
abbrev b271x5 : BC := .block 0 (.seq b271x1 (.cond (T 7) (.seq b271x2 .ret) (.seq b271x3 (.cond (T 12) (.seq b271x4 .ret) .skip))))
abbrev b271x6 : BC := .reg [⟨0, some 16, .fieldAddr 160 (T 2) 3, none⟩,
  ⟨1, some 17, .load 158 (T 16), none⟩,
  ⟨2, some 18, .call ⟨.value (.func 329), #[(T 17)], #[158]⟩, none⟩,
  ⟨3, some 5, .assign (T 18), none⟩] []
abbrev b271x7 : BC := .reg [⟨0, some 19, .move (T 5), none⟩,
  ⟨1, some 20, .binOp .neq 38 (T 19) (K 0) 38, none⟩] []
abbrev b271x8 : BC := .reg [⟨0, some 21, .move (T 5), none⟩,
  ⟨1, some 4, .assign (T 21), none⟩] []
abbrev b271x9 : BC := .reg [⟨0, some 22, .fieldAddr 160 (T 2) 1, none⟩,
  ⟨1, some 23, .load 3 (T 22), none⟩,
  ⟨2, some 24, .binOp .leq 3 (K (-1000000)) (T 23) 3, none⟩,
  ⟨3, some 25, .move (T 24), none⟩,
  ⟨4, some 26, .fieldAddr 160 (T 2) 1, some (25, true)⟩,
  ⟨5, some 27, .load 3 (T 26), some (25, true)⟩,
  ⟨6, some 28, .fieldAddr 160 (T 2) 2, some (25, true)⟩,
  ⟨7, some 29, .load 3 (T 28), some (25, true)⟩,
  ⟨8, some 30, .binOp .leq 3 (T 27) (T 29) 3, some (25, true)⟩,
  ⟨9, some 31, .pick (T 25) (T 30) (.const (.bool false)), none⟩,
  ⟨10, some 32, .move (T 31), none⟩,
  ⟨11, some 33, .fieldAddr 160 (T 2) 2, some (32, true)⟩,
  ⟨12, some 34, .load 3 (T 33), some (32, true)⟩,
  ⟨13, some 35, .binOp .leq 3 (T 34) (K 1000000) 3, some (32, true)⟩,
  ⟨14, some 36, .pick (T 32) (T 35) (.const (.bool false)), none⟩,
  ⟨15, some 6, .assign (T 36), none⟩] []
abbrev b271x10 : BC := .reg [⟨0, some 37, .fieldAddr 160 (T 2) 3, none⟩,
  ⟨1, some 38, .load 158 (T 37), none⟩,
  ⟨2, some 39, .call ⟨.builtin .len, #[(T 38)], #[158]⟩, none⟩,
  ⟨3, some 40, .binOp .gtr 3 (T 39) (K 0) 3, none⟩] []
abbrev b271x11 : BC := .reg [⟨0, some 41, .fieldAddr 160 (T 2) 1, none⟩,
  ⟨1, some 42, .load 3 (T 41), none⟩,
  ⟨2, some 43, .binOp .eql 3 (T 42) (K 0) 3, none⟩,
  ⟨3, some 44, .move (T 43), none⟩,
  ⟨4, some 45, .fieldAddr 160 (T 2) 2, some (44, true)⟩,
  ⟨5, some 46, .load 3 (T 45), some (44, true)⟩,
  ⟨6, some 47, .fieldAddr 160 (T 2) 3, some (44, true)⟩,
  ⟨7, some 48, .load 158 (T 47), some (44, true)⟩,
  ⟨8, some 49, .call ⟨.builtin .len, #[(T 48)], #[158]⟩, some (44, true)⟩,
  ⟨9, some 50, .binOp .sub 3 (T 49) (K 1) 3, some (44, true)⟩,
  ⟨10, some 51, .binOp .eql 3 (T 46) (T 50) 3, some (44, true)⟩,
  ⟨11, some 52, .pick (T 44) (T 51) (.const (.bool false)), none⟩,
  ⟨12, some 6, .assign (T 52), none⟩] []
abbrev b271x12 : BC := .reg [⟨0, some 53, .move (T 6), none⟩,
  ⟨1, some 54, .unOp .not 4 (T 53), none⟩] []
abbrev b271x13 : BC := .reg [⟨0, some 4, .assign (K 6), none⟩] []
abbrev b271x14 : BC := .reg [⟨0, some 4, .assign (K 0), none⟩] []
abbrev b271x15 : BC := .seq (.seq b271x10 (.cond (T 40) b271x11 .skip)) (.seq (.seq b271x12 (.cond (T 54) (.seq b271x13 .ret) .skip)) (.seq b271x14 .ret))
abbrev b271x16 : BC := .seq b271x5 (.seq (.seq b271x6 (.seq b271x7 (.cond (T 20) (.seq b271x8 .ret) .skip))) (.seq b271x9 b271x15))
abbrev b271 : BC := .seq b271x0 b271x16
theorem c271 : Tryz.f271.body.bind (compile Tryz.f271.ntmps) = some b271 := by kernel_rfl
theorem ok271 : EntryOK Tryz.prog (271, ⟨55, b271, #[.tmp 4]⟩) := ⟨Tryz.f271, Tryz.func271, c271, Tryz.ntmps271, by kernel_rfl, Tryz.call271⟩
/-! scarfjoint/types.edge$1 -/
abbrev b272x0 : BC := .reg [⟨0, some 3, .assign (.const (.bool false)), none⟩] []
abbrev b272x1 : BC := .reg [⟨0, some 4, .move (T 0), none⟩,
  ⟨1, some 5, .binOp .geq 3 (T 4) (K 0) 3, none⟩,
  ⟨2, some 6, .move (T 5), none⟩,
  ⟨3, some 7, .move (T 0), some (6, true)⟩,
  ⟨4, some 8, .fieldAddr 25 (T 1) 0, some (6, true)⟩,
  ⟨5, some 9, .load 22 (T 8), some (6, true)⟩,
  ⟨6, some 10, .call ⟨.builtin .len, #[(T 9)], #[22]⟩, some (6, true)⟩,
  ⟨7, some 11, .binOp .lss 3 (T 7) (T 10) 3, some (6, true)⟩,
  ⟨8, some 12, .pick (T 6) (T 11) (.const (.bool false)), none⟩,
  ⟨9, some 3, .assign (T 12), none⟩] []
abbrev b272 : BC := .seq b272x0 (.seq b272x1 .ret)
theorem c272 : Tryz.f272.body.bind (compile Tryz.f272.ntmps) = some b272 := by kernel_rfl
theorem ok272 : EntryOK Tryz.prog (272, ⟨13, b272, #[.tmp 3]⟩) := ⟨Tryz.f272, Tryz.func272, c272, Tryz.ntmps272, by kernel_rfl, Tryz.call272⟩
/-! slices.ContainsFunc[[]scarfjoint/api.EdgeType,scarfjoint/api.EdgeType] -/
abbrev b273x0 : BC := .reg [⟨0, some 4, .assign (.const (.bool false)), none⟩] []
abbrev b273x1 : BC := .reg [⟨0, some 5, .move (T 0), none⟩,
  ⟨1, some 6, .move (T 1), none⟩,
  ⟨2, some 7, .call ⟨.value (.func 330), #[(T 5), (T 6)], #[23, 329]⟩, none⟩,
  ⟨3, some 8, .binOp .geq 3 (T 7) (K 0) 3, none⟩,
  ⟨4, some 4, .assign (T 8), none⟩] []
abbrev b273 : BC := .seq b273x0 (.seq b273x1 .ret)
theorem c273 : Tryz.f273.body.bind (compile Tryz.f273.ntmps) = some b273 := by kernel_rfl
theorem ok273 : EntryOK Tryz.prog (273, ⟨9, b273, #[.tmp 4]⟩) := ⟨Tryz.f273, Tryz.func273, c273, Tryz.ntmps273, by kernel_rfl, Tryz.call273⟩
/-! scarfjoint/types.edge$2 -/
abbrev b274x0 : BC := .reg [⟨0, some 2, .box 81 (T 0), none⟩,
  ⟨1, some 3, .assign (.const (.bool false)), none⟩] []
abbrev b274x1 : BC := .reg [⟨0, some 4, .fieldAddr 81 (T 2) 0, none⟩,
  ⟨1, some 5, .load 9 (T 4), none⟩,
  ⟨2, some 6, .fieldAddr 81 (T 1) 0, none⟩,
  ⟨3, some 7, .load 9 (T 6), none⟩,
  ⟨4, some 8, .binOp .eql 9 (T 5) (T 7) 9, none⟩,
  ⟨5, some 3, .assign (T 8), none⟩] []
abbrev b274 : BC := .seq b274x0 (.seq b274x1 .ret)
theorem c274 : Tryz.f274.body.bind (compile Tryz.f274.ntmps) = some b274 := by kernel_rfl
theorem ok274 : EntryOK Tryz.prog (274, ⟨9, b274, #[.tmp 3]⟩) := ⟨Tryz.f274, Tryz.func274, c274, Tryz.ntmps274, by kernel_rfl, Tryz.call274⟩
/-! scarfjoint/types.bounded -/
abbrev b275x0 : BC := .reg [⟨0, some 4, .assign (.const (.bool false)), none⟩] []
abbrev b275x1 : BC := .reg [⟨0, some 5, .move (T 0), none⟩,
  ⟨1, some 6, .binOp .geq 3 (T 5) (K 0) 3, none⟩,
  ⟨2, some 7, .move (T 6), none⟩,
  ⟨3, some 8, .move (T 0), some (7, true)⟩,
  ⟨4, some 9, .binOp .leq 3 (T 8) (K 40) 3, some (7, true)⟩,
  ⟨5, some 10, .pick (T 7) (T 9) (.const (.bool false)), none⟩,
  ⟨6, some 11, .move (T 10), none⟩,
  ⟨7, some 12, .move (T 1), some (11, true)⟩,
  ⟨8, some 13, .binOp .eql 3 (T 12) (K (-1)) 3, some (11, true)⟩,
  ⟨9, some 14, .move (T 13), some (11, true)⟩,
  ⟨10, some 15, .move (T 1), some (14, false)⟩,
  ⟨11, some 16, .move (T 0), some (14, false)⟩,
  ⟨12, some 17, .binOp .geq 3 (T 15) (T 16) 3, some (14, false)⟩,
  ⟨13, some 18, .move (T 17), some (14, false)⟩,
  ⟨14, some 19, .move (T 1), some (18, true)⟩,
  ⟨15, some 20, .binOp .leq 3 (T 19) (K 40) 3, some (18, true)⟩,
  ⟨16, some 21, .pick (T 18) (T 20) (.const (.bool false)), some (14, false)⟩,
  ⟨17, some 22, .pick (T 14) (.const (.bool true)) (T 21), some (11, true)⟩,
  ⟨18, some 23, .pick (T 11) (T 22) (.const (.bool false)), none⟩,
  ⟨19, some 4, .assign (T 23), none⟩] []
abbrev b275 : BC := .seq b275x0 (.seq b275x1 .ret)
theorem c275 : Tryz.f275.body.bind (compile Tryz.f275.ntmps) = some b275 := by kernel_rfl
theorem ok275 : EntryOK Tryz.prog (275, ⟨24, b275, #[.tmp 4]⟩) := ⟨Tryz.f275, Tryz.func275, c275, Tryz.ntmps275, by kernel_rfl, Tryz.call275⟩
/-! scarfjoint/types.given$1 -/
abbrev b280x0 : BC := .reg [⟨0, some 3, .assign (.const (.bool false)), none⟩] []
abbrev b280x1 : BC := .reg [⟨0, some 4, .move (T 0), none⟩,
  ⟨1, some 5, .binOp .lss 3 (T 4) (K 0) 3, none⟩,
  ⟨2, some 6, .move (T 5), none⟩,
  ⟨3, some 7, .move (T 0), some (6, false)⟩,
  ⟨4, some 8, .fieldAddr 25 (T 1) 0, some (6, false)⟩,
  ⟨5, some 9, .load 22 (T 8), some (6, false)⟩,
  ⟨6, some 10, .call ⟨.builtin .len, #[(T 9)], #[22]⟩, some (6, false)⟩,
  ⟨7, some 11, .binOp .geq 3 (T 7) (T 10) 3, some (6, false)⟩,
  ⟨8, some 12, .pick (T 6) (.const (.bool true)) (T 11), none⟩,
  ⟨9, some 3, .assign (T 12), none⟩] []
abbrev b280 : BC := .seq b280x0 (.seq b280x1 .ret)
theorem c280 : Tryz.f280.body.bind (compile Tryz.f280.ntmps) = some b280 := by kernel_rfl
theorem ok280 : EntryOK Tryz.prog (280, ⟨13, b280, #[.tmp 3]⟩) := ⟨Tryz.f280, Tryz.func280, c280, Tryz.ntmps280, by kernel_rfl, Tryz.call280⟩
/-! scarfjoint/types.line -/
abbrev b281x0 : BC := .reg [⟨0, some 2, .box 25 (T 0), none⟩,
  ⟨1, some 4, .assign (.const (.slice none 0 0)), none⟩] []
abbrev b281x1 : BC := .reg [⟨0, some 5, .assign (.const (.slice none 0 0)), none⟩] []
abbrev b281x2 : BC := .reg [⟨0, some 6, .move (T 1), none⟩,
  ⟨1, some 7, .binOp .geq 3 (T 6) (K 0) 3, none⟩] []
abbrev b281x3 : BC := .reg [⟨0, some 14, .move (T 5), none⟩,
  ⟨1, some 15, .move (T 1), none⟩,
  ⟨2, some 16, .buildSlice 26 1 #[(0, (T 15))], none⟩,
  ⟨3, some 17, .call ⟨.builtin .append, #[(T 14), (T 16)], #[26, 26]⟩, none⟩,
  ⟨4, some 5, .assign (T 17), none⟩] []
abbrev b281x4 : BC := .reg [⟨0, some 8, .fieldAddr 25 (T 2) 0, none⟩,
  ⟨1, some 9, .load 22 (T 8), none⟩,
  ⟨2, some 10, .move (T 1), none⟩,
  ⟨3, some 11, .indexAddr 22 (T 9) (T 10), none⟩,
  ⟨4, some 12, .fieldAddr 157 (T 11) 1, none⟩,
  ⟨5, some 13, .load 3 (T 12), none⟩,
  ⟨6, some 1, .assign (T 13), none⟩] []
abbrev b281x5 : BC := .loop (.seq (.seq b281x2 (.cond (T 7) .skip (.exit 0))) (.seq (.block 1 b281x3) b281x4))
abbrev b281x6 : BC := .reg [⟨0, some 18, .move (T 5), none⟩,
  ⟨1, some 19, .call ⟨.value (.func 332), #[(T 18)], #[26]⟩, none⟩] []
abbrev b281x7 : BC := .reg [⟨0, some 20, .move (T 5), none⟩,
  ⟨1, some 4, .assign (T 20), none⟩] []
abbrev b281 : BC := .seq b281x0 (.seq b281x1 (.seq (.block 0 b281x5) (.seq b281x6 (.seq b281x7 .ret))))
theorem c281 : Tryz.f281.body.bind (compile Tryz.f281.ntmps) = some b281 := by kernel_rfl
theorem ok281 : EntryOK Tryz.prog (281, ⟨21, b281, #[.tmp 4]⟩) := ⟨Tryz.f281, Tryz.func281, c281, Tryz.ntmps281, by kernel_rfl, Tryz.call281⟩
/-! scarfjoint/host.listed -/
abbrev b282x0 : BC := .reg [⟨0, some 2, .assign (.const (.slice none 0 0)), none⟩] []
abbrev b282x1 : BC := .reg [⟨0, some 3, .move (T 0), none⟩,
  ⟨1, some 4, .call ⟨.builtin .len, #[(T 3)], #[26]⟩, none⟩,
  ⟨2, some 5, .buildSlice 26 1 #[(0, (T 4))], none⟩,
  ⟨3, some 6, .move (T 0), none⟩,
  ⟨4, some 7, .call ⟨.builtin .append, #[(T 5), (T 6)], #[26, 26]⟩, none⟩,
  ⟨5, some 2, .assign (T 7), none⟩] []
abbrev b282 : BC := .seq b282x0 (.seq b282x1 .ret)
theorem c282 : Tryz.f282.body.bind (compile Tryz.f282.ntmps) = some b282 := by kernel_rfl
theorem ok282 : EntryOK Tryz.prog (282, ⟨8, b282, #[.tmp 2]⟩) := ⟨Tryz.f282, Tryz.func282, c282, Tryz.ntmps282, by kernel_rfl, Tryz.call282⟩
/-! scarfjoint/host.between -/
abbrev b283x0 : BC := .reg [⟨0, some 3, .box 29 (T 0), none⟩,
  ⟨1, some 6, .assign (.const (.slice none 0 0)), none⟩] []
abbrev b283x1 : BC := .reg [⟨0, some 7, .assign (.const (.slice none 0 0)), none⟩] []
abbrev b283x2 : BC := .reg [⟨0, some 10, .fieldAddr 29 (T 3) 1, none⟩,
  ⟨1, some 11, .load 27 (T 10), none⟩,
  ⟨2, some 12, .call ⟨.builtin .len, #[(T 11)], #[27]⟩, none⟩,
  ⟨3, some 13, .move (K 0), none⟩] []
abbrev b283x3 : BC := .reg [⟨0, some 14, .binOp .lss 3 (T 13) (T 12) 3, none⟩] []
abbrev b283x4 : BC := .reg [⟨0, some 15, .indexAddr 27 (T 11) (T 13), none⟩,
  ⟨1, some 16, .load 84 (T 15), none⟩,
  ⟨2, some 9, .alloc 84, none⟩,
  ⟨3, none, .store 84 (T 9) (T 16), none⟩] []
abbrev b283x5 : BC := .reg [⟨0, some 17, .fieldAddr 84 (T 9) 1, none⟩,
  ⟨1, some 18, .load 3 (T 17), none⟩,
  ⟨2, some 19, .move (T 1), none⟩,
  ⟨3, some 20, .binOp .eql 3 (T 18) (T 19) 3, none⟩,
  ⟨4, some 21, .move (T 20), none⟩,
  ⟨5, some 22, .fieldAddr 84 (T 9) 2, some (21, true)⟩,
  ⟨6, some 23, .load 3 (T 22), some (21, true)⟩,
  ⟨7, some 24, .move (T 2), some (21, true)⟩,
  ⟨8, some 25, .binOp .eql 3 (T 23) (T 24) 3, some (21, true)⟩,
  ⟨9, some 26, .pick (T 21) (T 25) (.const (.bool false)), none⟩] []
abbrev b283x6 : BC := .reg [⟨0, some 27, .move (T 7), none⟩,
  ⟨1, some 28, .fieldAddr 84 (T 9) 0, none⟩,
  ⟨2, some 29, .load 3 (T 28), none⟩,
  ⟨3, some 30, .buildSlice 26 1 #[(0, (T 29))], none⟩,
  ⟨4, some 31, .call ⟨.builtin .append, #[(T 27), (T 30)], #[26, 26]⟩, none⟩,
  ⟨5, some 7, .assign (T 31), none⟩] []
abbrev b283x7 : BC := .reg [⟨0, some 32, .binOp .add 3 (T 13) (K 1) 3, none⟩,
  ⟨1, some 13, .move (T 32), none⟩] []
abbrev b283x8 : BC := .seq (.cond (T 14) .skip (.exit 0)) (.seq (.block 1 (.seq b283x4 (.seq b283x5 (.cond (T 26) b283x6 .skip)))) b283x7)
abbrev b283x9 : BC := .loop (.seq b283x3 b283x8)
abbrev b283x10 : BC := .reg [⟨0, some 33, .move (T 7), none⟩,
  ⟨1, some 34, .call ⟨.value (.func 178), #[(T 33)], #[26]⟩, none⟩] []
abbrev b283x11 : BC := .reg [⟨0, some 35, .move (T 7), none⟩,
  ⟨1, some 6, .assign (T 35), none⟩] []
abbrev b283 : BC := .seq b283x0 (.seq b283x1 (.seq (.seq b283x2 (.block 0 b283x9)) (.seq b283x10 (.seq b283x11 .ret))))
theorem c283 : Tryz.f283.body.bind (compile Tryz.f283.ntmps) = some b283 := by kernel_rfl
theorem ok283 : EntryOK Tryz.prog (283, ⟨36, b283, #[.tmp 6]⟩) := ⟨Tryz.f283, Tryz.func283, c283, Tryz.ntmps283, by kernel_rfl, Tryz.call283⟩
/-! slices.stableCmpFunc[int] -/
abbrev b284x0 : BC := .reg [⟨0, some 6, .assign (K 20), none⟩] []
abbrev b284x1 : BC := .reg [⟨0, some 10, .move (T 6), none⟩,
  ⟨1, some 7, .assign (K 0), none⟩,
  ⟨2, some 8, .assign (T 10), none⟩] []
abbrev b284x2 : BC := .reg [⟨0, some 11, .move (T 8), none⟩,
  ⟨1, some 12, .move (T 1), none⟩,
  ⟨2, some 13, .binOp .leq 3 (T 11) (T 12) 3, none⟩] []
abbrev b284x3 : BC := .reg [⟨0, some 14, .move (T 0), none⟩,
  ⟨1, some 15, .move (T 7), none⟩,
  ⟨2, some 16, .move (T 8), none⟩,
  ⟨3, some 17, .move (T 2), none⟩,
  ⟨4, some 18, .call ⟨.value (.func 333), #[(T 14), (T 15), (T 16), (T 17)], #[26, 3, 3, 292]⟩, none⟩] []
abbrev b284x4 : BC := .reg [⟨0, some 19, .move (T 8), none⟩,
  ⟨1, some 7, .assign (T 19), none⟩] []
abbrev b284x5 : BC := .reg [⟨0, some 20, .move (T 8), none⟩,
  ⟨1, some 21, .move (T 6), none⟩,
  ⟨2, some 22, .binOp .add 3 (T 20) (T 21) 3, none⟩,
  ⟨3, some 8, .assign (T 22), none⟩] []
abbrev b284x6 : BC := .loop (.seq (.seq b284x2 (.cond (T 13) .skip (.exit 0))) (.block 1 (.seq b284x3 (.seq b284x4 b284x5))))
abbrev b284x7 : BC := .reg [⟨0, some 23, .move (T 0), none⟩,
  ⟨1, some 24, .move (T 7), none⟩,
  ⟨2, some 25, .move (T 1), none⟩,
  ⟨3, some 26, .move (T 2), none⟩,
  ⟨4, some 27, .call ⟨.value (.func 333), #[(T 23), (T 24), (T 25), (T 26)], #[26, 3, 3, 292]⟩, none⟩] []
abbrev b284x8 : BC := .reg [⟨0, some 28, .move (T 6), none⟩,
  ⟨1, some 29, .move (T 1), none⟩,
  ⟨2, some 30, .binOp .lss 3 (T 28) (T 29) 3, none⟩] []
abbrev b284x9 : BC := .reg [⟨0, some 31, .move (T 6), none⟩,
  ⟨1, some 32, .binOp .mul 3 (K 2) (T 31) 3, none⟩,
  ⟨2, some 7, .assign (K 0), none⟩,
  ⟨3, some 8, .assign (T 32), none⟩] []
abbrev b284x10 : BC := .reg [⟨0, some 33, .move (T 8), none⟩,
  ⟨1, some 34, .move (T 1), none⟩,
  ⟨2, some 35, .binOp .leq 3 (T 33) (T 34) 3, none⟩] []
abbrev b284x11 : BC := .reg [⟨0, some 36, .move (T 0), none⟩,
  ⟨1, some 37, .move (T 7), none⟩,
  ⟨2, some 38, .move (T 7), none⟩,
  ⟨3, some 39, .move (T 6), none⟩,
  ⟨4, some 40, .binOp .add 3 (T 38) (T 39) 3, none⟩,
  ⟨5, some 41, .move (T 8), none⟩,
  ⟨6, some 42, .move (T 2), none⟩,
  ⟨7, some 43, .call ⟨.value (.func 334), #[(T 36), (T 37), (T 40), (T 41), (T 42)], #[26, 3, 3, 3, 292]⟩, none⟩] []
abbrev b284x12 : BC := .reg [⟨0, some 44, .move (T 8), none⟩,
  ⟨1, some 7, .assign (T 44), none⟩] []
abbrev b284x13 : BC := .reg [⟨0, some 45, .move (T 8), none⟩,
  ⟨1, some 46, .move (T 6), none⟩,
  ⟨2, some 47, .binOp .mul 3 (K 2) (T 46) 3, none⟩,
  ⟨3, some 48, .binOp .add 3 (T 45) (T 47) 3, none⟩,
  ⟨4, some 8, .assign (T 48), none⟩] []
abbrev b284x14 : BC := .loop (.seq (.seq b284x10 (.cond (T 35) .skip (.exit 4))) (.block 5 (.seq b284x11 (.seq b284x12 b284x13))))
abbrev b284x15 : BC := .reg [⟨0, some 49, .move (T 7), none⟩,
  ⟨1, some 50, .move (T 6), none⟩,
  ⟨2, some 51, .binOp .add 3 (T 49) (T 50) 3, none⟩,
  ⟨3, some 9, .assign (T 51), none⟩] []
abbrev b284x16 : BC := .reg [⟨0, some 52, .move (T 9), none⟩,
  ⟨1, some 53, .move (T 1), none⟩,
  ⟨2, some 54, .binOp .lss 3 (T 52) (T 53) 3, none⟩] []
abbrev b284x17 : BC := .reg [⟨0, some 55, .move (T 0), none⟩,
  ⟨1, some 56, .move (T 7), none⟩,
  ⟨2, some 57, .move (T 9), none⟩,
  ⟨3, some 58, .move (T 1), none⟩,
  ⟨4, some 59, .move (T 2), none⟩,
  ⟨5, some 60, .call ⟨.value (.func 334), #[(T 55), (T 56), (T 57), (T 58), (T 59)], #[26, 3, 3, 3, 292]⟩, none⟩] []
abbrev b284x18 : BC := .reg [⟨0, some 61, .move (T 6), none⟩,
  ⟨1, some 62, .binOp .mul 3 (T 61) (K 2) 3, none⟩,
  ⟨2, some 6, .assign (T 62), none⟩] []
abbrev b284x19 : BC := .seq b284x9 (.seq (.block 4 b284x14) (.seq (.seq b284x15 (.seq b284x16 (.cond (T 54) b284x17 .skip))) b284x18))
abbrev b284x20 : BC := .loop (.seq (.seq b284x8 (.cond (T 30) .skip (.exit 2))) (.block 3 b284x19))
abbrev b284 : BC := .seq b284x0 (.seq b284x1 (.seq (.block 0 b284x6) (.seq b284x7 (.block 2 b284x20))))
theorem c284 : Tryz.f284.body.bind (compile Tryz.f284.ntmps) = some b284 := by kernel_rfl
theorem ok284 : EntryOK Tryz.prog (284, ⟨63, b284, #[]⟩) := ⟨Tryz.f284, Tryz.func284, c284, Tryz.ntmps284, by kernel_rfl, Tryz.call284⟩
/-! cmp.isNaN[int] -/
abbrev b285x0 : BC := .reg [⟨0, some 2, .assign (.const (.bool false)), none⟩] []
abbrev b285x1 : BC := .reg [⟨0, some 3, .move (T 0), none⟩,
  ⟨1, some 4, .move (T 0), none⟩,
  ⟨2, some 5, .binOp .neq 3 (T 3) (T 4) 3, none⟩,
  ⟨3, some 2, .assign (T 5), none⟩] []
abbrev b285 : BC := .seq b285x0 (.seq b285x1 .ret)
theorem c285 : Tryz.f285.body.bind (compile Tryz.f285.ntmps) = some b285 := by kernel_rfl
theorem ok285 : EntryOK Tryz.prog (285, ⟨6, b285, #[.tmp 2]⟩) := ⟨Tryz.f285, Tryz.func285, c285, Tryz.ntmps285, by kernel_rfl, Tryz.call285⟩
/-! cmp.Less[int] -/
abbrev b288x0 : BC := .reg [⟨0, some 4, .assign (.const (.bool false)), none⟩] []
abbrev b288x1 : BC := .reg [⟨0, some 5, .move (T 0), none⟩,
  ⟨1, some 6, .call ⟨.value (.func 285), #[(T 5)], #[3]⟩, none⟩,
  ⟨2, some 7, .move (T 6), none⟩,
  ⟨3, some 8, .move (T 1), some (7, true)⟩,
  ⟨4, some 9, .call ⟨.value (.func 285), #[(T 8)], #[3]⟩, some (7, true)⟩,
  ⟨5, some 10, .unOp .not 4 (T 9), some (7, true)⟩,
  ⟨6, some 11, .pick (T 7) (T 10) (.const (.bool false)), none⟩,
  ⟨7, some 12, .move (T 11), none⟩,
  ⟨8, some 13, .move (T 0), some (12, false)⟩,
  ⟨9, some 14, .move (T 1), some (12, false)⟩,
  ⟨10, some 15, .binOp .lss 3 (T 13) (T 14) 3, some (12, false)⟩,
  ⟨11, some 16, .pick (T 12) (.const (.bool true)) (T 15), none⟩,
  ⟨12, some 4, .assign (T 16), none⟩] []
abbrev b288 : BC := .seq b288x0 (.seq b288x1 .ret)
theorem c288 : Tryz.f288.body.bind (compile Tryz.f288.ntmps) = some b288 := by kernel_rfl
theorem ok288 : EntryOK Tryz.prog (288, ⟨17, b288, #[.tmp 4]⟩) := ⟨Tryz.f288, Tryz.func288, c288, Tryz.ntmps288, by kernel_rfl, Tryz.call288⟩
/-! scarfjoint/token.next -/
abbrev b292x0 : BC := .reg [⟨0, some 2, .assign (K 0), none⟩,
  ⟨1, some 3, .assign (K 0), none⟩,
  ⟨2, some 4, .assign (K 0), none⟩] []
abbrev b292x1 : BC := .reg [⟨0, some 10, .move (T 0), none⟩,
  ⟨1, some 11, .index 9 (T 10) (K 0), none⟩,
  ⟨2, some 5, .assign (T 11), none⟩] []
abbrev b292x2 : BC := .reg [⟨0, some 13, .move (T 5), none⟩,
  ⟨1, some 14, .call ⟨.value (.func 340), #[(T 13)], #[5]⟩, none⟩,
  ⟨2, some 12, .assign (T 14), none⟩] []
abbrev b292x3 : BC := .reg [⟨0, some 15, .move (T 0), none⟩,
  ⟨1, some 16, .call ⟨.value (.func 341), #[(T 15), (.func 342)], #[9, 379]⟩, none⟩,
  ⟨2, some 6, .assign (T 16), none⟩] []
abbrev b292x4 : BC := .reg [⟨0, some 17, .move (T 6), none⟩,
  ⟨1, some 18, .binOp .gtr 3 (T 17) (K 20) 3, none⟩] []
abbrev b292x5 : BC := .reg [⟨0, some 2, .assign (K 0), none⟩,
  ⟨1, some 3, .assign (K 0), none⟩,
  ⟨2, some 4, .assign (K 3), none⟩] []
abbrev b292x6 : BC := .reg [⟨0, some 19, .move (T 6), none⟩,
  ⟨1, some 2, .assign (K 1), none⟩,
  ⟨2, some 3, .assign (T 19), none⟩,
  ⟨3, some 4, .assign (K 0), none⟩] []
abbrev b292x7 : BC := .reg [⟨0, some 21, .move (T 5), none⟩,
  ⟨1, some 22, .call ⟨.value (.func 343), #[(T 21)], #[5]⟩, none⟩,
  ⟨2, some 20, .assign (T 22), none⟩] []
abbrev b292x8 : BC := .reg [⟨0, some 23, .move (T 0), none⟩,
  ⟨1, some 24, .call ⟨.value (.func 341), #[(T 23), (.func 343)], #[9, 379]⟩, none⟩,
  ⟨2, some 7, .assign (T 24), none⟩] []
abbrev b292x9 : BC := .reg [⟨0, some 25, .move (T 7), none⟩,
  ⟨1, some 26, .binOp .gtr 3 (T 25) (K 9) 3, none⟩] []
abbrev b292x10 : BC := .reg [⟨0, some 2, .assign (K 0), none⟩,
  ⟨1, some 3, .assign (K 0), none⟩,
  ⟨2, some 4, .assign (K 3), none⟩] []
abbrev b292x11 : BC := .reg [⟨0, some 27, .move (T 7), none⟩,
  ⟨1, some 2, .assign (K 2), none⟩,
  ⟨2, some 3, .assign (T 27), none⟩,
  ⟨3, some 4, .assign (K 0), none⟩] []
abbrev b292x12 : BC := .reg [⟨0, some 29, .move (T 5), none⟩,
  ⟨1, some 30, .binOp .eql 5 (T 29) (.const (.int .u8 34)) 5, none⟩,
  ⟨2, some 28, .assign (T 30), none⟩] []
abbrev b292x13 : BC := .reg [⟨0, some 32, .move (T 0), none⟩,
  ⟨1, some 33, .call ⟨.value (.func 344), #[(T 32)], #[9]⟩, none⟩,
  ⟨2, some 31, .move (T 33), none⟩,
  ⟨3, some 34, .extract (T 31) 0, none⟩,
  ⟨4, some 35, .extract (T 31) 1, none⟩,
  ⟨5, some 8, .assign (T 34), none⟩,
  ⟨6, some 9, .assign (T 35), none⟩] []
abbrev b292x14 : BC := .reg [⟨0, some 36, .move (T 8), none⟩,
  ⟨1, some 37, .move (T 9), none⟩,
  ⟨2, some 2, .assign (K 3), none⟩,
  ⟨3, some 3, .assign (T 36), none⟩,
  ⟨4, some 4, .assign (T 37), none⟩] []
abbrev b292x15 : BC := .reg [⟨0, some 39, .move (T 0), none⟩,
  ⟨1, some 40, .call ⟨.value (.func 345), #[(T 39)], #[9]⟩, none⟩,
  ⟨2, some 38, .assign (T 40), none⟩] []
abbrev b292x16 : BC := .reg [⟨0, some 2, .assign (K 4), none⟩,
  ⟨1, some 3, .assign (K 2), none⟩,
  ⟨2, some 4, .assign (K 0), none⟩] []
abbrev b292x17 : BC := .reg [⟨0, some 42, .move (T 5), none⟩,
  ⟨1, some 43, .call ⟨.value (.func 346), #[(.const (.string ⟨#[123, 125, 40, 41, 91, 93, 44, 59, 58, 61, 43, 45, 42, 60, 62, 33, 38, 124, 46, 63]⟩)), (T 42)], #[9, 5]⟩, none⟩,
  ⟨2, some 44, .binOp .geq 3 (T 43) (K 0) 3, none⟩,
  ⟨3, some 41, .assign (T 44), none⟩] []
abbrev b292x18 : BC := .reg [⟨0, some 2, .assign (K 4), none⟩,
  ⟨1, some 3, .assign (K 1), none⟩,
  ⟨2, some 4, .assign (K 0), none⟩] []
abbrev b292x19 : BC := .seq b292x15 (.cond (T 38) (.seq b292x16 .ret) (.seq b292x17 (.cond (T 41) (.seq b292x18 .ret) .skip)))
abbrev b292x20 : BC := .cond (T 20) (.seq b292x8 (.seq (.seq b292x9 (.cond (T 26) (.seq b292x10 .ret) .skip)) (.seq b292x11 .ret))) (.seq b292x12 (.cond (T 28) (.seq b292x13 (.seq b292x14 .ret)) b292x19))
abbrev b292x21 : BC := .cond (T 12) (.seq b292x3 (.seq (.seq b292x4 (.cond (T 18) (.seq b292x5 .ret) .skip)) (.seq b292x6 .ret))) (.seq b292x7 b292x20)
abbrev b292x22 : BC := .reg [⟨0, some 2, .assign (K 0), none⟩,
  ⟨1, some 3, .assign (K 0), none⟩,
  ⟨2, some 4, .assign (K 2), none⟩] []
abbrev b292 : BC := .seq b292x0 (.seq b292x1 (.seq (.block 0 (.seq b292x2 b292x21)) (.seq b292x22 .ret)))
theorem c292 : Tryz.f292.body.bind (compile Tryz.f292.ntmps) = some b292 := by kernel_rfl
theorem ok292 : EntryOK Tryz.prog (292, ⟨45, b292, #[.tmp 2, .tmp 3, .tmp 4]⟩) := ⟨Tryz.f292, Tryz.func292, c292, Tryz.ntmps292, by kernel_rfl, Tryz.call292⟩
/-! slices.insertionSortOrdered[int] -/
abbrev b310x0 : BC := .reg [⟨0, some 8, .move (T 1), none⟩,
  ⟨1, some 9, .binOp .add 3 (T 8) (K 1) 3, none⟩,
  ⟨2, some 6, .assign (T 9), none⟩] []
abbrev b310x1 : BC := .reg [⟨0, some 10, .move (T 6), none⟩,
  ⟨1, some 11, .move (T 2), none⟩,
  ⟨2, some 12, .binOp .lss 3 (T 10) (T 11) 3, none⟩] []
abbrev b310x2 : BC := .reg [⟨0, some 15, .move (T 6), none⟩,
  ⟨1, some 7, .assign (T 15), none⟩] []
abbrev b310x3 : BC := .reg [⟨0, some 16, .move (T 7), none⟩,
  ⟨1, some 17, .move (T 1), none⟩,
  ⟨2, some 18, .binOp .gtr 3 (T 16) (T 17) 3, none⟩,
  ⟨3, some 19, .move (T 18), none⟩,
  ⟨4, some 20, .move (T 0), some (19, true)⟩,
  ⟨5, some 21, .move (T 7), some (19, true)⟩,
  ⟨6, some 22, .indexAddr 26 (T 20) (T 21), some (19, true)⟩,
  ⟨7, some 23, .load 3 (T 22), some (19, true)⟩,
  ⟨8, some 24, .move (T 0), some (19, true)⟩,
  ⟨9, some 25, .move (T 7), some (19, true)⟩,
  ⟨10, some 26, .binOp .sub 3 (T 25) (K 1) 3, some (19, true)⟩,
  ⟨11, some 27, .indexAddr 26 (T 24) (T 26), some (19, true)⟩,
  ⟨12, some 28, .load 3 (T 27), some (19, true)⟩,
  ⟨13, some 29, .call ⟨.value (.func 288), #[(T 23), (T 28)], #[3, 3]⟩, some (19, true)⟩,
  ⟨14, some 30, .pick (T 19) (T 29) (.const (.bool false)), none⟩] [(0, 1), (4, 5), (4, 8), (5, 8), (6, 8), (7, 8), (4, 9), (5, 9), (6, 9), (7, 9), (8, 9), (4, 10), (5, 10), (6, 10), (7, 10), (8, 10), (4, 11), (5, 11), (6, 11), (7, 11), (4, 12), (5, 12), (6, 12), (7, 12)]
abbrev b310x4 : BC := .reg [⟨0, some 33, .move (T 0), none⟩,
  ⟨1, some 34, .move (T 7), none⟩,
  ⟨2, some 35, .move (T 0), none⟩,
  ⟨3, some 36, .move (T 7), none⟩,
  ⟨4, some 37, .binOp .sub 3 (T 36) (K 1) 3, none⟩,
  ⟨5, some 38, .move (T 0), none⟩,
  ⟨6, some 39, .move (T 7), none⟩,
  ⟨7, some 40, .binOp .sub 3 (T 39) (K 1) 3, none⟩,
  ⟨8, some 41, .indexAddr 26 (T 38) (T 40), none⟩,
  ⟨9, some 42, .load 3 (T 41), none⟩,
  ⟨10, some 43, .move (T 0), none⟩,
  ⟨11, some 44, .move (T 7), none⟩,
  ⟨12, some 45, .indexAddr 26 (T 43) (T 44), none⟩,
  ⟨13, some 46, .load 3 (T 45), none⟩,
  ⟨14, some 47, .indexAddr 26 (T 33) (T 34), none⟩,
  ⟨15, none, .store 3 (T 47) (T 42), none⟩,
  ⟨16, some 48, .indexAddr 26 (T 35) (T 37), none⟩,
  ⟨17, none, .store 3 (T 48) (T 46), none⟩] [(0, 1), (0, 2), (1, 2), (0, 3), (1, 3), (2, 3), (0, 4), (1, 4), (2, 4), (0, 5), (1, 5), (2, 5), (3, 5), (4, 5), (0, 6), (1, 6), (2, 6), (3, 6), (4, 6), (5, 6), (0, 7), (1, 7), (2, 7), (3, 7), (4, 7), (5, 7), (0, 8), (1, 8), (2, 8), (3, 8), (4, 8), (0, 9), (1, 9), (2, 9), (3, 9), (4, 9), (0, 10), (1, 10), (2, 10), (3, 10), (4, 10), (5, 10), (6, 10), (7, 10), (8, 10), (9, 10), (0, 11), (1, 11), (2, 11), (3, 11), (4, 11), (5, 11), (6, 11), (7, 11), (8, 11), (9, 11), (10, 11), (0, 12), (1, 12), (2, 12), (3, 12), (4, 12), (5, 12), (6, 12), (7, 12), (8, 12), (9, 12), (0, 13), (1, 13), (2, 13), (3, 13), (4, 13), (5, 13), (6, 13), (7, 13), (8, 13), (9, 13), (2, 14), (3, 14), (4, 14), (2, 15), (3, 15), (4, 15)]
abbrev b310x5 : BC := .reg [⟨0, some 31, .move (T 7), none⟩,
  ⟨1, some 32, .binOp .sub 3 (T 31) (K 1) 3, none⟩,
  ⟨2, some 7, .assign (T 32), none⟩] []
abbrev b310x6 : BC := .loop (.seq (.seq b310x3 (.cond (T 30) .skip (.exit 2))) (.seq (.block 3 b310x4) b310x5))
abbrev b310x7 : BC := .reg [⟨0, some 13, .move (T 6), none⟩,
  ⟨1, some 14, .binOp .add 3 (T 13) (K 1) 3, none⟩,
  ⟨2, some 6, .assign (T 14), none⟩] []
abbrev b310x8 : BC := .seq (.seq b310x1 (.cond (T 12) .skip (.exit 0))) (.seq (.block 1 (.seq b310x2 (.block 2 b310x6))) b310x7)
abbrev b310x9 : BC := .loop b310x8
abbrev b310 : BC := .seq b310x0 (.block 0 b310x9)
theorem c310 : Tryz.f310.body.bind (compile Tryz.f310.ntmps) = some b310 := by kernel_rfl
theorem ok310 : EntryOK Tryz.prog (310, ⟨49, b310, #[]⟩) := ⟨Tryz.f310, Tryz.func310, c310, Tryz.ntmps310, by kernel_rfl, Tryz.call310⟩
/-! slices.heapSortOrdered[int] -/
abbrev b311x0 : BC := .reg [⟨0, some 11, .move (T 1), none⟩,
  ⟨1, some 6, .assign (T 11), none⟩] []
abbrev b311x1 : BC := .reg [⟨0, some 7, .assign (K 0), none⟩] []
abbrev b311x2 : BC := .reg [⟨0, some 12, .move (T 2), none⟩,
  ⟨1, some 13, .move (T 1), none⟩,
  ⟨2, some 14, .binOp .sub 3 (T 12) (T 13) 3, none⟩,
  ⟨3, some 8, .assign (T 14), none⟩] []
abbrev b311x3 : BC := .reg [⟨0, some 15, .move (T 8), none⟩,
  ⟨1, some 16, .binOp .sub 3 (T 15) (K 1) 3, none⟩,
  ⟨2, some 17, .binOp .quo 3 (T 16) (K 2) 3, none⟩,
  ⟨3, some 9, .assign (T 17), none⟩] []
abbrev b311x4 : BC := .reg [⟨0, some 18, .move (T 9), none⟩,
  ⟨1, some 19, .binOp .geq 3 (T 18) (K 0) 3, none⟩] []
abbrev b311x5 : BC := .reg [⟨0, some 22, .move (T 0), none⟩,
  ⟨1, some 23, .move (T 9), none⟩,
  ⟨2, some 24, .move (T 8), none⟩,
  ⟨3, some 25, .move (T 6), none⟩,
  ⟨4, some 26, .call ⟨.value (.func 360), #[(T 22), (T 23), (T 24), (T 25)], #[26, 3, 3, 3]⟩, none⟩] []
abbrev b311x6 : BC := .reg [⟨0, some 20, .move (T 9), none⟩,
  ⟨1, some 21, .binOp .sub 3 (T 20) (K 1) 3, none⟩,
  ⟨2, some 9, .assign (T 21), none⟩] []
abbrev b311x7 : BC := .loop (.seq (.seq b311x4 (.cond (T 19) .skip (.exit 0))) (.seq (.block 1 b311x5) b311x6))
abbrev b311x8 : BC := .reg [⟨0, some 27, .move (T 8), none⟩,
  ⟨1, some 28, .binOp .sub 3 (T 27) (K 1) 3, none⟩,
  ⟨2, some 10, .assign (T 28), none⟩] []
abbrev b311x9 : BC := .reg [⟨0, some 29, .move (T 10), none⟩,
  ⟨1, some 30, .binOp .geq 3 (T 29) (K 0) 3, none⟩] []
abbrev b311x10 : BC := .reg [⟨0, some 33, .move (T 0), none⟩,
  ⟨1, some 34, .move (T 6), none⟩,
  ⟨2, some 35, .move (T 0), none⟩,
  ⟨3, some 36, .move (T 6), none⟩,
  ⟨4, some 37, .move (T 10), none⟩,
  ⟨5, some 38, .binOp .add 3 (T 36) (T 37) 3, none⟩,
  ⟨6, some 39, .move (T 0), none⟩,
  ⟨7, some 40, .move (T 6), none⟩,
  ⟨8, some 41, .move (T 10), none⟩,
  ⟨9, some 42, .binOp .add 3 (T 40) (T 41) 3, none⟩,
  ⟨10, some 43, .indexAddr 26 (T 39) (T 42), none⟩,
  ⟨11, some 44, .load 3 (T 43), none⟩,
  ⟨12, some 45, .move (T 0), none⟩,
  ⟨13, some 46, .move (T 6), none⟩,
  ⟨14, some 47, .indexAddr 26 (T 45) (T 46), none⟩,
  ⟨15, some 48, .load 3 (T 47), none⟩,
  ⟨16, some 49, .indexAddr 26 (T 33) (T 34), none⟩,
  ⟨17, none, .store 3 (T 49) (T 44), none⟩,
  ⟨18, some 50, .indexAddr 26 (T 35) (T 38), none⟩,
  ⟨19, none, .store 3 (T 50) (T 48), none⟩] [(0, 1), (0, 2), (1, 2), (0, 3), (1, 3), (2, 3), (0, 4), (1, 4), (2, 4), (3, 4), (0, 5), (1, 5), (2, 5), (0, 6), (1, 6), (2, 6), (3, 6), (4, 6), (5, 6), (0, 7), (1, 7), (2, 7), (3, 7), (4, 7), (5, 7), (6, 7), (0, 8), (1, 8), (2, 8), (3, 8), (4, 8), (5, 8), (6, 8), (7, 8), (0, 9), (1, 9), (2, 9), (3, 9), (4, 9), (5, 9), (6, 9), (0, 10), (1, 10), (2, 10), (3, 10), (4, 10), (5, 10), (0, 11), (1, 11), (2, 11), (3, 11), (4, 11), (5, 11), (0, 12), (1, 12), (2, 12), (3, 12), (4, 12), (5, 12), (6, 12), (7, 12), (8, 12), (9, 12), (10, 12), (11, 12), (0, 13), (1, 13), (2, 13), (3, 13), (4, 13), (5, 13), (6, 13), (7, 13), (8, 13), (9, 13), (10, 13), (11, 13), (12, 13), (0, 14), (1, 14), (2, 14), (3, 14), (4, 14), (5, 14), (6, 14), (7, 14), (8, 14), (9, 14), (10, 14), (11, 14), (0, 15), (1, 15), (2, 15), (3, 15), (4, 15), (5, 15), (6, 15), (7, 15), (8, 15), (9, 15), (10, 15), (11, 15), (2, 16), (3, 16), (4, 16), (5, 16), (2, 17), (3, 17), (4, 17), (5, 17)]
abbrev b311x11 : BC := .reg [⟨0, some 51, .move (T 0), none⟩,
  ⟨1, some 52, .move (T 7), none⟩,
  ⟨2, some 53, .move (T 10), none⟩,
  ⟨3, some 54, .move (T 6), none⟩,
  ⟨4, some 55, .call ⟨.value (.func 360), #[(T 51), (T 52), (T 53), (T 54)], #[26, 3, 3, 3]⟩, none⟩] []
abbrev b311x12 : BC := .reg [⟨0, some 31, .move (T 10), none⟩,
  ⟨1, some 32, .binOp .sub 3 (T 31) (K 1) 3, none⟩,
  ⟨2, some 10, .assign (T 32), none⟩] []
abbrev b311x13 : BC := .loop (.seq (.seq b311x9 (.cond (T 30) .skip (.exit 2))) (.seq (.block 3 (.seq b311x10 b311x11)) b311x12))
abbrev b311x14 : BC := .seq b311x0 (.seq b311x1 (.seq b311x2 (.seq (.seq b311x3 (.block 0 b311x7)) (.seq b311x8 (.block 2 b311x13)))))
abbrev b311 : BC := b311x14
theorem c311 : Tryz.f311.body.bind (compile Tryz.f311.ntmps) = some b311 := by kernel_rfl
theorem ok311 : EntryOK Tryz.prog (311, ⟨56, b311, #[]⟩) := ⟨Tryz.f311, Tryz.func311, c311, Tryz.ntmps311, by kernel_rfl, Tryz.call311⟩
/-! slices.breakPatternsOrdered[int] -/
abbrev b312x0 : BC := .reg [⟨0, some 11, .move (T 2), none⟩,
  ⟨1, some 12, .move (T 1), none⟩,
  ⟨2, some 13, .binOp .sub 3 (T 11) (T 12) 3, none⟩,
  ⟨3, some 6, .assign (T 13), none⟩] []
abbrev b312x1 : BC := .reg [⟨0, some 14, .move (T 6), none⟩,
  ⟨1, some 15, .binOp .geq 3 (T 14) (K 8) 3, none⟩] []
abbrev b312x2 : BC := .reg [⟨0, some 16, .move (T 6), none⟩,
  ⟨1, some 17, .convert 3 388 (T 16), none⟩,
  ⟨2, some 7, .alloc 388, none⟩,
  ⟨3, none, .store 388 (T 7) (T 17), none⟩] []
abbrev b312x3 : BC := .reg [⟨0, some 18, .move (T 6), none⟩,
  ⟨1, some 19, .call ⟨.value (.func 361), #[(T 18)], #[3]⟩, none⟩,
  ⟨2, some 8, .assign (T 19), none⟩] []
abbrev b312x4 : BC := .reg [⟨0, some 20, .move (T 1), none⟩,
  ⟨1, some 21, .move (T 6), none⟩,
  ⟨2, some 22, .binOp .quo 3 (T 21) (K 4) 3, none⟩,
  ⟨3, some 23, .binOp .mul 3 (T 22) (K 2) 3, none⟩,
  ⟨4, some 24, .binOp .add 3 (T 20) (T 23) 3, none⟩,
  ⟨5, some 25, .binOp .sub 3 (T 24) (K 1) 3, none⟩,
  ⟨6, some 9, .assign (T 25), none⟩] []
abbrev b312x5 : BC := .reg [⟨0, some 26, .move (T 9), none⟩,
  ⟨1, some 27, .move (T 1), none⟩,
  ⟨2, some 28, .move (T 6), none⟩,
  ⟨3, some 29, .binOp .quo 3 (T 28) (K 4) 3, none⟩,
  ⟨4, some 30, .binOp .mul 3 (T 29) (K 2) 3, none⟩,
  ⟨5, some 31, .binOp .add 3 (T 27) (T 30) 3, none⟩,
  ⟨6, some 32, .binOp .add 3 (T 31) (K 1) 3, none⟩,
  ⟨7, some 33, .binOp .leq 3 (T 26) (T 32) 3, none⟩] []
abbrev b312x6 : BC := .reg [⟨0, some 36, .call ⟨.value (.func 362), #[(T 7)], #[388]⟩, none⟩,
  ⟨1, some 37, .move (T 8), none⟩,
  ⟨2, some 38, .binOp .sub 321 (T 37) (.const (.int .u64 1)) 321, none⟩,
  ⟨3, some 39, .binOp .and 321 (T 36) (T 38) 321, none⟩,
  ⟨4, some 40, .convert 321 3 (T 39), none⟩,
  ⟨5, some 10, .assign (T 40), none⟩] []
abbrev b312x7 : BC := .reg [⟨0, some 41, .move (T 10), none⟩,
  ⟨1, some 42, .move (T 6), none⟩,
  ⟨2, some 43, .binOp .geq 3 (T 41) (T 42) 3, none⟩] []
abbrev b312x8 : BC := .reg [⟨0, some 44, .move (T 10), none⟩,
  ⟨1, some 45, .move (T 6), none⟩,
  ⟨2, some 46, .binOp .sub 3 (T 44) (T 45) 3, none⟩,
  ⟨3, some 10, .assign (T 46), none⟩] []
abbrev b312x9 : BC := .reg [⟨0, some 47, .move (T 0), none⟩,
  ⟨1, some 48, .move (T 9), none⟩,
  ⟨2, some 49, .move (T 0), none⟩,
  ⟨3, some 50, .move (T 1), none⟩,
  ⟨4, some 51, .move (T 10), none⟩,
  ⟨5, some 52, .binOp .add 3 (T 50) (T 51) 3, none⟩,
  ⟨6, some 53, .move (T 0), none⟩,
  ⟨7, some 54, .move (T 1), none⟩,
  ⟨8, some 55, .move (T 10), none⟩,
  ⟨9, some 56, .binOp .add 3 (T 54) (T 55) 3, none⟩,
  ⟨10, some 57, .indexAddr 26 (T 53) (T 56), none⟩,
  ⟨11, some 58, .load 3 (T 57), none⟩,
  ⟨12, some 59, .move (T 0), none⟩,
  ⟨13, some 60, .move (T 9), none⟩,
  ⟨14, some 61, .indexAddr 26 (T 59) (T 60), none⟩,
  ⟨15, some 62, .load 3 (T 61), none⟩,
  ⟨16, some 63, .indexAddr 26 (T 47) (T 48), none⟩,
  ⟨17, none, .store 3 (T 63) (T 58), none⟩,
  ⟨18, some 64, .indexAddr 26 (T 49) (T 52), none⟩,
  ⟨19, none, .store 3 (T 64) (T 62), none⟩] [(0, 1), (0, 2), (1, 2), (0, 3), (1, 3), (2, 3), (0, 4), (1, 4), (2, 4), (3, 4), (0, 5), (1, 5), (2, 5), (0, 6), (1, 6), (2, 6), (3, 6), (4, 6), (5, 6), (0, 7), (1, 7), (2, 7), (3, 7), (4, 7), (5, 7), (6, 7), (0, 8), (1, 8), (2, 8), (3, 8), (4, 8), (5, 8), (6, 8), (7, 8), (0, 9), (1, 9), (2, 9), (3, 9), (4, 9), (5, 9), (6, 9), (0, 10), (1, 10), (2, 10), (3, 10), (4, 10), (5, 10), (0, 11), (1, 11), (2, 11), (3, 11), (4, 11), (5, 11), (0, 12), (1, 12), (2, 12), (3, 12), (4, 12), (5, 12), (6, 12), (7, 12), (8, 12), (9, 12), (10, 12), (11, 12), (0, 13), (1, 13), (2, 13), (3, 13), (4, 13), (5, 13), (6, 13), (7, 13), (8, 13), (9, 13), (10, 13), (11, 13), (12, 13), (0, 14), (1, 14), (2, 14), (3, 14), (4, 14), (5, 14), (6, 14), (7, 14), (8, 14), (9, 14), (10, 14), (11, 14), (0, 15), (1, 15), (2, 15), (3, 15), (4, 15), (5, 15), (6, 15), (7, 15), (8, 15), (9, 15), (10, 15), (11, 15), (2, 16), (3, 16), (4, 16), (5, 16), (2, 17), (3, 17), (4, 17), (5, 17)]
abbrev b312x10 : BC := .reg [⟨0, some 34, .move (T 9), none⟩,
  ⟨1, some 35, .binOp .add 3 (T 34) (K 1) 3, none⟩,
  ⟨2, some 9, .assign (T 35), none⟩] []
abbrev b312x11 : BC := .seq (.seq b312x5 (.cond (T 33) .skip (.exit 0))) (.seq (.block 1 (.seq b312x6 (.seq (.seq b312x7 (.cond (T 43) b312x8 .skip)) b312x9))) b312x10)
abbrev b312x12 : BC := .loop b312x11
abbrev b312x13 : BC := .seq b312x0 (.seq b312x1 (.cond (T 15) (.seq b312x2 (.seq b312x3 (.seq b312x4 (.block 0 b312x12)))) .skip))
abbrev b312 : BC := b312x13
theorem c312 : Tryz.f312.body.bind (compile Tryz.f312.ntmps) = some b312 := by kernel_rfl
theorem ok312 : EntryOK Tryz.prog (312, ⟨65, b312, #[]⟩) := ⟨Tryz.f312, Tryz.func312, c312, Tryz.ntmps312, by kernel_rfl, Tryz.call312⟩
/-! slices.choosePivotOrdered[int] -/
abbrev b313x0 : BC := .reg [⟨0, some 6, .assign (K 0), none⟩,
  ⟨1, some 7, .assign (K 0), none⟩] []
abbrev b313x1 : BC := .reg [⟨0, some 13, .move (T 2), none⟩,
  ⟨1, some 14, .move (T 1), none⟩,
  ⟨2, some 15, .binOp .sub 3 (T 13) (T 14) 3, none⟩,
  ⟨3, some 8, .assign (T 15), none⟩] []
abbrev b313x2 : BC := .reg [⟨0, some 9, .alloc 3, none⟩] []
abbrev b313x3 : BC := .reg [⟨0, some 16, .move (T 1), none⟩,
  ⟨1, some 17, .move (T 8), none⟩,
  ⟨2, some 18, .binOp .quo 3 (T 17) (K 4) 3, none⟩,
  ⟨3, some 19, .binOp .mul 3 (T 18) (K 1) 3, none⟩,
  ⟨4, some 20, .binOp .add 3 (T 16) (T 19) 3, none⟩,
  ⟨5, some 10, .assign (T 20), none⟩] []
abbrev b313x4 : BC := .reg [⟨0, some 21, .move (T 1), none⟩,
  ⟨1, some 22, .move (T 8), none⟩,
  ⟨2, some 23, .binOp .quo 3 (T 22) (K 4) 3, none⟩,
  ⟨3, some 24, .binOp .mul 3 (T 23) (K 2) 3, none⟩,
  ⟨4, some 25, .binOp .add 3 (T 21) (T 24) 3, none⟩,
  ⟨5, some 11, .assign (T 25), none⟩] []
abbrev b313x5 : BC := .reg [⟨0, some 26, .move (T 1), none⟩,
  ⟨1, some 27, .move (T 8), none⟩,
  ⟨2, some 28, .binOp .quo 3 (T 27) (K 4) 3, none⟩,
  ⟨3, some 29, .binOp .mul 3 (T 28) (K 3) 3, none⟩,
  ⟨4, some 30, .binOp .add 3 (T 26) (T 29) 3, none⟩,
  ⟨5, some 12, .assign (T 30), none⟩] []
abbrev b313x6 : BC := .reg [⟨0, some 31, .move (T 8), none⟩,
  ⟨1, some 32, .binOp .geq 3 (T 31) (K 8) 3, none⟩] []
abbrev b313x7 : BC := .reg [⟨0, some 33, .move (T 8), none⟩,
  ⟨1, some 34, .binOp .geq 3 (T 33) (K 50) 3, none⟩] []
abbrev b313x8 : BC := .reg [⟨0, some 35, .move (T 0), none⟩,
  ⟨1, some 36, .move (T 10), none⟩,
  ⟨2, some 37, .call ⟨.value (.func 363), #[(T 35), (T 36), (T 9)], #[26, 3, 392]⟩, none⟩,
  ⟨3, some 10, .assign (T 37), none⟩] []
abbrev b313x9 : BC := .reg [⟨0, some 38, .move (T 0), none⟩,
  ⟨1, some 39, .move (T 11), none⟩,
  ⟨2, some 40, .call ⟨.value (.func 363), #[(T 38), (T 39), (T 9)], #[26, 3, 392]⟩, none⟩,
  ⟨3, some 11, .assign (T 40), none⟩] []
abbrev b313x10 : BC := .reg [⟨0, some 41, .move (T 0), none⟩,
  ⟨1, some 42, .move (T 12), none⟩,
  ⟨2, some 43, .call ⟨.value (.func 363), #[(T 41), (T 42), (T 9)], #[26, 3, 392]⟩, none⟩,
  ⟨3, some 12, .assign (T 43), none⟩] []
abbrev b313x11 : BC := .reg [⟨0, some 44, .move (T 0), none⟩,
  ⟨1, some 45, .move (T 10), none⟩,
  ⟨2, some 46, .move (T 11), none⟩,
  ⟨3, some 47, .move (T 12), none⟩,
  ⟨4, some 48, .call ⟨.value (.func 364), #[(T 44), (T 45), (T 46), (T 47), (T 9)], #[26, 3, 3, 3, 392]⟩, none⟩,
  ⟨5, some 11, .assign (T 48), none⟩] []
abbrev b313x12 : BC := .cond (T 32) (.seq (.seq b313x7 (.cond (T 34) (.seq b313x8 (.seq b313x9 b313x10)) .skip)) b313x11) .skip
abbrev b313x13 : BC := .reg [⟨0, some 49, .load 3 (T 9), none⟩] []
abbrev b313x14 : BC := .reg [⟨0, some 52, .binOp .eql 3 (T 49) (K 0) 3, none⟩,
  ⟨1, some 51, .assign (T 52), none⟩] []
abbrev b313x15 : BC := .reg [⟨0, some 53, .move (T 11), none⟩,
  ⟨1, some 6, .assign (T 53), none⟩,
  ⟨2, some 7, .assign (K 1), none⟩] []
abbrev b313x16 : BC := .reg [⟨0, some 55, .binOp .eql 3 (T 49) (K 12) 3, none⟩,
  ⟨1, some 54, .assign (T 55), none⟩] []
abbrev b313x17 : BC := .reg [⟨0, some 56, .move (T 11), none⟩,
  ⟨1, some 6, .assign (T 56), none⟩,
  ⟨2, some 7, .assign (K 2), none⟩] []
abbrev b313x18 : BC := .reg [⟨0, some 50, .move (T 11), none⟩,
  ⟨1, some 6, .assign (T 50), none⟩,
  ⟨2, some 7, .assign (K 0), none⟩] []
abbrev b313x19 : BC := .cond (T 51) (.seq b313x15 .ret) (.seq b313x16 (.cond (T 54) (.seq b313x17 .ret) (.seq b313x18 .ret)))
abbrev b313x20 : BC := .seq b313x4 (.seq b313x5 (.seq (.seq b313x6 b313x12) (.seq b313x13 (.block 0 (.seq b313x14 b313x19)))))
abbrev b313 : BC := .seq b313x0 (.seq b313x1 (.seq b313x2 (.seq b313x3 b313x20)))
theorem c313 : Tryz.f313.body.bind (compile Tryz.f313.ntmps) = some b313 := by kernel_rfl
theorem ok313 : EntryOK Tryz.prog (313, ⟨57, b313, #[.tmp 6, .tmp 7]⟩) := ⟨Tryz.f313, Tryz.func313, c313, Tryz.ntmps313, by kernel_rfl, Tryz.call313⟩
/-! slices.reverseRangeOrdered[int] -/
abbrev b314x0 : BC := .reg [⟨0, some 8, .move (T 1), none⟩,
  ⟨1, some 6, .assign (T 8), none⟩] []
abbrev b314x1 : BC := .reg [⟨0, some 9, .move (T 2), none⟩,
  ⟨1, some 10, .binOp .sub 3 (T 9) (K 1) 3, none⟩,
  ⟨2, some 7, .assign (T 10), none⟩] []
abbrev b314x2 : BC := .reg [⟨0, some 11, .move (T 6), none⟩,
  ⟨1, some 12, .move (T 7), none⟩,
  ⟨2, some 13, .binOp .lss 3 (T 11) (T 12) 3, none⟩] []
abbrev b314x3 : BC := .reg [⟨0, some 14, .move (T 0), none⟩,
  ⟨1, some 15, .move (T 6), none⟩,
  ⟨2, some 16, .move (T 0), none⟩,
  ⟨3, some 17, .move (T 7), none⟩,
  ⟨4, some 18, .move (T 0), none⟩,
  ⟨5, some 19, .move (T 7), none⟩,
  ⟨6, some 20, .indexAddr 26 (T 18) (T 19), none⟩,
  ⟨7, some 21, .load 3 (T 20), none⟩,
  ⟨8, some 22, .move (T 0), none⟩,
  ⟨9, some 23, .move (T 6), none⟩,
  ⟨10, some 24, .indexAddr 26 (T 22) (T 23), none⟩,
  ⟨11, some 25, .load 3 (T 24), none⟩,
  ⟨12, some 26, .indexAddr 26 (T 14) (T 15), none⟩,
  ⟨13, none, .store 3 (T 26) (T 21), none⟩,
  ⟨14, some 27, .indexAddr 26 (T 16) (T 17), none⟩,
  ⟨15, none, .store 3 (T 27) (T 25), none⟩] [(0, 1), (0, 2), (1, 2), (0, 3), (1, 3), (2, 3), (0, 4), (1, 4), (2, 4), (3, 4), (0, 5), (1, 5), (2, 5), (3, 5), (4, 5), (0, 6), (1, 6), (2, 6), (3, 6), (0, 7), (1, 7), (2, 7), (3, 7), (0, 8), (1, 8), (2, 8), (3, 8), (4, 8), (5, 8), (6, 8), (7, 8), (0, 9), (1, 9), (2, 9), (3, 9), (4, 9), (5, 9), (6, 9), (7, 9), (8, 9), (0, 10), (1, 10), (2, 10), (3, 10), (4, 10), (5, 10), (6, 10), (7, 10), (0, 11), (1, 11), (2, 11), (3, 11), (4, 11), (5, 11), (6, 11), (7, 11), (2, 12), (3, 12), (2, 13), (3, 13)]
abbrev b314x4 : BC := .reg [⟨0, some 28, .move (T 6), none⟩,
  ⟨1, some 29, .binOp .add 3 (T 28) (K 1) 3, none⟩,
  ⟨2, some 6, .assign (T 29), none⟩] []
abbrev b314x5 : BC := .reg [⟨0, some 30, .move (T 7), none⟩,
  ⟨1, some 31, .binOp .sub 3 (T 30) (K 1) 3, none⟩,
  ⟨2, some 7, .assign (T 31), none⟩] []
abbrev b314x6 : BC := .loop (.seq (.seq b314x2 (.cond (T 13) .skip (.exit 0))) (.block 1 (.seq b314x3 (.seq b314x4 b314x5))))
abbrev b314 : BC := .seq b314x0 (.seq b314x1 (.block 0 b314x6))
theorem c314 : Tryz.f314.body.bind (compile Tryz.f314.ntmps) = some b314 := by kernel_rfl
theorem ok314 : EntryOK Tryz.prog (314, ⟨32, b314, #[]⟩) := ⟨Tryz.f314, Tryz.func314, c314, Tryz.ntmps314, by kernel_rfl, Tryz.call314⟩
/-! slices.partialInsertionSortOrdered[int] -/
abbrev b315x0 : BC := .reg [⟨0, some 6, .assign (.const (.bool false)), none⟩] []
abbrev b315x1 : BC := .reg [⟨0, some 11, .move (T 1), none⟩,
  ⟨1, some 12, .binOp .add 3 (T 11) (K 1) 3, none⟩,
  ⟨2, some 7, .assign (T 12), none⟩] []
abbrev b315x2 : BC := .reg [⟨0, some 8, .assign (K 0), none⟩] []
abbrev b315x3 : BC := .reg [⟨0, some 13, .move (T 8), none⟩,
  ⟨1, some 14, .binOp .lss 3 (T 13) (K 5) 3, none⟩] []
abbrev b315x4 : BC := .reg [⟨0, some 17, .move (T 7), none⟩,
  ⟨1, some 18, .move (T 2), none⟩,
  ⟨2, some 19, .binOp .lss 3 (T 17) (T 18) 3, none⟩,
  ⟨3, some 20, .move (T 19), none⟩,
  ⟨4, some 21, .move (T 0), some (20, true)⟩,
  ⟨5, some 22, .move (T 7), some (20, true)⟩,
  ⟨6, some 23, .indexAddr 26 (T 21) (T 22), some (20, true)⟩,
  ⟨7, some 24, .load 3 (T 23), some (20, true)⟩,
  ⟨8, some 25, .move (T 0), some (20, true)⟩,
  ⟨9, some 26, .move (T 7), some (20, true)⟩,
  ⟨10, some 27, .binOp .sub 3 (T 26) (K 1) 3, some (20, true)⟩,
  ⟨11, some 28, .indexAddr 26 (T 25) (T 27), some (20, true)⟩,
  ⟨12, some 29, .load 3 (T 28), some (20, true)⟩,
  ⟨13, some 30, .call ⟨.value (.func 288), #[(T 24), (T 29)], #[3, 3]⟩, some (20, true)⟩,
  ⟨14, some 31, .unOp .not 4 (T 30), some (20, true)⟩,
  ⟨15, some 32, .pick (T 20) (T 31) (.const (.bool false)), none⟩] [(0, 1), (4, 5), (4, 8), (5, 8), (6, 8), (7, 8), (4, 9), (5, 9), (6, 9), (7, 9), (8, 9), (4, 10), (5, 10), (6, 10), (7, 10), (8, 10), (4, 11), (5, 11), (6, 11), (7, 11), (4, 12), (5, 12), (6, 12), (7, 12)]
abbrev b315x5 : BC := .reg [⟨0, some 33, .move (T 7), none⟩,
  ⟨1, some 34, .binOp .add 3 (T 33) (K 1) 3, none⟩,
  ⟨2, some 7, .assign (T 34), none⟩] []
abbrev b315x6 : BC := .loop (.seq (.seq b315x4 (.cond (T 32) .skip (.exit 2))) (.block 3 b315x5))
abbrev b315x7 : BC := .reg [⟨0, some 35, .move (T 7), none⟩,
  ⟨1, some 36, .move (T 2), none⟩,
  ⟨2, some 37, .binOp .eql 3 (T 35) (T 36) 3, none⟩] []
abbrev b315x8 : BC := .reg [⟨0, some 6, .assign (.const (.bool true)), none⟩] []
abbrev b315x9 : BC := .reg [⟨0, some 38, .move (T 2), none⟩,
  ⟨1, some 39, .move (T 1), none⟩,
  ⟨2, some 40, .binOp .sub 3 (T 38) (T 39) 3, none⟩,
  ⟨3, some 41, .binOp .lss 3 (T 40) (K 50) 3, none⟩] []
abbrev b315x10 : BC := .reg [⟨0, some 6, .assign (.const (.bool false)), none⟩] []
abbrev b315x11 : BC := .reg [⟨0, some 42, .move (T 0), none⟩,
  ⟨1, some 43, .move (T 7), none⟩,
  ⟨2, some 44, .move (T 0), none⟩,
  ⟨3, some 45, .move (T 7), none⟩,
  ⟨4, some 46, .binOp .sub 3 (T 45) (K 1) 3, none⟩,
  ⟨5, some 47, .move (T 0), none⟩,
  ⟨6, some 48, .move (T 7), none⟩,
  ⟨7, some 49, .binOp .sub 3 (T 48) (K 1) 3, none⟩,
  ⟨8, some 50, .indexAddr 26 (T 47) (T 49), none⟩,
  ⟨9, some 51, .load 3 (T 50), none⟩,
  ⟨10, some 52, .move (T 0), none⟩,
  ⟨11, some 53, .move (T 7), none⟩,
  ⟨12, some 54, .indexAddr 26 (T 52) (T 53), none⟩,
  ⟨13, some 55, .load 3 (T 54), none⟩,
  ⟨14, some 56, .indexAddr 26 (T 42) (T 43), none⟩,
  ⟨15, none, .store 3 (T 56) (T 51), none⟩,
  ⟨16, some 57, .indexAddr 26 (T 44) (T 46), none⟩,
  ⟨17, none, .store 3 (T 57) (T 55), none⟩] [(0, 1), (0, 2), (1, 2), (0, 3), (1, 3), (2, 3), (0, 4), (1, 4), (2, 4), (0, 5), (1, 5), (2, 5), (3, 5), (4, 5), (0, 6), (1, 6), (2, 6), (3, 6), (4, 6), (5, 6), (0, 7), (1, 7), (2, 7), (3, 7), (4, 7), (5, 7), (0, 8), (1, 8), (2, 8), (3, 8), (4, 8), (0, 9), (1, 9), (2, 9), (3, 9), (4, 9), (0, 10), (1, 10), (2, 10), (3, 10), (4, 10), (5, 10), (6, 10), (7, 10), (8, 10), (9, 10), (0, 11), (1, 11), (2, 11), (3, 11), (4, 11), (5, 11), (6, 11), (7, 11), (8, 11), (9, 11), (10, 11), (0, 12), (1, 12), (2, 12), (3, 12), (4, 12), (5, 12), (6, 12), (7, 12), (8, 12), (9, 12), (0, 13), (1, 13), (2, 13), (3, 13), (4, 13), (5, 13), (6, 13), (7, 13), (8, 13), (9, 13), (2, 14), (3, 14), (4, 14), (2, 15), (3, 15), (4, 15)]
abbrev b315x12 : BC := .reg [⟨0, some 58, .move (T 7), none⟩,
  ⟨1, some 59, .move (T 1), none⟩,
  ⟨2, some 60, .binOp .sub 3 (T 58) (T 59) 3, none⟩,
  ⟨3, some 61, .binOp .geq 3 (T 60) (K 2) 3, none⟩] []
abbrev b315x13 : BC := .reg [⟨0, some 62, .move (T 7), none⟩,
  ⟨1, some 63, .binOp .sub 3 (T 62) (K 1) 3, none⟩,
  ⟨2, some 9, .assign (T 63), none⟩] []
abbrev b315x14 : BC := .reg [⟨0, some 64, .move (T 9), none⟩,
  ⟨1, some 65, .binOp .geq 3 (T 64) (K 1) 3, none⟩] []
abbrev b315x15 : BC := .reg [⟨0, some 68, .move (T 0), none⟩,
  ⟨1, some 69, .move (T 9), none⟩,
  ⟨2, some 70, .indexAddr 26 (T 68) (T 69), none⟩,
  ⟨3, some 71, .load 3 (T 70), none⟩,
  ⟨4, some 72, .move (T 0), none⟩,
  ⟨5, some 73, .move (T 9), none⟩,
  ⟨6, some 74, .binOp .sub 3 (T 73) (K 1) 3, none⟩,
  ⟨7, some 75, .indexAddr 26 (T 72) (T 74), none⟩,
  ⟨8, some 76, .load 3 (T 75), none⟩,
  ⟨9, some 77, .call ⟨.value (.func 288), #[(T 71), (T 76)], #[3, 3]⟩, none⟩,
  ⟨10, some 78, .unOp .not 4 (T 77), none⟩] [(0, 1), (0, 4), (1, 4), (2, 4), (3, 4), (0, 5), (1, 5), (2, 5), (3, 5), (4, 5), (0, 6), (1, 6), (2, 6), (3, 6), (4, 6), (0, 7), (1, 7), (2, 7), (3, 7), (0, 8), (1, 8), (2, 8), (3, 8)]
abbrev b315x16 : BC := .reg [⟨0, some 79, .move (T 0), none⟩,
  ⟨1, some 80, .move (T 9), none⟩,
  ⟨2, some 81, .move (T 0), none⟩,
  ⟨3, some 82, .move (T 9), none⟩,
  ⟨4, some 83, .binOp .sub 3 (T 82) (K 1) 3, none⟩,
  ⟨5, some 84, .move (T 0), none⟩,
  ⟨6, some 85, .move (T 9), none⟩,
  ⟨7, some 86, .binOp .sub 3 (T 85) (K 1) 3, none⟩,
  ⟨8, some 87, .indexAddr 26 (T 84) (T 86), none⟩,
  ⟨9, some 88, .load 3 (T 87), none⟩,
  ⟨10, some 89, .move (T 0), none⟩,
  ⟨11, some 90, .move (T 9), none⟩,
  ⟨12, some 91, .indexAddr 26 (T 89) (T 90), none⟩,
  ⟨13, some 92, .load 3 (T 91), none⟩,
  ⟨14, some 93, .indexAddr 26 (T 79) (T 80), none⟩,
  ⟨15, none, .store 3 (T 93) (T 88), none⟩,
  ⟨16, some 94, .indexAddr 26 (T 81) (T 83), none⟩,
  ⟨17, none, .store 3 (T 94) (T 92), none⟩] [(0, 1), (0, 2), (1, 2), (0, 3), (1, 3), (2, 3), (0, 4), (1, 4), (2, 4), (0, 5), (1, 5), (2, 5), (3, 5), (4, 5), (0, 6), (1, 6), (2, 6), (3, 6), (4, 6), (5, 6), (0, 7), (1, 7), (2, 7), (3, 7), (4, 7), (5, 7), (0, 8), (1, 8), (2, 8), (3, 8), (4, 8), (0, 9), (1, 9), (2, 9), (3, 9), (4, 9), (0, 10), (1, 10), (2, 10), (3, 10), (4, 10), (5, 10), (6, 10), (7, 10), (8, 10), (9, 10), (0, 11), (1, 11), (2, 11), (3, 11), (4, 11), (5, 11), (6, 11), (7, 11), (8, 11), (9, 11), (10, 11), (0, 12), (1, 12), (2, 12), (3, 12), (4, 12), (5, 12), (6, 12), (7, 12), (8, 12), (9, 12), (0, 13), (1, 13), (2, 13), (3, 13), (4, 13), (5, 13), (6, 13), (7, 13), (8, 13), (9, 13), (2, 14), (3, 14), (4, 14), (2, 15), (3, 15), (4, 15)]
abbrev b315x17 : BC := .reg [⟨0, some 66, .move (T 9), none⟩,
  ⟨1, some 67, .binOp .sub 3 (T 66) (K 1) 3, none⟩,
  ⟨2, some 9, .assign (T 67), none⟩] []
abbrev b315x18 : BC := .seq (.seq b315x14 (.cond (T 65) .skip (.exit 4))) (.seq (.block 5 (.seq (.seq b315x15 (.cond (T 78) (.exit 4) .skip)) b315x16)) b315x17)
abbrev b315x19 : BC := .loop b315x18
abbrev b315x20 : BC := .reg [⟨0, some 95, .move (T 2), none⟩,
  ⟨1, some 96, .move (T 7), none⟩,
  ⟨2, some 97, .binOp .sub 3 (T 95) (T 96) 3, none⟩,
  ⟨3, some 98, .binOp .geq 3 (T 97) (K 2) 3, none⟩] []
abbrev b315x21 : BC := .reg [⟨0, some 99, .move (T 7), none⟩,
  ⟨1, some 100, .binOp .add 3 (T 99) (K 1) 3, none⟩,
  ⟨2, some 10, .assign (T 100), none⟩] []
abbrev b315x22 : BC := .reg [⟨0, some 101, .move (T 10), none⟩,
  ⟨1, some 102, .move (T 2), none⟩,
  ⟨2, some 103, .binOp .lss 3 (T 101) (T 102) 3, none⟩] []
abbrev b315x23 : BC := .reg [⟨0, some 106, .move (T 0), none⟩,
  ⟨1, some 107, .move (T 10), none⟩,
  ⟨2, some 108, .indexAddr 26 (T 106) (T 107), none⟩,
  ⟨3, some 109, .load 3 (T 108), none⟩,
  ⟨4, some 110, .move (T 0), none⟩,
  ⟨5, some 111, .move (T 10), none⟩,
  ⟨6, some 112, .binOp .sub 3 (T 111) (K 1) 3, none⟩,
  ⟨7, some 113, .indexAddr 26 (T 110) (T 112), none⟩,
  ⟨8, some 114, .load 3 (T 113), none⟩,
  ⟨9, some 115, .call ⟨.value (.func 288), #[(T 109), (T 114)], #[3, 3]⟩, none⟩,
  ⟨10, some 116, .unOp .not 4 (T 115), none⟩] [(0, 1), (0, 4), (1, 4), (2, 4), (3, 4), (0, 5), (1, 5), (2, 5), (3, 5), (4, 5), (0, 6), (1, 6), (2, 6), (3, 6), (4, 6), (0, 7), (1, 7), (2, 7), (3, 7), (0, 8), (1, 8), (2, 8), (3, 8)]
abbrev b315x24 : BC := .reg [⟨0, some 117, .move (T 0), none⟩,
  ⟨1, some 118, .move (T 10), none⟩,
  ⟨2, some 119, .move (T 0), none⟩,
  ⟨3, some 120, .move (T 10), none⟩,
  ⟨4, some 121, .binOp .sub 3 (T 120) (K 1) 3, none⟩,
  ⟨5, some 122, .move (T 0), none⟩,
  ⟨6, some 123, .move (T 10), none⟩,
  ⟨7, some 124, .binOp .sub 3 (T 123) (K 1) 3, none⟩,
  ⟨8, some 125, .indexAddr 26 (T 122) (T 124), none⟩,
  ⟨9, some 126, .load 3 (T 125), none⟩,
  ⟨10, some 127, .move (T 0), none⟩,
  ⟨11, some 128, .move (T 10), none⟩,
  ⟨12, some 129, .indexAddr 26 (T 127) (T 128), none⟩,
  ⟨13, some 130, .load 3 (T 129), none⟩,
  ⟨14, some 131, .indexAddr 26 (T 117) (T 118), none⟩,
  ⟨15, none, .store 3 (T 131) (T 126), none⟩,
  ⟨16, some 132, .indexAddr 26 (T 119) (T 121), none⟩,
  ⟨17, none, .store 3 (T 132) (T 130), none⟩] [(0, 1), (0, 2), (1, 2), (0, 3), (1, 3), (2, 3), (0, 4), (1, 4), (2, 4), (0, 5), (1, 5), (2, 5), (3, 5), (4, 5), (0, 6), (1, 6), (2, 6), (3, 6), (4, 6), (5, 6), (0, 7), (1, 7), (2, 7), (3, 7), (4, 7), (5, 7), (0, 8), (1, 8), (2, 8), (3, 8), (4, 8), (0, 9), (1, 9), (2, 9), (3, 9), (4, 9), (0, 10), (1, 10), (2, 10), (3, 10), (4, 10), (5, 10), (6, 10), (7, 10), (8, 10), (9, 10), (0, 11), (1, 11), (2, 11), (3, 11), (4, 11), (5, 11), (6, 11), (7, 11), (8, 11), (9, 11), (10, 11), (0, 12), (1, 12), (2, 12), (3, 12), (4, 12), (5, 12), (6, 12), (7, 12), (8, 12), (9, 12), (0, 13), (1, 13), (2, 13), (3, 13), (4, 13), (5, 13), (6, 13), (7, 13), (8, 13), (9, 13), (2, 14), (3, 14), (4, 14), (2, 15), (3, 15), (4, 15)]
abbrev b315x25 : BC := .reg [⟨0, some 104, .move (T 10), none⟩,
  ⟨1, some 105, .binOp .add 3 (T 104) (K 1) 3, none⟩,
  ⟨2, some 10, .assign (T 105), none⟩] []
abbrev b315x26 : BC := .seq (.seq b315x22 (.cond (T 103) .skip (.exit 6))) (.seq (.block 7 (.seq (.seq b315x23 (.cond (T 116) (.exit 6) .skip)) b315x24)) b315x25)
abbrev b315x27 : BC := .loop b315x26
abbrev b315x28 : BC := .seq (.seq b315x12 (.cond (T 61) (.seq b315x13 (.block 4 b315x19)) .skip)) (.seq b315x20 (.cond (T 98) (.seq b315x21 (.block 6 b315x27)) .skip))
abbrev b315x29 : BC := .seq (.seq b315x7 (.cond (T 37) (.seq b315x8 .ret) .skip)) (.seq (.seq b315x9 (.cond (T 41) (.seq b315x10 .ret) .skip)) (.seq b315x11 b315x28))
abbrev b315x30 : BC := .reg [⟨0, some 15, .move (T 8), none⟩,
  ⟨1, some 16, .binOp .add 3 (T 15) (K 1) 3, none⟩,
  ⟨2, some 8, .assign (T 16), none⟩] []
abbrev b315x31 : BC := .seq (.seq b315x3 (.cond (T 14) .skip (.exit 0))) (.seq (.block 1 (.seq (.block 2 b315x6) b315x29)) b315x30)
abbrev b315x32 : BC := .loop b315x31
abbrev b315x33 : BC := .reg [⟨0, some 6, .assign (.const (.bool false)), none⟩] []
abbrev b315 : BC := .seq b315x0 (.seq b315x1 (.seq (.seq b315x2 (.block 0 b315x32)) (.seq b315x33 .ret)))
theorem c315 : Tryz.f315.body.bind (compile Tryz.f315.ntmps) = some b315 := by kernel_rfl
theorem ok315 : EntryOK Tryz.prog (315, ⟨133, b315, #[.tmp 6]⟩) := ⟨Tryz.f315, Tryz.func315, c315, Tryz.ntmps315, by kernel_rfl, Tryz.call315⟩
/-! slices.partitionEqualOrdered[int] -/
abbrev b316x0 : BC := .reg [⟨0, some 8, .assign (K 0), none⟩] []
abbrev b316x1 : BC := .reg [⟨0, some 11, .move (T 0), none⟩,
  ⟨1, some 12, .move (T 1), none⟩,
  ⟨2, some 13, .move (T 0), none⟩,
  ⟨3, some 14, .move (T 3), none⟩,
  ⟨4, some 15, .move (T 0), none⟩,
  ⟨5, some 16, .move (T 3), none⟩,
  ⟨6, some 17, .indexAddr 26 (T 15) (T 16), none⟩,
  ⟨7, some 18, .load 3 (T 17), none⟩,
  ⟨8, some 19, .move (T 0), none⟩,
  ⟨9, some 20, .move (T 1), none⟩,
  ⟨10, some 21, .indexAddr 26 (T 19) (T 20), none⟩,
  ⟨11, some 22, .load 3 (T 21), none⟩,
  ⟨12, some 23, .indexAddr 26 (T 11) (T 12), none⟩,
  ⟨13, none, .store 3 (T 23) (T 18), none⟩,
  ⟨14, some 24, .indexAddr 26 (T 13) (T 14), none⟩,
  ⟨15, none, .store 3 (T 24) (T 22), none⟩] [(0, 1), (0, 2), (1, 2), (0, 3), (1, 3), (2, 3), (0, 4), (1, 4), (2, 4), (3, 4), (0, 5), (1, 5), (2, 5), (3, 5), (4, 5), (0, 6), (1, 6), (2, 6), (3, 6), (0, 7), (1, 7), (2, 7), (3, 7), (0, 8), (1, 8), (2, 8), (3, 8), (4, 8), (5, 8), (6, 8), (7, 8), (0, 9), (1, 9), (2, 9), (3, 9), (4, 9), (5, 9), (6, 9), (7, 9), (8, 9), (0, 10), (1, 10), (2, 10), (3, 10), (4, 10), (5, 10), (6, 10), (7, 10), (0, 11), (1, 11), (2, 11), (3, 11), (4, 11), (5, 11), (6, 11), (7, 11), (2, 12), (3, 12), (2, 13), (3, 13)]
abbrev b316x2 : BC := .reg [⟨0, some 25, .move (T 1), none⟩,
  ⟨1, some 26, .binOp .add 3 (T 25) (K 1) 3, none⟩,
  ⟨2, some 27, .move (T 2), none⟩,
  ⟨3, some 28, .binOp .sub 3 (T 27) (K 1) 3, none⟩,
  ⟨4, some 9, .assign (T 26), none⟩,
  ⟨5, some 10, .assign (T 28), none⟩] []
abbrev b316x3 : BC := .reg [⟨0, some 29, .move (T 9), none⟩,
  ⟨1, some 30, .move (T 10), none⟩,
  ⟨2, some 31, .binOp .leq 3 (T 29) (T 30) 3, none⟩,
  ⟨3, some 32, .move (T 31), none⟩,
  ⟨4, some 33, .move (T 0), some (32, true)⟩,
  ⟨5, some 34, .move (T 1), some (32, true)⟩,
  ⟨6, some 35, .indexAddr 26 (T 33) (T 34), some (32, true)⟩,
  ⟨7, some 36, .load 3 (T 35), some (32, true)⟩,
  ⟨8, some 37, .move (T 0), some (32, true)⟩,
  ⟨9, some 38, .move (T 9), some (32, true)⟩,
  ⟨10, some 39, .indexAddr 26 (T 37) (T 38), some (32, true)⟩,
  ⟨11, some 40, .load 3 (T 39), some (32, true)⟩,
  ⟨12, some 41, .call ⟨.value (.func 288), #[(T 36), (T 40)], #[3, 3]⟩, some (32, true)⟩,
  ⟨13, some 42, .unOp .not 4 (T 41), some (32, true)⟩,
  ⟨14, some 43, .pick (T 32) (T 42) (.const (.bool false)), none⟩] [(0, 1), (4, 5), (4, 8), (5, 8), (6, 8), (7, 8), (4, 9), (5, 9), (6, 9), (7, 9), (8, 9), (4, 10), (5, 10), (6, 10), (7, 10), (4, 11), (5, 11), (6, 11), (7, 11)]
abbrev b316x4 : BC := .reg [⟨0, some 44, .move (T 9), none⟩,
  ⟨1, some 45, .binOp .add 3 (T 44) (K 1) 3, none⟩,
  ⟨2, some 9, .assign (T 45), none⟩] []
abbrev b316x5 : BC := .loop (.seq (.seq b316x3 (.cond (T 43) .skip (.exit 2))) (.block 3 b316x4))
abbrev b316x6 : BC := .reg [⟨0, some 46, .move (T 9), none⟩,
  ⟨1, some 47, .move (T 10), none⟩,
  ⟨2, some 48, .binOp .leq 3 (T 46) (T 47) 3, none⟩,
  ⟨3, some 49, .move (T 48), none⟩,
  ⟨4, some 50, .move (T 0), some (49, true)⟩,
  ⟨5, some 51, .move (T 1), some (49, true)⟩,
  ⟨6, some 52, .indexAddr 26 (T 50) (T 51), some (49, true)⟩,
  ⟨7, some 53, .load 3 (T 52), some (49, true)⟩,
  ⟨8, some 54, .move (T 0), some (49, true)⟩,
  ⟨9, some 55, .move (T 10), some (49, true)⟩,
  ⟨10, some 56, .indexAddr 26 (T 54) (T 55), some (49, true)⟩,
  ⟨11, some 57, .load 3 (T 56), some (49, true)⟩,
  ⟨12, some 58, .call ⟨.value (.func 288), #[(T 53), (T 57)], #[3, 3]⟩, some (49, true)⟩,
  ⟨13, some 59, .pick (T 49) (T 58) (.const (.bool false)), none⟩] [(0, 1), (4, 5), (4, 8), (5, 8), (6, 8), (7, 8), (4, 9), (5, 9), (6, 9), (7, 9), (8, 9), (4, 10), (5, 10), (6, 10), (7, 10), (4, 11), (5, 11), (6, 11), (7, 11)]
abbrev b316x7 : BC := .reg [⟨0, some 60, .move (T 10), none⟩,
  ⟨1, some 61, .binOp .sub 3 (T 60) (K 1) 3, none⟩,
  ⟨2, some 10, .assign (T 61), none⟩] []
abbrev b316x8 : BC := .loop (.seq (.seq b316x6 (.cond (T 59) .skip (.exit 4))) (.block 5 b316x7))
abbrev b316x9 : BC := .reg [⟨0, some 62, .move (T 9), none⟩,
  ⟨1, some 63, .move (T 10), none⟩,
  ⟨2, some 64, .binOp .gtr 3 (T 62) (T 63) 3, none⟩] []
abbrev b316x10 : BC := .reg [⟨0, some 65, .move (T 0), none⟩,
  ⟨1, some 66, .move (T 9), none⟩,
  ⟨2, some 67, .move (T 0), none⟩,
  ⟨3, some 68, .move (T 10), none⟩,
  ⟨4, some 69, .move (T 0), none⟩,
  ⟨5, some 70, .move (T 10), none⟩,
  ⟨6, some 71, .indexAddr 26 (T 69) (T 70), none⟩,
  ⟨7, some 72, .load 3 (T 71), none⟩,
  ⟨8, some 73, .move (T 0), none⟩,
  ⟨9, some 74, .move (T 9), none⟩,
  ⟨10, some 75, .indexAddr 26 (T 73) (T 74), none⟩,
  ⟨11, some 76, .load 3 (T 75), none⟩,
  ⟨12, some 77, .indexAddr 26 (T 65) (T 66), none⟩,
  ⟨13, none, .store 3 (T 77) (T 72), none⟩,
  ⟨14, some 78, .indexAddr 26 (T 67) (T 68), none⟩,
  ⟨15, none, .store 3 (T 78) (T 76), none⟩] [(0, 1), (0, 2), (1, 2), (0, 3), (1, 3), (2, 3), (0, 4), (1, 4), (2, 4), (3, 4), (0, 5), (1, 5), (2, 5), (3, 5), (4, 5), (0, 6), (1, 6), (2, 6), (3, 6), (0, 7), (1, 7), (2, 7), (3, 7), (0, 8), (1, 8), (2, 8), (3, 8), (4, 8), (5, 8), (6, 8), (7, 8), (0, 9), (1, 9), (2, 9), (3, 9), (4, 9), (5, 9), (6, 9), (7, 9), (8, 9), (0, 10), (1, 10), (2, 10), (3, 10), (4, 10), (5, 10), (6, 10), (7, 10), (0, 11), (1, 11), (2, 11), (3, 11), (4, 11), (5, 11), (6, 11), (7, 11), (2, 12), (3, 12), (2, 13), (3, 13)]
abbrev b316x11 : BC := .reg [⟨0, some 79, .move (T 9), none⟩,
  ⟨1, some 80, .binOp .add 3 (T 79) (K 1) 3, none⟩,
  ⟨2, some 9, .assign (T 80), none⟩] []
abbrev b316x12 : BC := .reg [⟨0, some 81, .move (T 10), none⟩,
  ⟨1, some 82, .binOp .sub 3 (T 81) (K 1) 3, none⟩,
  ⟨2, some 10, .assign (T 82), none⟩] []
abbrev b316x13 : BC := .seq (.block 4 b316x8) (.seq (.seq b316x9 (.cond (T 64) (.exit 0) .skip)) (.seq b316x10 (.seq b316x11 b316x12)))
abbrev b316x14 : BC := .loop (.block 1 (.seq (.block 2 b316x5) b316x13))
abbrev b316x15 : BC := .reg [⟨0, some 83, .move (T 9), none⟩,
  ⟨1, some 8, .assign (T 83), none⟩] []
abbrev b316 : BC := .seq b316x0 (.seq b316x1 (.seq b316x2 (.seq (.block 0 b316x14) (.seq b316x15 .ret))))
theorem c316 : Tryz.f316.body.bind (compile Tryz.f316.ntmps) = some b316 := by kernel_rfl
theorem ok316 : EntryOK Tryz.prog (316, ⟨84, b316, #[.tmp 8]⟩) := ⟨Tryz.f316, Tryz.func316, c316, Tryz.ntmps316, by kernel_rfl, Tryz.call316⟩
/-! slices.partitionOrdered[int] -/
abbrev b317x0 : BC := .reg [⟨0, some 8, .assign (K 0), none⟩,
  ⟨1, some 9, .assign (.const (.bool false)), none⟩] []
abbrev b317x1 : BC := .reg [⟨0, some 12, .move (T 0), none⟩,
  ⟨1, some 13, .move (T 1), none⟩,
  ⟨2, some 14, .move (T 0), none⟩,
  ⟨3, some 15, .move (T 3), none⟩,
  ⟨4, some 16, .move (T 0), none⟩,
  ⟨5, some 17, .move (T 3), none⟩,
  ⟨6, some 18, .indexAddr 26 (T 16) (T 17), none⟩,
  ⟨7, some 19, .load 3 (T 18), none⟩,
  ⟨8, some 20, .move (T 0), none⟩,
  ⟨9, some 21, .move (T 1), none⟩,
  ⟨10, some 22, .indexAddr 26 (T 20) (T 21), none⟩,
  ⟨11, some 23, .load 3 (T 22), none⟩,
  ⟨12, some 24, .indexAddr 26 (T 12) (T 13), none⟩,
  ⟨13, none, .store 3 (T 24) (T 19), none⟩,
  ⟨14, some 25, .indexAddr 26 (T 14) (T 15), none⟩,
  ⟨15, none, .store 3 (T 25) (T 23), none⟩] [(0, 1), (0, 2), (1, 2), (0, 3), (1, 3), (2, 3), (0, 4), (1, 4), (2, 4), (3, 4), (0, 5), (1, 5), (2, 5), (3, 5), (4, 5), (0, 6), (1, 6), (2, 6), (3, 6), (0, 7), (1, 7), (2, 7), (3, 7), (0, 8), (1, 8), (2, 8), (3, 8), (4, 8), (5, 8), (6, 8), (7, 8), (0, 9), (1, 9), (2, 9), (3, 9), (4, 9), (5, 9), (6, 9), (7, 9), (8, 9), (0, 10), (1, 10), (2, 10), (3, 10), (4, 10), (5, 10), (6, 10), (7, 10), (0, 11), (1, 11), (2, 11), (3, 11), (4, 11), (5, 11), (6, 11), (7, 11), (2, 12), (3, 12), (2, 13), (3, 13)]
abbrev b317x2 : BC := .reg [⟨0, some 26, .move (T 1), none⟩,
  ⟨1, some 27, .binOp .add 3 (T 26) (K 1) 3, none⟩,
  ⟨2, some 28, .move (T 2), none⟩,
  ⟨3, some 29, .binOp .sub 3 (T 28) (K 1) 3, none⟩,
  ⟨4, some 10, .assign (T 27), none⟩,
  ⟨5, some 11, .assign (T 29), none⟩] []
abbrev b317x3 : BC := .reg [⟨0, some 30, .move (T 10), none⟩,
  ⟨1, some 31, .move (T 11), none⟩,
  ⟨2, some 32, .binOp .leq 3 (T 30) (T 31) 3, none⟩,
  ⟨3, some 33, .move (T 32), none⟩,
  ⟨4, some 34, .move (T 0), some (33, true)⟩,
  ⟨5, some 35, .move (T 10), some (33, true)⟩,
  ⟨6, some 36, .indexAddr 26 (T 34) (T 35), some (33, true)⟩,
  ⟨7, some 37, .load 3 (T 36), some (33, true)⟩,
  ⟨8, some 38, .move (T 0), some (33, true)⟩,
  ⟨9, some 39, .move (T 1), some (33, true)⟩,
  ⟨10, some 40, .indexAddr 26 (T 38) (T 39), some (33, true)⟩,
  ⟨11, some 41, .load 3 (T 40), some (33, true)⟩,
  ⟨12, some 42, .call ⟨.value (.func 288), #[(T 37), (T 41)], #[3, 3]⟩, some (33, true)⟩,
  ⟨13, some 43, .pick (T 33) (T 42) (.const (.bool false)), none⟩] [(0, 1), (4, 5), (4, 8), (5, 8), (6, 8), (7, 8), (4, 9), (5, 9), (6, 9), (7, 9), (8, 9), (4, 10), (5, 10), (6, 10), (7, 10), (4, 11), (5, 11), (6, 11), (7, 11)]
abbrev b317x4 : BC := .reg [⟨0, some 44, .move (T 10), none⟩,
  ⟨1, some 45, .binOp .add 3 (T 44) (K 1) 3, none⟩,
  ⟨2, some 10, .assign (T 45), none⟩] []
abbrev b317x5 : BC := .loop (.seq (.seq b317x3 (.cond (T 43) .skip (.exit 0))) (.block 1 b317x4))
abbrev b317x6 : BC := .reg [⟨0, some 46, .move (T 10), none⟩,
  ⟨1, some 47, .move (T 11), none⟩,
  ⟨2, some 48, .binOp .leq 3 (T 46) (T 47) 3, none⟩,
  ⟨3, some 49, .move (T 48), none⟩,
  ⟨4, some 50, .move (T 0), some (49, true)⟩,
  ⟨5, some 51, .move (T 11), some (49, true)⟩,
  ⟨6, some 52, .indexAddr 26 (T 50) (T 51), some (49, true)⟩,
  ⟨7, some 53, .load 3 (T 52), some (49, true)⟩,
  ⟨8, some 54, .move (T 0), some (49, true)⟩,
  ⟨9, some 55, .move (T 1), some (49, true)⟩,
  ⟨10, some 56, .indexAddr 26 (T 54) (T 55), some (49, true)⟩,
  ⟨11, some 57, .load 3 (T 56), some (49, true)⟩,
  ⟨12, some 58, .call ⟨.value (.func 288), #[(T 53), (T 57)], #[3, 3]⟩, some (49, true)⟩,
  ⟨13, some 59, .unOp .not 4 (T 58), some (49, true)⟩,
  ⟨14, some 60, .pick (T 49) (T 59) (.const (.bool false)), none⟩] [(0, 1), (4, 5), (4, 8), (5, 8), (6, 8), (7, 8), (4, 9), (5, 9), (6, 9), (7, 9), (8, 9), (4, 10), (5, 10), (6, 10), (7, 10), (4, 11), (5, 11), (6, 11), (7, 11)]
abbrev b317x7 : BC := .reg [⟨0, some 61, .move (T 11), none⟩,
  ⟨1, some 62, .binOp .sub 3 (T 61) (K 1) 3, none⟩,
  ⟨2, some 11, .assign (T 62), none⟩] []
abbrev b317x8 : BC := .loop (.seq (.seq b317x6 (.cond (T 60) .skip (.exit 2))) (.block 3 b317x7))
abbrev b317x9 : BC := .reg [⟨0, some 63, .move (T 10), none⟩,
  ⟨1, some 64, .move (T 11), none⟩,
  ⟨2, some 65, .binOp .gtr 3 (T 63) (T 64) 3, none⟩] []
abbrev b317x10 : BC := .reg [⟨0, some 66, .move (T 0), none⟩,
  ⟨1, some 67, .move (T 11), none⟩,
  ⟨2, some 68, .move (T 0), none⟩,
  ⟨3, some 69, .move (T 1), none⟩,
  ⟨4, some 70, .move (T 0), none⟩,
  ⟨5, some 71, .move (T 1), none⟩,
  ⟨6, some 72, .indexAddr 26 (T 70) (T 71), none⟩,
  ⟨7, some 73, .load 3 (T 72), none⟩,
  ⟨8, some 74, .move (T 0), none⟩,
  ⟨9, some 75, .move (T 11), none⟩,
  ⟨10, some 76, .indexAddr 26 (T 74) (T 75), none⟩,
  ⟨11, some 77, .load 3 (T 76), none⟩,
  ⟨12, some 78, .indexAddr 26 (T 66) (T 67), none⟩,
  ⟨13, none, .store 3 (T 78) (T 73), none⟩,
  ⟨14, some 79, .indexAddr 26 (T 68) (T 69), none⟩,
  ⟨15, none, .store 3 (T 79) (T 77), none⟩] [(0, 1), (0, 2), (1, 2), (0, 3), (1, 3), (2, 3), (0, 4), (1, 4), (2, 4), (3, 4), (0, 5), (1, 5), (2, 5), (3, 5), (4, 5), (0, 6), (1, 6), (2, 6), (3, 6), (0, 7), (1, 7), (2, 7), (3, 7), (0, 8), (1, 8), (2, 8), (3, 8), (4, 8), (5, 8), (6, 8), (7, 8), (0, 9), (1, 9), (2, 9), (3, 9), (4, 9), (5, 9), (6, 9), (7, 9), (8, 9), (0, 10), (1, 10), (2, 10), (3, 10), (4, 10), (5, 10), (6, 10), (7, 10), (0, 11), (1, 11), (2, 11), (3, 11), (4, 11), (5, 11), (6, 11), (7, 11), (2, 12), (3, 12), (2, 13), (3, 13)]
abbrev b317x11 : BC := .reg [⟨0, some 80, .move (T 11), none⟩,
  ⟨1, some 8, .assign (T 80), none⟩,
  ⟨2, some 9, .assign (.const (.bool true)), none⟩] []
abbrev b317x12 : BC := .reg [⟨0, some 81, .move (T 0), none⟩,
  ⟨1, some 82, .move (T 10), none⟩,
  ⟨2, some 83, .move (T 0), none⟩,
  ⟨3, some 84, .move (T 11), none⟩,
  ⟨4, some 85, .move (T 0), none⟩,
  ⟨5, some 86, .move (T 11), none⟩,
  ⟨6, some 87, .indexAddr 26 (T 85) (T 86), none⟩,
  ⟨7, some 88, .load 3 (T 87), none⟩,
  ⟨8, some 89, .move (T 0), none⟩,
  ⟨9, some 90, .move (T 10), none⟩,
  ⟨10, some 91, .indexAddr 26 (T 89) (T 90), none⟩,
  ⟨11, some 92, .load 3 (T 91), none⟩,
  ⟨12, some 93, .indexAddr 26 (T 81) (T 82), none⟩,
  ⟨13, none, .store 3 (T 93) (T 88), none⟩,
  ⟨14, some 94, .indexAddr 26 (T 83) (T 84), none⟩,
  ⟨15, none, .store 3 (T 94) (T 92), none⟩] [(0, 1), (0, 2), (1, 2), (0, 3), (1, 3), (2, 3), (0, 4), (1, 4), (2, 4), (3, 4), (0, 5), (1, 5), (2, 5), (3, 5), (4, 5), (0, 6), (1, 6), (2, 6), (3, 6), (0, 7), (1, 7), (2, 7), (3, 7), (0, 8), (1, 8), (2, 8), (3, 8), (4, 8), (5, 8), (6, 8), (7, 8), (0, 9), (1, 9), (2, 9), (3, 9), (4, 9), (5, 9), (6, 9), (7, 9), (8, 9), (0, 10), (1, 10), (2, 10), (3, 10), (4, 10), (5, 10), (6, 10), (7, 10), (0, 11), (1, 11), (2, 11), (3, 11), (4, 11), (5, 11), (6, 11), (7, 11), (2, 12), (3, 12), (2, 13), (3, 13)]
abbrev b317x13 : BC := .reg [⟨0, some 95, .move (T 10), none⟩,
  ⟨1, some 96, .binOp .add 3 (T 95) (K 1) 3, none⟩,
  ⟨2, some 10, .assign (T 96), none⟩] []
abbrev b317x14 : BC := .reg [⟨0, some 97, .move (T 11), none⟩,
  ⟨1, some 98, .binOp .sub 3 (T 97) (K 1) 3, none⟩,
  ⟨2, some 11, .assign (T 98), none⟩] []
abbrev b317x15 : BC := .reg [⟨0, some 99, .move (T 10), none⟩,
  ⟨1, some 100, .move (T 11), none⟩,
  ⟨2, some 101, .binOp .leq 3 (T 99) (T 100) 3, none⟩,
  ⟨3, some 102, .move (T 101), none⟩,
  ⟨4, some 103, .move (T 0), some (102, true)⟩,
  ⟨5, some 104, .move (T 10), some (102, true)⟩,
  ⟨6, some 105, .indexAddr 26 (T 103) (T 104), some (102, true)⟩,
  ⟨7, some 106, .load 3 (T 105), some (102, true)⟩,
  ⟨8, some 107, .move (T 0), some (102, true)⟩,
  ⟨9, some 108, .move (T 1), some (102, true)⟩,
  ⟨10, some 109, .indexAddr 26 (T 107) (T 108), some (102, true)⟩,
  ⟨11, some 110, .load 3 (T 109), some (102, true)⟩,
  ⟨12, some 111, .call ⟨.value (.func 288), #[(T 106), (T 110)], #[3, 3]⟩, some (102, true)⟩,
  ⟨13, some 112, .pick (T 102) (T 111) (.const (.bool false)), none⟩] [(0, 1), (4, 5), (4, 8), (5, 8), (6, 8), (7, 8), (4, 9), (5, 9), (6, 9), (7, 9), (8, 9), (4, 10), (5, 10), (6, 10), (7, 10), (4, 11), (5, 11), (6, 11), (7, 11)]
abbrev b317x16 : BC := .reg [⟨0, some 113, .move (T 10), none⟩,
  ⟨1, some 114, .binOp .add 3 (T 113) (K 1) 3, none⟩,
  ⟨2, some 10, .assign (T 114), none⟩] []
abbrev b317x17 : BC := .loop (.seq (.seq b317x15 (.cond (T 112) .skip (.exit 6))) (.block 7 b317x16))
abbrev b317x18 : BC := .reg [⟨0, some 115, .move (T 10), none⟩,
  ⟨1, some 116, .move (T 11), none⟩,
  ⟨2, some 117, .binOp .leq 3 (T 115) (T 116) 3, none⟩,
  ⟨3, some 118, .move (T 117), none⟩,
  ⟨4, some 119, .move (T 0), some (118, true)⟩,
  ⟨5, some 120, .move (T 11), some (118, true)⟩,
  ⟨6, some 121, .indexAddr 26 (T 119) (T 120), some (118, true)⟩,
  ⟨7, some 122, .load 3 (T 121), some (118, true)⟩,
  ⟨8, some 123, .move (T 0), some (118, true)⟩,
  ⟨9, some 124, .move (T 1), some (118, true)⟩,
  ⟨10, some 125, .indexAddr 26 (T 123) (T 124), some (118, true)⟩,
  ⟨11, some 126, .load 3 (T 125), some (118, true)⟩,
  ⟨12, some 127, .call ⟨.value (.func 288), #[(T 122), (T 126)], #[3, 3]⟩, some (118, true)⟩,
  ⟨13, some 128, .unOp .not 4 (T 127), some (118, true)⟩,
  ⟨14, some 129, .pick (T 118) (T 128) (.const (.bool false)), none⟩] [(0, 1), (4, 5), (4, 8), (5, 8), (6, 8), (7, 8), (4, 9), (5, 9), (6, 9), (7, 9), (8, 9), (4, 10), (5, 10), (6, 10), (7, 10), (4, 11), (5, 11), (6, 11), (7, 11)]
abbrev b317x19 : BC := .reg [⟨0, some 130, .move (T 11), none⟩,
  ⟨1, some 131, .binOp .sub 3 (T 130) (K 1) 3, none⟩,
  ⟨2, some 11, .assign (T 131), none⟩] []
abbrev b317x20 : BC := .loop (.seq (.seq b317x18 (.cond (T 129) .skip (.exit 8))) (.block 9 b317x19))
abbrev b317x21 : BC := .reg [⟨0, some 132, .move (T 10), none⟩,
  ⟨1, some 133, .move (T 11), none⟩,
  ⟨2, some 134, .binOp .gtr 3 (T 132) (T 133) 3, none⟩] []
abbrev b317x22 : BC := .reg [⟨0, some 135, .move (T 0), none⟩,
  ⟨1, some 136, .move (T 10), none⟩,
  ⟨2, some 137, .move (T 0), none⟩,
  ⟨3, some 138, .move (T 11), none⟩,
  ⟨4, some 139, .move (T 0), none⟩,
  ⟨5, some 140, .move (T 11), none⟩,
  ⟨6, some 141, .indexAddr 26 (T 139) (T 140), none⟩,
  ⟨7, some 142, .load 3 (T 141), none⟩,
  ⟨8, some 143, .move (T 0), none⟩,
  ⟨9, some 144, .move (T 10), none⟩,
  ⟨10, some 145, .indexAddr 26 (T 143) (T 144), none⟩,
  ⟨11, some 146, .load 3 (T 145), none⟩,
  ⟨12, some 147, .indexAddr 26 (T 135) (T 136), none⟩,
  ⟨13, none, .store 3 (T 147) (T 142), none⟩,
  ⟨14, some 148, .indexAddr 26 (T 137) (T 138), none⟩,
  ⟨15, none, .store 3 (T 148) (T 146), none⟩] [(0, 1), (0, 2), (1, 2), (0, 3), (1, 3), (2, 3), (0, 4), (1, 4), (2, 4), (3, 4), (0, 5), (1, 5), (2, 5), (3, 5), (4, 5), (0, 6), (1, 6), (2, 6), (3, 6), (0, 7), (1, 7), (2, 7), (3, 7), (0, 8), (1, 8), (2, 8), (3, 8), (4, 8), (5, 8), (6, 8), (7, 8), (0, 9), (1, 9), (2, 9), (3, 9), (4, 9), (5, 9), (6, 9), (7, 9), (8, 9), (0, 10), (1, 10), (2, 10), (3, 10), (4, 10), (5, 10), (6, 10), (7, 10), (0, 11), (1, 11), (2, 11), (3, 11), (4, 11), (5, 11), (6, 11), (7, 11), (2, 12), (3, 12), (2, 13), (3, 13)]
abbrev b317x23 : BC := .reg [⟨0, some 149, .move (T 10), none⟩,
  ⟨1, some 150, .binOp .add 3 (T 149) (K 1) 3, none⟩,
  ⟨2, some 10, .assign (T 150), none⟩] []
abbrev b317x24 : BC := .reg [⟨0, some 151, .move (T 11), none⟩,
  ⟨1, some 152, .binOp .sub 3 (T 151) (K 1) 3, none⟩,
  ⟨2, some 11, .assign (T 152), none⟩] []
abbrev b317x25 : BC := .seq (.block 8 b317x20) (.seq (.seq b317x21 (.cond (T 134) (.exit 4) .skip)) (.seq b317x22 (.seq b317x23 b317x24)))
abbrev b317x26 : BC := .loop (.block 5 (.seq (.block 6 b317x17) b317x25))
abbrev b317x27 : BC := .reg [⟨0, some 153, .move (T 0), none⟩,
  ⟨1, some 154, .move (T 11), none⟩,
  ⟨2, some 155, .move (T 0), none⟩,
  ⟨3, some 156, .move (T 1), none⟩,
  ⟨4, some 157, .move (T 0), none⟩,
  ⟨5, some 158, .move (T 1), none⟩,
  ⟨6, some 159, .indexAddr 26 (T 157) (T 158), none⟩,
  ⟨7, some 160, .load 3 (T 159), none⟩,
  ⟨8, some 161, .move (T 0), none⟩,
  ⟨9, some 162, .move (T 11), none⟩,
  ⟨10, some 163, .indexAddr 26 (T 161) (T 162), none⟩,
  ⟨11, some 164, .load 3 (T 163), none⟩,
  ⟨12, some 165, .indexAddr 26 (T 153) (T 154), none⟩,
  ⟨13, none, .store 3 (T 165) (T 160), none⟩,
  ⟨14, some 166, .indexAddr 26 (T 155) (T 156), none⟩,
  ⟨15, none, .store 3 (T 166) (T 164), none⟩] [(0, 1), (0, 2), (1, 2), (0, 3), (1, 3), (2, 3), (0, 4), (1, 4), (2, 4), (3, 4), (0, 5), (1, 5), (2, 5), (3, 5), (4, 5), (0, 6), (1, 6), (2, 6), (3, 6), (0, 7), (1, 7), (2, 7), (3, 7), (0, 8), (1, 8), (2, 8), (3, 8), (4, 8), (5, 8), (6, 8), (7, 8), (0, 9), (1, 9), (2, 9), (3, 9), (4, 9), (5, 9), (6, 9), (7, 9), (8, 9), (0, 10), (1, 10), (2, 10), (3, 10), (4, 10), (5, 10), (6, 10), (7, 10), (0, 11), (1, 11), (2, 11), (3, 11), (4, 11), (5, 11), (6, 11), (7, 11), (2, 12), (3, 12), (2, 13), (3, 13)]
abbrev b317x28 : BC := .reg [⟨0, some 167, .move (T 11), none⟩,
  ⟨1, some 8, .assign (T 167), none⟩,
  ⟨2, some 9, .assign (.const (.bool false)), none⟩] []
abbrev b317x29 : BC := .seq b317x12 (.seq b317x13 (.seq b317x14 (.seq (.block 4 b317x26) (.seq b317x27 (.seq b317x28 .ret)))))
abbrev b317x30 : BC := .seq (.block 2 b317x8) (.seq (.seq b317x9 (.cond (T 65) (.seq b317x10 (.seq b317x11 .ret)) .skip)) b317x29)
abbrev b317 : BC := .seq b317x0 (.seq b317x1 (.seq b317x2 (.seq (.block 0 b317x5) b317x30)))
theorem c317 : Tryz.f317.body.bind (compile Tryz.f317.ntmps) = some b317 := by kernel_rfl
theorem ok317 : EntryOK Tryz.prog (317, ⟨168, b317, #[.tmp 8, .tmp 9]⟩) := ⟨Tryz.f317, Tryz.func317, c317, Tryz.ntmps317, by kernel_rfl, Tryz.call317⟩
/-! math/bits.Len32 -/
abbrev b318x0 : BC := .reg [⟨0, some 2, .assign (K 0), none⟩] []
abbrev b318x1 : BC := .reg [⟨0, some 3, .move (T 0), none⟩,
  ⟨1, some 4, .binOp .geq 359 (T 3) (.const (.int .u32 65536)) 359, none⟩] []
abbrev b318x2 : BC := .reg [⟨0, some 5, .move (T 0), none⟩,
  ⟨1, some 6, .binOp .shr 359 (T 5) (.const (.int .u64 16)) 321, none⟩,
  ⟨2, some 0, .assign (T 6), none⟩] []
abbrev b318x3 : BC := .reg [⟨0, some 2, .assign (K 16), none⟩] []
abbrev b318x4 : BC := .reg [⟨0, some 7, .move (T 0), none⟩,
  ⟨1, some 8, .binOp .geq 359 (T 7) (.const (.int .u32 256)) 359, none⟩] []
abbrev b318x5 : BC := .reg [⟨0, some 9, .move (T 0), none⟩,
  ⟨1, some 10, .binOp .shr 359 (T 9) (.const (.int .u64 8)) 321, none⟩,
  ⟨2, some 0, .assign (T 10), none⟩] []
abbrev b318x6 : BC := .reg [⟨0, some 11, .move (T 2), none⟩,
  ⟨1, some 12, .binOp .add 3 (T 11) (K 8) 3, none⟩,
  ⟨2, some 2, .assign (T 12), none⟩] []
abbrev b318x7 : BC := .reg [⟨0, some 13, .move (T 2), none⟩,
  ⟨1, some 14, .move (T 0), none⟩,
  ⟨2, some 15, .convert 359 5 (T 14), none⟩,
  ⟨3, some 16, .index 9 (.const (.string ⟨#[0, 1, 2, 2, 3, 3, 3, 3, 4, 4, 4, 4, 4, 4, 4, 4, 5, 5, 5, 5, 5, 5, 5, 5, 5, 5, 5, 5, 5, 5, 5, 5, 6, 6, 6, 6, 6, 6, 6, 6, 6, 6, 6, 6, 6, 6, 6, 6, 6, 6, 6, 6, 6, 6, 6, 6, 6, 6, 6, 6, 6, 6, 6, 6, 7, 7, 7, 7, 7, 7, 7, 7, 7, 7, 7, 7, 7, 7, 7, 7, 7, 7, 7, 7, 7, 7, 7, 7, 7, 7, 7, 7, 7, 7, 7, 7, 7, 7, 7, 7, 7, 7, 7, 7, 7, 7, 7, 7, 7, 7, 7, 7, 7, 7, 7, 7, 7, 7, 7, 7, 7, 7, 7, 7, 7, 7, 7, 7, 8, 8, 8, 8, 8, 8, 8, 8, 8, 8, 8, 8, 8, 8, 8, 8, 8, 8, 8, 8, 8, 8, 8, 8, 8, 8, 8, 8, 8, 8, 8, 8, 8, 8, 8, 8, 8, 8, 8, 8, 8, 8, 8, 8, 8, 8, 8, 8, 8, 8, 8, 8, 8, 8, 8, 8, 8, 8, 8, 8, 8, 8, 8, 8, 8, 8, 8, 8, 8, 8, 8, 8, 8, 8, 8, 8, 8, 8, 8, 8, 8, 8, 8, 8, 8, 8, 8, 8, 8, 8, 8, 8, 8, 8, 8, 8, 8, 8, 8, 8, 8, 8, 8, 8, 8, 8, 8, 8, 8, 8, 8, 8, 8, 8, 8, 8, 8, 8, 8, 8, 8, 8, 8, 8, 8, 8, 8, 8]⟩)) (T 15), none⟩,
  ⟨4, some 17, .convert 5 3 (T 16), none⟩,
  ⟨5, some 18, .binOp .add 3 (T 13) (T 17) 3, none⟩,
  ⟨6, some 2, .assign (T 18), none⟩] []
abbrev b318x8 : BC := .seq (.seq b318x1 (.cond (T 4) (.seq b318x2 b318x3) .skip)) (.seq (.seq b318x4 (.cond (T 8) (.seq b318x5 b318x6) .skip)) (.seq b318x7 .ret))
abbrev b318 : BC := .seq b318x0 b318x8
theorem c318 : Tryz.f318.body.bind (compile Tryz.f318.ntmps) = some b318 := by kernel_rfl
theorem ok318 : EntryOK Tryz.prog (318, ⟨19, b318, #[.tmp 2]⟩) := ⟨Tryz.f318, Tryz.func318, c318, Tryz.ntmps318, by kernel_rfl, Tryz.call318⟩
/-! math/bits.Len64 -/
abbrev b319x0 : BC := .reg [⟨0, some 2, .assign (K 0), none⟩] []
abbrev b319x1 : BC := .reg [⟨0, some 3, .move (T 0), none⟩,
  ⟨1, some 4, .binOp .geq 135 (T 3) (.const (.int .u64 4294967296)) 135, none⟩] []
abbrev b319x2 : BC := .reg [⟨0, some 5, .move (T 0), none⟩,
  ⟨1, some 6, .binOp .shr 135 (T 5) (.const (.int .u64 32)) 321, none⟩,
  ⟨2, some 0, .assign (T 6), none⟩] []
abbrev b319x3 : BC := .reg [⟨0, some 2, .assign (K 32), none⟩] []
abbrev b319x4 : BC := .reg [⟨0, some 7, .move (T 0), none⟩,
  ⟨1, some 8, .binOp .geq 135 (T 7) (.const (.int .u64 65536)) 135, none⟩] []
abbrev b319x5 : BC := .reg [⟨0, some 9, .move (T 0), none⟩,
  ⟨1, some 10, .binOp .shr 135 (T 9) (.const (.int .u64 16)) 321, none⟩,
  ⟨2, some 0, .assign (T 10), none⟩] []
abbrev b319x6 : BC := .reg [⟨0, some 11, .move (T 2), none⟩,
  ⟨1, some 12, .binOp .add 3 (T 11) (K 16) 3, none⟩,
  ⟨2, some 2, .assign (T 12), none⟩] []
abbrev b319x7 : BC := .reg [⟨0, some 13, .move (T 0), none⟩,
  ⟨1, some 14, .binOp .geq 135 (T 13) (.const (.int .u64 256)) 135, none⟩] []
abbrev b319x8 : BC := .reg [⟨0, some 15, .move (T 0), none⟩,
  ⟨1, some 16, .binOp .shr 135 (T 15) (.const (.int .u64 8)) 321, none⟩,
  ⟨2, some 0, .assign (T 16), none⟩] []
abbrev b319x9 : BC := .reg [⟨0, some 17, .move (T 2), none⟩,
  ⟨1, some 18, .binOp .add 3 (T 17) (K 8) 3, none⟩,
  ⟨2, some 2, .assign (T 18), none⟩] []
abbrev b319x10 : BC := .reg [⟨0, some 19, .move (T 2), none⟩,
  ⟨1, some 20, .move (T 0), none⟩,
  ⟨2, some 21, .convert 135 5 (T 20), none⟩,
  ⟨3, some 22, .index 9 (.const (.string ⟨#[0, 1, 2, 2, 3, 3, 3, 3, 4, 4, 4, 4, 4, 4, 4, 4, 5, 5, 5, 5, 5, 5, 5, 5, 5, 5, 5, 5, 5, 5, 5, 5, 6, 6, 6, 6, 6, 6, 6, 6, 6, 6, 6, 6, 6, 6, 6, 6, 6, 6, 6, 6, 6, 6, 6, 6, 6, 6, 6, 6, 6, 6, 6, 6, 7, 7, 7, 7, 7, 7, 7, 7, 7, 7, 7, 7, 7, 7, 7, 7, 7, 7, 7, 7, 7, 7, 7, 7, 7, 7, 7, 7, 7, 7, 7, 7, 7, 7, 7, 7, 7, 7, 7, 7, 7, 7, 7, 7, 7, 7, 7, 7, 7, 7, 7, 7, 7, 7, 7, 7, 7, 7, 7, 7, 7, 7, 7, 7, 8, 8, 8, 8, 8, 8, 8, 8, 8, 8, 8, 8, 8, 8, 8, 8, 8, 8, 8, 8, 8, 8, 8, 8, 8, 8, 8, 8, 8, 8, 8, 8, 8, 8, 8, 8, 8, 8, 8, 8, 8, 8, 8, 8, 8, 8, 8, 8, 8, 8, 8, 8, 8, 8, 8, 8, 8, 8, 8, 8, 8, 8, 8, 8, 8, 8, 8, 8, 8, 8, 8, 8, 8, 8, 8, 8, 8, 8, 8, 8, 8, 8, 8, 8, 8, 8, 8, 8, 8, 8, 8, 8, 8, 8, 8, 8, 8, 8, 8, 8, 8, 8, 8, 8, 8, 8, 8, 8, 8, 8, 8, 8, 8, 8, 8, 8, 8, 8, 8, 8, 8, 8, 8, 8, 8, 8, 8, 8]⟩)) (T 21), none⟩,
  ⟨4, some 23, .convert 5 3 (T 22), none⟩,
  ⟨5, some 24, .binOp .add 3 (T 19) (T 23) 3, none⟩,
  ⟨6, some 2, .assign (T 24), none⟩] []
abbrev b319x11 : BC := .seq (.seq b319x4 (.cond (T 8) (.seq b319x5 b319x6) .skip)) (.seq (.seq b319x7 (.cond (T 14) (.seq b319x8 b319x9) .skip)) (.seq b319x10 .ret))
abbrev b319 : BC := .seq b319x0 (.seq (.seq b319x1 (.cond (T 4) (.seq b319x2 b319x3) .skip)) b319x11)
theorem c319 : Tryz.f319.body.bind (compile Tryz.f319.ntmps) = some b319 := by kernel_rfl
theorem ok319 : EntryOK Tryz.prog (319, ⟨25, b319, #[.tmp 2]⟩) := ⟨Tryz.f319, Tryz.func319, c319, Tryz.ntmps319, by kernel_rfl, Tryz.call319⟩
/-! slices.IndexFunc[[]scarfjoint/api.NodeType,scarfjoint/api.NodeType] -/
abbrev b326x0 : BC := .reg [⟨0, some 4, .assign (K 0), none⟩] []
abbrev b326x1 : BC := .reg [⟨0, some 6, .move (T 0), none⟩,
  ⟨1, some 7, .call ⟨.builtin .len, #[(T 6)], #[22]⟩, none⟩,
  ⟨2, some 8, .move (K 0), none⟩] []
abbrev b326x2 : BC := .reg [⟨0, some 9, .binOp .lss 3 (T 8) (T 7) 3, none⟩] []
abbrev b326x3 : BC := .reg [⟨0, some 10, .move (T 8), none⟩,
  ⟨1, some 5, .assign (T 10), none⟩] []
abbrev b326x4 : BC := .reg [⟨0, some 11, .move (T 1), none⟩,
  ⟨1, some 12, .move (T 0), none⟩,
  ⟨2, some 13, .move (T 5), none⟩,
  ⟨3, some 14, .indexAddr 22 (T 12) (T 13), none⟩,
  ⟨4, some 15, .load 157 (T 14), none⟩,
  ⟨5, some 16, .call ⟨.value (T 11), #[(T 15)], #[157]⟩, none⟩] []
abbrev b326x5 : BC := .reg [⟨0, some 17, .move (T 5), none⟩,
  ⟨1, some 4, .assign (T 17), none⟩] []
abbrev b326x6 : BC := .reg [⟨0, some 18, .binOp .add 3 (T 8) (K 1) 3, none⟩,
  ⟨1, some 8, .move (T 18), none⟩] []
abbrev b326x7 : BC := .seq (.cond (T 9) .skip (.exit 0)) (.seq (.block 1 (.seq b326x3 (.seq b326x4 (.cond (T 16) (.seq b326x5 .ret) .skip)))) b326x6)
abbrev b326x8 : BC := .loop (.seq b326x2 b326x7)
abbrev b326x9 : BC := .reg [⟨0, some 4, .assign (K (-1)), none⟩] []
abbrev b326 : BC := .seq b326x0 (.seq (.seq b326x1 (.block 0 b326x8)) (.seq b326x9 .ret))
theorem c326 : Tryz.f326.body.bind (compile Tryz.f326.ntmps) = some b326 := by kernel_rfl
theorem ok326 : EntryOK Tryz.prog (326, ⟨19, b326, #[.tmp 4]⟩) := ⟨Tryz.f326, Tryz.func326, c326, Tryz.ntmps326, by kernel_rfl, Tryz.call326⟩
/-! slices.ContainsFunc[[]scarfjoint/api.Attr,scarfjoint/api.Attr] -/
abbrev b327x0 : BC := .reg [⟨0, some 4, .assign (.const (.bool false)), none⟩] []
abbrev b327x1 : BC := .reg [⟨0, some 5, .move (T 0), none⟩,
  ⟨1, some 6, .move (T 1), none⟩,
  ⟨2, some 7, .call ⟨.value (.func 373), #[(T 5), (T 6)], #[155, 372]⟩, none⟩,
  ⟨3, some 8, .binOp .geq 3 (T 7) (K 0) 3, none⟩,
  ⟨4, some 4, .assign (T 8), none⟩] []
abbrev b327 : BC := .seq b327x0 (.seq b327x1 .ret)
theorem c327 : Tryz.f327.body.bind (compile Tryz.f327.ntmps) = some b327 := by kernel_rfl
theorem ok327 : EntryOK Tryz.prog (327, ⟨9, b327, #[.tmp 4]⟩) := ⟨Tryz.f327, Tryz.func327, c327, Tryz.ntmps327, by kernel_rfl, Tryz.call327⟩
/-! scarfjoint/types.attribute$1 -/
abbrev b328x0 : BC := .reg [⟨0, some 2, .box 160 (T 0), none⟩,
  ⟨1, some 3, .assign (.const (.bool false)), none⟩] []
abbrev b328x1 : BC := .reg [⟨0, some 4, .fieldAddr 160 (T 2) 0, none⟩,
  ⟨1, some 5, .load 9 (T 4), none⟩,
  ⟨2, some 6, .fieldAddr 160 (T 1) 0, none⟩,
  ⟨3, some 7, .load 9 (T 6), none⟩,
  ⟨4, some 8, .binOp .eql 9 (T 5) (T 7) 9, none⟩,
  ⟨5, some 3, .assign (T 8), none⟩] []
abbrev b328 : BC := .seq b328x0 (.seq b328x1 .ret)
theorem c328 : Tryz.f328.body.bind (compile Tryz.f328.ntmps) = some b328 := by kernel_rfl
theorem ok328 : EntryOK Tryz.prog (328, ⟨9, b328, #[.tmp 3]⟩) := ⟨Tryz.f328, Tryz.func328, c328, Tryz.ntmps328, by kernel_rfl, Tryz.call328⟩
/-! scarfjoint/types.names -/
abbrev b329x0 : BC := .reg [⟨0, some 2, .assign (K 0), none⟩] []
abbrev b329x1 : BC := .reg [⟨0, some 5, .move (T 0), none⟩,
  ⟨1, some 6, .call ⟨.builtin .len, #[(T 5)], #[158]⟩, none⟩,
  ⟨2, some 7, .binOp .gtr 3 (T 6) (K 20) 3, none⟩] []
abbrev b329x2 : BC := .reg [⟨0, some 2, .assign (K 3), none⟩] []
abbrev b329x3 : BC := .reg [⟨0, some 8, .move (T 0), none⟩,
  ⟨1, some 9, .call ⟨.builtin .len, #[(T 8)], #[158]⟩, none⟩,
  ⟨2, some 10, .move (K 0), none⟩] []
abbrev b329x4 : BC := .reg [⟨0, some 11, .binOp .lss 3 (T 10) (T 9) 3, none⟩] []
abbrev b329x5 : BC := .reg [⟨0, some 12, .move (T 10), none⟩,
  ⟨1, some 13, .indexAddr 158 (T 8) (T 10), none⟩,
  ⟨2, some 14, .load 9 (T 13), none⟩,
  ⟨3, some 3, .assign (T 12), none⟩,
  ⟨4, some 4, .assign (T 14), none⟩] []
abbrev b329x6 : BC := .reg [⟨0, some 16, .move (T 4), none⟩,
  ⟨1, some 17, .call ⟨.value (.func 148), #[(T 16)], #[9]⟩, none⟩,
  ⟨2, some 18, .unOp .not 4 (T 17), none⟩,
  ⟨3, some 15, .assign (T 18), none⟩] []
abbrev b329x7 : BC := .reg [⟨0, some 2, .assign (K 2), none⟩] []
abbrev b329x8 : BC := .reg [⟨0, some 20, .move (T 0), none⟩,
  ⟨1, some 21, .move (T 3), none⟩,
  ⟨2, some 22, .slice 158 (T 20) none (some (T 21)) none, none⟩,
  ⟨3, some 23, .move (T 4), none⟩,
  ⟨4, some 24, .call ⟨.value (.func 374), #[(T 22), (T 23)], #[158, 9]⟩, none⟩,
  ⟨5, some 19, .assign (T 24), none⟩] []
abbrev b329x9 : BC := .reg [⟨0, some 2, .assign (K 5), none⟩] []
abbrev b329x10 : BC := .block 2 (.seq b329x6 (.cond (T 15) (.seq b329x7 .ret) (.seq b329x8 (.cond (T 19) (.seq b329x9 .ret) .skip))))
abbrev b329x11 : BC := .reg [⟨0, some 25, .binOp .add 3 (T 10) (K 1) 3, none⟩,
  ⟨1, some 10, .move (T 25), none⟩] []
abbrev b329x12 : BC := .loop (.seq b329x4 (.seq (.cond (T 11) .skip (.exit 0)) (.seq (.block 1 (.seq b329x5 b329x10)) b329x11)))
abbrev b329x13 : BC := .reg [⟨0, some 2, .assign (K 0), none⟩] []
abbrev b329x14 : BC := .seq (.seq b329x1 (.cond (T 7) (.seq b329x2 .ret) .skip)) (.seq (.seq b329x3 (.block 0 b329x12)) (.seq b329x13 .ret))
abbrev b329 : BC := .seq b329x0 b329x14
theorem c329 : Tryz.f329.body.bind (compile Tryz.f329.ntmps) = some b329 := by kernel_rfl
theorem ok329 : EntryOK Tryz.prog (329, ⟨26, b329, #[.tmp 2]⟩) := ⟨Tryz.f329, Tryz.func329, c329, Tryz.ntmps329, by kernel_rfl, Tryz.call329⟩
/-! slices.IndexFunc[[]scarfjoint/api.EdgeType,scarfjoint/api.EdgeType] -/
abbrev b330x0 : BC := .reg [⟨0, some 4, .assign (K 0), none⟩] []
abbrev b330x1 : BC := .reg [⟨0, some 6, .move (T 0), none⟩,
  ⟨1, some 7, .call ⟨.builtin .len, #[(T 6)], #[23]⟩, none⟩,
  ⟨2, some 8, .move (K 0), none⟩] []
abbrev b330x2 : BC := .reg [⟨0, some 9, .binOp .lss 3 (T 8) (T 7) 3, none⟩] []
abbrev b330x3 : BC := .reg [⟨0, some 10, .move (T 8), none⟩,
  ⟨1, some 5, .assign (T 10), none⟩] []
abbrev b330x4 : BC := .reg [⟨0, some 11, .move (T 1), none⟩,
  ⟨1, some 12, .move (T 0), none⟩,
  ⟨2, some 13, .move (T 5), none⟩,
  ⟨3, some 14, .indexAddr 23 (T 12) (T 13), none⟩,
  ⟨4, some 15, .load 81 (T 14), none⟩,
  ⟨5, some 16, .call ⟨.value (T 11), #[(T 15)], #[81]⟩, none⟩] []
abbrev b330x5 : BC := .reg [⟨0, some 17, .move (T 5), none⟩,
  ⟨1, some 4, .assign (T 17), none⟩] []
abbrev b330x6 : BC := .reg [⟨0, some 18, .binOp .add 3 (T 8) (K 1) 3, none⟩,
  ⟨1, some 8, .move (T 18), none⟩] []
abbrev b330x7 : BC := .seq (.cond (T 9) .skip (.exit 0)) (.seq (.block 1 (.seq b330x3 (.seq b330x4 (.cond (T 16) (.seq b330x5 .ret) .skip)))) b330x6)
abbrev b330x8 : BC := .loop (.seq b330x2 b330x7)
abbrev b330x9 : BC := .reg [⟨0, some 4, .assign (K (-1)), none⟩] []
abbrev b330 : BC := .seq b330x0 (.seq (.seq b330x1 (.block 0 b330x8)) (.seq b330x9 .ret))
theorem c330 : Tryz.f330.body.bind (compile Tryz.f330.ntmps) = some b330 := by kernel_rfl
theorem ok330 : EntryOK Tryz.prog (330, ⟨19, b330, #[.tmp 4]⟩) := ⟨Tryz.f330, Tryz.func330, c330, Tryz.ntmps330, by kernel_rfl, Tryz.call330⟩
/-! slices.Reverse[[]int,int] -/
abbrev b332x0 : BC := .reg [⟨0, some 4, .move (T 0), none⟩,
  ⟨1, some 5, .call ⟨.builtin .len, #[(T 4)], #[26]⟩, none⟩,
  ⟨2, some 6, .binOp .sub 3 (T 5) (K 1) 3, none⟩,
  ⟨3, some 2, .assign (K 0), none⟩,
  ⟨4, some 3, .assign (T 6), none⟩] []
abbrev b332x1 : BC := .reg [⟨0, some 7, .move (T 2), none⟩,
  ⟨1, some 8, .move (T 3), none⟩,
  ⟨2, some 9, .binOp .lss 3 (T 7) (T 8) 3, none⟩] []
abbrev b332x2 : BC := .reg [⟨0, some 14, .move (T 0), none⟩,
  ⟨1, some 15, .move (T 2), none⟩,
  ⟨2, some 16, .move (T 0), none⟩,
  ⟨3, some 17, .move (T 3), none⟩,
  ⟨4, some 18, .move (T 0), none⟩,
  ⟨5, some 19, .move (T 3), none⟩,
  ⟨6, some 20, .indexAddr 26 (T 18) (T 19), none⟩,
  ⟨7, some 21, .load 3 (T 20), none⟩,
  ⟨8, some 22, .move (T 0), none⟩,
  ⟨9, some 23, .move (T 2), none⟩,
  ⟨10, some 24, .indexAddr 26 (T 22) (T 23), none⟩,
  ⟨11, some 25, .load 3 (T 24), none⟩,
  ⟨12, some 26, .indexAddr 26 (T 14) (T 15), none⟩,
  ⟨13, none, .store 3 (T 26) (T 21), none⟩,
  ⟨14, some 27, .indexAddr 26 (T 16) (T 17), none⟩,
  ⟨15, none, .store 3 (T 27) (T 25), none⟩] [(0, 1), (0, 2), (1, 2), (0, 3), (1, 3), (2, 3), (0, 4), (1, 4), (2, 4), (3, 4), (0, 5), (1, 5), (2, 5), (3, 5), (4, 5), (0, 6), (1, 6), (2, 6), (3, 6), (0, 7), (1, 7), (2, 7), (3, 7), (0, 8), (1, 8), (2, 8), (3, 8), (4, 8), (5, 8), (6, 8), (7, 8), (0, 9), (1, 9), (2, 9), (3, 9), (4, 9), (5, 9), (6, 9), (7, 9), (8, 9), (0, 10), (1, 10), (2, 10), (3, 10), (4, 10), (5, 10), (6, 10), (7, 10), (0, 11), (1, 11), (2, 11), (3, 11), (4, 11), (5, 11), (6, 11), (7, 11), (2, 12), (3, 12), (2, 13), (3, 13)]
abbrev b332x3 : BC := .reg [⟨0, some 10, .move (T 2), none⟩,
  ⟨1, some 11, .binOp .add 3 (T 10) (K 1) 3, none⟩,
  ⟨2, some 12, .move (T 3), none⟩,
  ⟨3, some 13, .binOp .sub 3 (T 12) (K 1) 3, none⟩,
  ⟨4, some 2, .assign (T 11), none⟩,
  ⟨5, some 3, .assign (T 13), none⟩] []
abbrev b332x4 : BC := .loop (.seq (.seq b332x1 (.cond (T 9) .skip (.exit 0))) (.seq (.block 1 b332x2) b332x3))
abbrev b332 : BC := .seq b332x0 (.block 0 b332x4)
theorem c332 : Tryz.f332.body.bind (compile Tryz.f332.ntmps) = some b332 := by kernel_rfl
theorem ok332 : EntryOK Tryz.prog (332, ⟨28, b332, #[]⟩) := ⟨Tryz.f332, Tryz.func332, c332, Tryz.ntmps332, by kernel_rfl, Tryz.call332⟩
/-! slices.insertionSortCmpFunc[int] -/
abbrev b333x0 : BC := .reg [⟨0, some 10, .move (T 1), none⟩,
  ⟨1, some 11, .binOp .add 3 (T 10) (K 1) 3, none⟩,
  ⟨2, some 8, .assign (T 11), none⟩] []
abbrev b333x1 : BC := .reg [⟨0, some 12, .move (T 8), none⟩,
  ⟨1, some 13, .move (T 2), none⟩,
  ⟨2, some 14, .binOp .lss 3 (T 12) (T 13) 3, none⟩] []
abbrev b333x2 : BC := .reg [⟨0, some 17, .move (T 8), none⟩,
  ⟨1, some 9, .assign (T 17), none⟩] []
abbrev b333x3 : BC := .reg [⟨0, some 18, .move (T 9), none⟩,
  ⟨1, some 19, .move (T 1), none⟩,
  ⟨2, some 20, .binOp .gtr 3 (T 18) (T 19) 3, none⟩,
  ⟨3, some 21, .move (T 20), none⟩,
  ⟨4, some 22, .move (T 3), some (21, true)⟩,
  ⟨5, some 23, .move (T 0), some (21, true)⟩,
  ⟨6, some 24, .move (T 9), some (21, true)⟩,
  ⟨7, some 25, .indexAddr 26 (T 23) (T 24), some (21, true)⟩,
  ⟨8, some 26, .load 3 (T 25), some (21, true)⟩,
  ⟨9, some 27, .move (T 0), some (21, true)⟩,
  ⟨10, some 28, .move (T 9), some (21, true)⟩,
  ⟨11, some 29, .binOp .sub 3 (T 28) (K 1) 3, some (21, true)⟩,
  ⟨12, some 30, .indexAddr 26 (T 27) (T 29), some (21, true)⟩,
  ⟨13, some 31, .load 3 (T 30), some (21, true)⟩,
  ⟨14, some 32, .call ⟨.value (T 22), #[(T 26), (T 31)], #[3, 3]⟩, some (21, true)⟩,
  ⟨15, some 33, .binOp .lss 3 (T 32) (K 0) 3, some (21, true)⟩,
  ⟨16, some 34, .pick (T 21) (T 33) (.const (.bool false)), none⟩] [(0, 1), (4, 5), (4, 6), (5, 6), (4, 7), (4, 8), (4, 9), (5, 9), (6, 9), (7, 9), (8, 9), (4, 10), (5, 10), (6, 10), (7, 10), (8, 10), (9, 10), (4, 11), (5, 11), (6, 11), (7, 11), (8, 11), (9, 11), (4, 12), (5, 12), (6, 12), (7, 12), (8, 12), (4, 13), (5, 13), (6, 13), (7, 13), (8, 13)]
abbrev b333x4 : BC := .reg [⟨0, some 37, .move (T 0), none⟩,
  ⟨1, some 38, .move (T 9), none⟩,
  ⟨2, some 39, .move (T 0), none⟩,
  ⟨3, some 40, .move (T 9), none⟩,
  ⟨4, some 41, .binOp .sub 3 (T 40) (K 1) 3, none⟩,
  ⟨5, some 42, .move (T 0), none⟩,
  ⟨6, some 43, .move (T 9), none⟩,
  ⟨7, some 44, .binOp .sub 3 (T 43) (K 1) 3, none⟩,
  ⟨8, some 45, .indexAddr 26 (T 42) (T 44), none⟩,
  ⟨9, some 46, .load 3 (T 45), none⟩,
  ⟨10, some 47, .move (T 0), none⟩,
  ⟨11, some 48, .move (T 9), none⟩,
  ⟨12, some 49, .indexAddr 26 (T 47) (T 48), none⟩,
  ⟨13, some 50, .load 3 (T 49), none⟩,
  ⟨14, some 51, .indexAddr 26 (T 37) (T 38), none⟩,
  ⟨15, none, .store 3 (T 51) (T 46), none⟩,
  ⟨16, some 52, .indexAddr 26 (T 39) (T 41), none⟩,
  ⟨17, none, .store 3 (T 52) (T 50), none⟩] [(0, 1), (0, 2), (1, 2), (0, 3), (1, 3), (2, 3), (0, 4), (1, 4), (2, 4), (0, 5), (1, 5), (2, 5), (3, 5), (4, 5), (0, 6), (1, 6), (2, 6), (3, 6), (4, 6), (5, 6), (0, 7), (1, 7), (2, 7), (3, 7), (4, 7), (5, 7), (0, 8), (1, 8), (2, 8), (3, 8), (4, 8), (0, 9), (1, 9), (2, 9), (3, 9), (4, 9), (0, 10), (1, 10), (2, 10), (3, 10), (4, 10), (5, 10), (6, 10), (7, 10), (8, 10), (9, 10), (0, 11), (1, 11), (2, 11), (3, 11), (4, 11), (5, 11), (6, 11), (7, 11), (8, 11), (9, 11), (10, 11), (0, 12), (1, 12), (2, 12), (3, 12), (4, 12), (5, 12), (6, 12), (7, 12), (8, 12), (9, 12), (0, 13), (1, 13), (2, 13), (3, 13), (4, 13), (5, 13), (6, 13), (7, 13), (8, 13), (9, 13), (2, 14), (3, 14), (4, 14), (2, 15), (3, 15), (4, 15)]
abbrev b333x5 : BC := .reg [⟨0, some 35, .move (T 9), none⟩,
  ⟨1, some 36, .binOp .sub 3 (T 35) (K 1) 3, none⟩,
  ⟨2, some 9, .assign (T 36), none⟩] []
abbrev b333x6 : BC := .loop (.seq (.seq b333x3 (.cond (T 34) .skip (.exit 2))) (.seq (.block 3 b333x4) b333x5))
abbrev b333x7 : BC := .reg [⟨0, some 15, .move (T 8), none⟩,
  ⟨1, some 16, .binOp .add 3 (T 15) (K 1) 3, none⟩,
  ⟨2, some 8, .assign (T 16), none⟩] []
abbrev b333x8 : BC := .seq (.seq b333x1 (.cond (T 14) .skip (.exit 0))) (.seq (.block 1 (.seq b333x2 (.block 2 b333x6))) b333x7)
abbrev b333x9 : BC := .loop b333x8
abbrev b333 : BC := .seq b333x0 (.block 0 b333x9)
theorem c333 : Tryz.f333.body.bind (compile Tryz.f333.ntmps) = some b333 := by kernel_rfl
theorem ok333 : EntryOK Tryz.prog (333, ⟨53, b333, #[]⟩) := ⟨Tryz.f333, Tryz.func333, c333, Tryz.ntmps333, by kernel_rfl, Tryz.call333⟩
/-! slices.symMergeCmpFunc[int] -/
abbrev b334x0 : BC := .reg [⟨0, some 25, .move (T 2), none⟩,
  ⟨1, some 26, .move (T 1), none⟩,
  ⟨2, some 27, .binOp .sub 3 (T 25) (T 26) 3, none⟩,
  ⟨3, some 28, .binOp .eql 3 (T 27) (K 1) 3, none⟩] []
abbrev b334x1 : BC := .reg [⟨0, some 29, .move (T 2), none⟩,
  ⟨1, some 10, .assign (T 29), none⟩] []
abbrev b334x2 : BC := .reg [⟨0, some 30, .move (T 3), none⟩,
  ⟨1, some 11, .assign (T 30), none⟩] []
abbrev b334x3 : BC := .reg [⟨0, some 31, .move (T 10), none⟩,
  ⟨1, some 32, .move (T 11), none⟩,
  ⟨2, some 33, .binOp .lss 3 (T 31) (T 32) 3, none⟩] []
abbrev b334x4 : BC := .reg [⟨0, some 34, .move (T 10), none⟩,
  ⟨1, some 35, .move (T 11), none⟩,
  ⟨2, some 36, .binOp .add 3 (T 34) (T 35) 3, none⟩,
  ⟨3, some 37, .convert 3 321 (T 36), none⟩,
  ⟨4, some 38, .binOp .shr 321 (T 37) (.const (.int .u64 1)) 321, none⟩,
  ⟨5, some 39, .convert 321 3 (T 38), none⟩,
  ⟨6, some 12, .assign (T 39), none⟩] []
abbrev b334x5 : BC := .reg [⟨0, some 40, .move (T 4), none⟩,
  ⟨1, some 41, .move (T 0), none⟩,
  ⟨2, some 42, .move (T 12), none⟩,
  ⟨3, some 43, .indexAddr 26 (T 41) (T 42), none⟩,
  ⟨4, some 44, .load 3 (T 43), none⟩,
  ⟨5, some 45, .move (T 0), none⟩,
  ⟨6, some 46, .move (T 1), none⟩,
  ⟨7, some 47, .indexAddr 26 (T 45) (T 46), none⟩,
  ⟨8, some 48, .load 3 (T 47), none⟩,
  ⟨9, some 49, .call ⟨.value (T 40), #[(T 44), (T 48)], #[3, 3]⟩, none⟩,
  ⟨10, some 50, .binOp .lss 3 (T 49) (K 0) 3, none⟩] [(0, 1), (0, 2), (1, 2), (0, 3), (0, 4), (0, 5), (1, 5), (2, 5), (3, 5), (4, 5), (0, 6), (1, 6), (2, 6), (3, 6), (4, 6), (5, 6), (0, 7), (1, 7), (2, 7), (3, 7), (4, 7), (0, 8), (1, 8), (2, 8), (3, 8), (4, 8)]
abbrev b334x6 : BC := .reg [⟨0, some 51, .move (T 12), none⟩,
  ⟨1, some 52, .binOp .add 3 (T 51) (K 1) 3, none⟩,
  ⟨2, some 10, .assign (T 52), none⟩] []
abbrev b334x7 : BC := .reg [⟨0, some 53, .move (T 12), none⟩,
  ⟨1, some 11, .assign (T 53), none⟩] []
abbrev b334x8 : BC := .seq (.seq b334x3 (.cond (T 33) .skip (.exit 0))) (.block 1 (.seq b334x4 (.seq b334x5 (.cond (T 50) b334x6 b334x7))))
abbrev b334x9 : BC := .loop b334x8
abbrev b334x10 : BC := .reg [⟨0, some 54, .move (T 1), none⟩,
  ⟨1, some 13, .assign (T 54), none⟩] []
abbrev b334x11 : BC := .reg [⟨0, some 55, .move (T 13), none⟩,
  ⟨1, some 56, .move (T 10), none⟩,
  ⟨2, some 57, .binOp .sub 3 (T 56) (K 1) 3, none⟩,
  ⟨3, some 58, .binOp .lss 3 (T 55) (T 57) 3, none⟩] []
abbrev b334x12 : BC := .reg [⟨0, some 61, .move (T 0), none⟩,
  ⟨1, some 62, .move (T 13), none⟩,
  ⟨2, some 63, .move (T 0), none⟩,
  ⟨3, some 64, .move (T 13), none⟩,
  ⟨4, some 65, .binOp .add 3 (T 64) (K 1) 3, none⟩,
  ⟨5, some 66, .move (T 0), none⟩,
  ⟨6, some 67, .move (T 13), none⟩,
  ⟨7, some 68, .binOp .add 3 (T 67) (K 1) 3, none⟩,
  ⟨8, some 69, .indexAddr 26 (T 66) (T 68), none⟩,
  ⟨9, some 70, .load 3 (T 69), none⟩,
  ⟨10, some 71, .move (T 0), none⟩,
  ⟨11, some 72, .move (T 13), none⟩,
  ⟨12, some 73, .indexAddr 26 (T 71) (T 72), none⟩,
  ⟨13, some 74, .load 3 (T 73), none⟩,
  ⟨14, some 75, .indexAddr 26 (T 61) (T 62), none⟩,
  ⟨15, none, .store 3 (T 75) (T 70), none⟩,
  ⟨16, some 76, .indexAddr 26 (T 63) (T 65), none⟩,
  ⟨17, none, .store 3 (T 76) (T 74), none⟩] [(0, 1), (0, 2), (1, 2), (0, 3), (1, 3), (2, 3), (0, 4), (1, 4), (2, 4), (0, 5), (1, 5), (2, 5), (3, 5), (4, 5), (0, 6), (1, 6), (2, 6), (3, 6), (4, 6), (5, 6), (0, 7), (1, 7), (2, 7), (3, 7), (4, 7), (5, 7), (0, 8), (1, 8), (2, 8), (3, 8), (4, 8), (0, 9), (1, 9), (2, 9), (3, 9), (4, 9), (0, 10), (1, 10), (2, 10), (3, 10), (4, 10), (5, 10), (6, 10), (7, 10), (8, 10), (9, 10), (0, 11), (1, 11), (2, 11), (3, 11), (4, 11), (5, 11), (6, 11), (7, 11), (8, 11), (9, 11), (10, 11), (0, 12), (1, 12), (2, 12), (3, 12), (4, 12), (5, 12), (6, 12), (7, 12), (8, 12), (9, 12), (0, 13), (1, 13), (2, 13), (3, 13), (4, 13), (5, 13), (6, 13), (7, 13), (8, 13), (9, 13), (2, 14), (3, 14), (4, 14), (2, 15), (3, 15), (4, 15)]
abbrev b334x13 : BC := .reg [⟨0, some 59, .move (T 13), none⟩,
  ⟨1, some 60, .binOp .add 3 (T 59) (K 1) 3, none⟩,
  ⟨2, some 13, .assign (T 60), none⟩] []
abbrev b334x14 : BC := .loop (.seq (.seq b334x11 (.cond (T 58) .skip (.exit 2))) (.seq (.block 3 b334x12) b334x13))
abbrev b334x15 : BC := .cond (T 28) (.seq b334x1 (.seq b334x2 (.seq (.block 0 b334x9) (.seq (.seq b334x10 (.block 2 b334x14)) .ret)))) .skip
abbrev b334x16 : BC := .reg [⟨0, some 77, .move (T 3), none⟩,
  ⟨1, some 78, .move (T 2), none⟩,
  ⟨2, some 79, .binOp .sub 3 (T 77) (T 78) 3, none⟩,
  ⟨3, some 80, .binOp .eql 3 (T 79) (K 1) 3, none⟩] []
abbrev b334x17 : BC := .reg [⟨0, some 81, .move (T 1), none⟩,
  ⟨1, some 14, .assign (T 81), none⟩] []
abbrev b334x18 : BC := .reg [⟨0, some 82, .move (T 2), none⟩,
  ⟨1, some 15, .assign (T 82), none⟩] []
abbrev b334x19 : BC := .reg [⟨0, some 83, .move (T 14), none⟩,
  ⟨1, some 84, .move (T 15), none⟩,
  ⟨2, some 85, .binOp .lss 3 (T 83) (T 84) 3, none⟩] []
abbrev b334x20 : BC := .reg [⟨0, some 86, .move (T 14), none⟩,
  ⟨1, some 87, .move (T 15), none⟩,
  ⟨2, some 88, .binOp .add 3 (T 86) (T 87) 3, none⟩,
  ⟨3, some 89, .convert 3 321 (T 88), none⟩,
  ⟨4, some 90, .binOp .shr 321 (T 89) (.const (.int .u64 1)) 321, none⟩,
  ⟨5, some 91, .convert 321 3 (T 90), none⟩,
  ⟨6, some 16, .assign (T 91), none⟩] []
abbrev b334x21 : BC := .reg [⟨0, some 92, .move (T 4), none⟩,
  ⟨1, some 93, .move (T 0), none⟩,
  ⟨2, some 94, .move (T 2), none⟩,
  ⟨3, some 95, .indexAddr 26 (T 93) (T 94), none⟩,
  ⟨4, some 96, .load 3 (T 95), none⟩,
  ⟨5, some 97, .move (T 0), none⟩,
  ⟨6, some 98, .move (T 16), none⟩,
  ⟨7, some 99, .indexAddr 26 (T 97) (T 98), none⟩,
  ⟨8, some 100, .load 3 (T 99), none⟩,
  ⟨9, some 101, .call ⟨.value (T 92), #[(T 96), (T 100)], #[3, 3]⟩, none⟩,
  ⟨10, some 102, .binOp .lss 3 (T 101) (K 0) 3, none⟩,
  ⟨11, some 103, .unOp .not 4 (T 102), none⟩] [(0, 1), (0, 2), (1, 2), (0, 3), (0, 4), (0, 5), (1, 5), (2, 5), (3, 5), (4, 5), (0, 6), (1, 6), (2, 6), (3, 6), (4, 6), (5, 6), (0, 7), (1, 7), (2, 7), (3, 7), (4, 7), (0, 8), (1, 8), (2, 8), (3, 8), (4, 8)]
abbrev b334x22 : BC := .reg [⟨0, some 104, .move (T 16), none⟩,
  ⟨1, some 105, .binOp .add 3 (T 104) (K 1) 3, none⟩,
  ⟨2, some 14, .assign (T 105), none⟩] []
abbrev b334x23 : BC := .reg [⟨0, some 106, .move (T 16), none⟩,
  ⟨1, some 15, .assign (T 106), none⟩] []
abbrev b334x24 : BC := .seq (.seq b334x19 (.cond (T 85) .skip (.exit 4))) (.block 5 (.seq b334x20 (.seq b334x21 (.cond (T 103) b334x22 b334x23))))
abbrev b334x25 : BC := .loop b334x24
abbrev b334x26 : BC := .reg [⟨0, some 107, .move (T 2), none⟩,
  ⟨1, some 17, .assign (T 107), none⟩] []
abbrev b334x27 : BC := .reg [⟨0, some 108, .move (T 17), none⟩,
  ⟨1, some 109, .move (T 14), none⟩,
  ⟨2, some 110, .binOp .gtr 3 (T 108) (T 109) 3, none⟩] []
abbrev b334x28 : BC := .reg [⟨0, some 113, .move (T 0), none⟩,
  ⟨1, some 114, .move (T 17), none⟩,
  ⟨2, some 115, .move (T 0), none⟩,
  ⟨3, some 116, .move (T 17), none⟩,
  ⟨4, some 117, .binOp .sub 3 (T 116) (K 1) 3, none⟩,
  ⟨5, some 118, .move (T 0), none⟩,
  ⟨6, some 119, .move (T 17), none⟩,
  ⟨7, some 120, .binOp .sub 3 (T 119) (K 1) 3, none⟩,
  ⟨8, some 121, .indexAddr 26 (T 118) (T 120), none⟩,
  ⟨9, some 122, .load 3 (T 121), none⟩,
  ⟨10, some 123, .move (T 0), none⟩,
  ⟨11, some 124, .move (T 17), none⟩,
  ⟨12, some 125, .indexAddr 26 (T 123) (T 124), none⟩,
  ⟨13, some 126, .load 3 (T 125), none⟩,
  ⟨14, some 127, .indexAddr 26 (T 113) (T 114), none⟩,
  ⟨15, none, .store 3 (T 127) (T 122), none⟩,
  ⟨16, some 128, .indexAddr 26 (T 115) (T 117), none⟩,
  ⟨17, none, .store 3 (T 128) (T 126), none⟩] [(0, 1), (0, 2), (1, 2), (0, 3), (1, 3), (2, 3), (0, 4), (1, 4), (2, 4), (0, 5), (1, 5), (2, 5), (3, 5), (4, 5), (0, 6), (1, 6), (2, 6), (3, 6), (4, 6), (5, 6), (0, 7), (1, 7), (2, 7), (3, 7), (4, 7), (5, 7), (0, 8), (1, 8), (2, 8), (3, 8), (4, 8), (0, 9), (1, 9), (2, 9), (3, 9), (4, 9), (0, 10), (1, 10), (2, 10), (3, 10), (4, 10), (5, 10), (6, 10), (7, 10), (8, 10), (9, 10), (0, 11), (1, 11), (2, 11), (3, 11), (4, 11), (5, 11), (6, 11), (7, 11), (8, 11), (9, 11), (10, 11), (0, 12), (1, 12), (2, 12), (3, 12), (4, 12), (5, 12), (6, 12), (7, 12), (8, 12), (9, 12), (0, 13), (1, 13), (2, 13), (3, 13), (4, 13), (5, 13), (6, 13), (7, 13), (8, 13), (9, 13), (2, 14), (3, 14), (4, 14), (2, 15), (3, 15), (4, 15)]
abbrev b334x29 : BC := .reg [⟨0, some 111, .move (T 17), none⟩,
  ⟨1, some 112, .binOp .sub 3 (T 111) (K 1) 3, none⟩,
  ⟨2, some 17, .assign (T 112), none⟩] []
abbrev b334x30 : BC := .loop (.seq (.seq b334x27 (.cond (T 110) .skip (.exit 6))) (.seq (.block 7 b334x28) b334x29))
abbrev b334x31 : BC := .cond (T 80) (.seq b334x17 (.seq b334x18 (.seq (.block 4 b334x25) (.seq (.seq b334x26 (.block 6 b334x30)) .ret)))) .skip
abbrev b334x32 : BC := .reg [⟨0, some 129, .move (T 1), none⟩,
  ⟨1, some 130, .move (T 3), none⟩,
  ⟨2, some 131, .binOp .add 3 (T 129) (T 130) 3, none⟩,
  ⟨3, some 132, .convert 3 321 (T 131), none⟩,
  ⟨4, some 133, .binOp .shr 321 (T 132) (.const (.int .u64 1)) 321, none⟩,
  ⟨5, some 134, .convert 321 3 (T 133), none⟩,
  ⟨6, some 18, .assign (T 134), none⟩] []
abbrev b334x33 : BC := .reg [⟨0, some 135, .move (T 18), none⟩,
  ⟨1, some 136, .move (T 2), none⟩,
  ⟨2, some 137, .binOp .add 3 (T 135) (T 136) 3, none⟩,
  ⟨3, some 19, .assign (T 137), none⟩] []
abbrev b334x34 : BC := .reg [⟨0, some 20, .assign (K 0), none⟩,
  ⟨1, some 21, .assign (K 0), none⟩] []
abbrev b334x35 : BC := .reg [⟨0, some 138, .move (T 2), none⟩,
  ⟨1, some 139, .move (T 18), none⟩,
  ⟨2, some 140, .binOp .gtr 3 (T 138) (T 139) 3, none⟩] []
abbrev b334x36 : BC := .reg [⟨0, some 141, .move (T 19), none⟩,
  ⟨1, some 142, .move (T 3), none⟩,
  ⟨2, some 143, .binOp .sub 3 (T 141) (T 142) 3, none⟩,
  ⟨3, some 20, .assign (T 143), none⟩] []
abbrev b334x37 : BC := .reg [⟨0, some 144, .move (T 18), none⟩,
  ⟨1, some 21, .assign (T 144), none⟩] []
abbrev b334x38 : BC := .reg [⟨0, some 145, .move (T 1), none⟩,
  ⟨1, some 20, .assign (T 145), none⟩] []
abbrev b334x39 : BC := .reg [⟨0, some 146, .move (T 2), none⟩,
  ⟨1, some 21, .assign (T 146), none⟩] []
abbrev b334x40 : BC := .reg [⟨0, some 147, .move (T 19), none⟩,
  ⟨1, some 148, .binOp .sub 3 (T 147) (K 1) 3, none⟩,
  ⟨2, some 22, .assign (T 148), none⟩] []
abbrev b334x41 : BC := .reg [⟨0, some 149, .move (T 20), none⟩,
  ⟨1, some 150, .move (T 21), none⟩,
  ⟨2, some 151, .binOp .lss 3 (T 149) (T 150) 3, none⟩] []
abbrev b334x42 : BC := .reg [⟨0, some 152, .move (T 20), none⟩,
  ⟨1, some 153, .move (T 21), none⟩,
  ⟨2, some 154, .binOp .add 3 (T 152) (T 153) 3, none⟩,
  ⟨3, some 155, .convert 3 321 (T 154), none⟩,
  ⟨4, some 156, .binOp .shr 321 (T 155) (.const (.int .u64 1)) 321, none⟩,
  ⟨5, some 157, .convert 321 3 (T 156), none⟩,
  ⟨6, some 23, .assign (T 157), none⟩] []
abbrev b334x43 : BC := .reg [⟨0, some 158, .move (T 4), none⟩,
  ⟨1, some 159, .move (T 0), none⟩,
  ⟨2, some 160, .move (T 22), none⟩,
  ⟨3, some 161, .move (T 23), none⟩,
  ⟨4, some 162, .binOp .sub 3 (T 160) (T 161) 3, none⟩,
  ⟨5, some 163, .indexAddr 26 (T 159) (T 162), none⟩,
  ⟨6, some 164, .load 3 (T 163), none⟩,
  ⟨7, some 165, .move (T 0), none⟩,
  ⟨8, some 166, .move (T 23), none⟩,
  ⟨9, some 167, .indexAddr 26 (T 165) (T 166), none⟩,
  ⟨10, some 168, .load 3 (T 167), none⟩,
  ⟨11, some 169, .call ⟨.value (T 158), #[(T 164), (T 168)], #[3, 3]⟩, none⟩,
  ⟨12, some 170, .binOp .lss 3 (T 169) (K 0) 3, none⟩,
  ⟨13, some 171, .unOp .not 4 (T 170), none⟩] [(0, 1), (0, 2), (1, 2), (0, 3), (1, 3), (2, 3), (0, 4), (1, 4), (0, 5), (0, 6), (0, 7), (1, 7), (2, 7), (3, 7), (4, 7), (5, 7), (6, 7), (0, 8), (1, 8), (2, 8), (3, 8), (4, 8), (5, 8), (6, 8), (7, 8), (0, 9), (1, 9), (2, 9), (3, 9), (4, 9), (5, 9), (6, 9), (0, 10), (1, 10), (2, 10), (3, 10), (4, 10), (5, 10), (6, 10)]
abbrev b334x44 : BC := .reg [⟨0, some 172, .move (T 23), none⟩,
  ⟨1, some 173, .binOp .add 3 (T 172) (K 1) 3, none⟩,
  ⟨2, some 20, .assign (T 173), none⟩] []
abbrev b334x45 : BC := .reg [⟨0, some 174, .move (T 23), none⟩,
  ⟨1, some 21, .assign (T 174), none⟩] []
abbrev b334x46 : BC := .seq (.seq b334x41 (.cond (T 151) .skip (.exit 8))) (.block 9 (.seq b334x42 (.seq b334x43 (.cond (T 171) b334x44 b334x45))))
abbrev b334x47 : BC := .loop b334x46
abbrev b334x48 : BC := .reg [⟨0, some 175, .move (T 19), none⟩,
  ⟨1, some 176, .move (T 20), none⟩,
  ⟨2, some 177, .binOp .sub 3 (T 175) (T 176) 3, none⟩,
  ⟨3, some 24, .assign (T 177), none⟩] []
abbrev b334x49 : BC := .reg [⟨0, some 178, .move (T 20), none⟩,
  ⟨1, some 179, .move (T 2), none⟩,
  ⟨2, some 180, .binOp .lss 3 (T 178) (T 179) 3, none⟩,
  ⟨3, some 181, .move (T 180), none⟩,
  ⟨4, some 182, .move (T 2), some (181, true)⟩,
  ⟨5, some 183, .move (T 24), some (181, true)⟩,
  ⟨6, some 184, .binOp .lss 3 (T 182) (T 183) 3, some (181, true)⟩,
  ⟨7, some 185, .pick (T 181) (T 184) (.const (.bool false)), none⟩] []
abbrev b334x50 : BC := .reg [⟨0, some 186, .move (T 0), none⟩,
  ⟨1, some 187, .move (T 20), none⟩,
  ⟨2, some 188, .move (T 2), none⟩,
  ⟨3, some 189, .move (T 24), none⟩,
  ⟨4, some 190, .move (T 4), none⟩,
  ⟨5, some 191, .call ⟨.value (.func 375), #[(T 186), (T 187), (T 188), (T 189), (T 190)], #[26, 3, 3, 3, 292]⟩, none⟩] []
abbrev b334x51 : BC := .reg [⟨0, some 192, .move (T 1), none⟩,
  ⟨1, some 193, .move (T 20), none⟩,
  ⟨2, some 194, .binOp .lss 3 (T 192) (T 193) 3, none⟩,
  ⟨3, some 195, .move (T 194), none⟩,
  ⟨4, some 196, .move (T 20), some (195, true)⟩,
  ⟨5, some 197, .move (T 18), some (195, true)⟩,
  ⟨6, some 198, .binOp .lss 3 (T 196) (T 197) 3, some (195, true)⟩,
  ⟨7, some 199, .pick (T 195) (T 198) (.const (.bool false)), none⟩] []
abbrev b334x52 : BC := .reg [⟨0, some 200, .move (T 0), none⟩,
  ⟨1, some 201, .move (T 1), none⟩,
  ⟨2, some 202, .move (T 20), none⟩,
  ⟨3, some 203, .move (T 18), none⟩,
  ⟨4, some 204, .move (T 4), none⟩,
  ⟨5, some 205, .call ⟨.value (.func 334), #[(T 200), (T 201), (T 202), (T 203), (T 204)], #[26, 3, 3, 3, 292]⟩, none⟩] []
abbrev b334x53 : BC := .reg [⟨0, some 206, .move (T 18), none⟩,
  ⟨1, some 207, .move (T 24), none⟩,
  ⟨2, some 208, .binOp .lss 3 (T 206) (T 207) 3, none⟩,
  ⟨3, some 209, .move (T 208), none⟩,
  ⟨4, some 210, .move (T 24), some (209, true)⟩,
  ⟨5, some 211, .move (T 3), some (209, true)⟩,
  ⟨6, some 212, .binOp .lss 3 (T 210) (T 211) 3, some (209, true)⟩,
  ⟨7, some 213, .pick (T 209) (T 212) (.const (.bool false)), none⟩] []
abbrev b334x54 : BC := .reg [⟨0, some 214, .move (T 0), none⟩,
  ⟨1, some 215, .move (T 18), none⟩,
  ⟨2, some 216, .move (T 24), none⟩,
  ⟨3, some 217, .move (T 3), none⟩,
  ⟨4, some 218, .move (T 4), none⟩,
  ⟨5, some 219, .call ⟨.value (.func 334), #[(T 214), (T 215), (T 216), (T 217), (T 218)], #[26, 3, 3, 3, 292]⟩, none⟩] []
abbrev b334x55 : BC := .seq (.seq b334x49 (.cond (T 185) b334x50 .skip)) (.seq (.seq b334x51 (.cond (T 199) b334x52 .skip)) (.seq b334x53 (.cond (T 213) b334x54 .skip)))
abbrev b334x56 : BC := .seq (.seq b334x35 (.cond (T 140) (.seq b334x36 b334x37) (.seq b334x38 b334x39))) (.seq b334x40 (.seq (.block 8 b334x47) (.seq b334x48 b334x55)))
abbrev b334x57 : BC := .seq (.seq b334x0 b334x15) (.seq (.seq b334x16 b334x31) (.seq b334x32 (.seq b334x33 (.seq b334x34 b334x56))))
abbrev b334 : BC := b334x57
theorem c334 : Tryz.f334.body.bind (compile Tryz.f334.ntmps) = some b334 := by kernel_rfl
theorem ok334 : EntryOK Tryz.prog (334, ⟨220, b334, #[]⟩) := ⟨Tryz.f334, Tryz.func334, c334, Tryz.ntmps334, by kernel_rfl, Tryz.call334⟩
/-! scarfjoint/token.letter -/
abbrev b340x0 : BC := .reg [⟨0, some 2, .assign (.const (.bool false)), none⟩] []
abbrev b340x1 : BC := .reg [⟨0, some 3, .move (T 0), none⟩,
  ⟨1, some 4, .binOp .geq 5 (T 3) (.const (.int .u8 97)) 5, none⟩,
  ⟨2, some 5, .move (T 4), none⟩,
  ⟨3, some 6, .move (T 0), some (5, true)⟩,
  ⟨4, some 7, .binOp .leq 5 (T 6) (.const (.int .u8 122)) 5, some (5, true)⟩,
  ⟨5, some 8, .pick (T 5) (T 7) (.const (.bool false)), none⟩,
  ⟨6, some 9, .move (T 8), none⟩,
  ⟨7, some 10, .move (T 0), some (9, false)⟩,
  ⟨8, some 11, .binOp .geq 5 (T 10) (.const (.int .u8 65)) 5, some (9, false)⟩,
  ⟨9, some 12, .move (T 11), some (9, false)⟩,
  ⟨10, some 13, .move (T 0), some (12, true)⟩,
  ⟨11, some 14, .binOp .leq 5 (T 13) (.const (.int .u8 90)) 5, some (12, true)⟩,
  ⟨12, some 15, .pick (T 12) (T 14) (.const (.bool false)), some (9, false)⟩,
  ⟨13, some 16, .pick (T 9) (.const (.bool true)) (T 15), none⟩,
  ⟨14, some 2, .assign (T 16), none⟩] []
abbrev b340 : BC := .seq b340x0 (.seq b340x1 .ret)
theorem c340 : Tryz.f340.body.bind (compile Tryz.f340.ntmps) = some b340 := by kernel_rfl
theorem ok340 : EntryOK Tryz.prog (340, ⟨17, b340, #[.tmp 2]⟩) := ⟨Tryz.f340, Tryz.func340, c340, Tryz.ntmps340, by kernel_rfl, Tryz.call340⟩
/-! scarfjoint/token.run -/
abbrev b341x0 : BC := .reg [⟨0, some 4, .assign (K 0), none⟩] []
abbrev b341x1 : BC := .reg [⟨0, some 5, .assign (K 0), none⟩] []
abbrev b341x2 : BC := .reg [⟨0, some 6, .move (T 5), none⟩,
  ⟨1, some 7, .move (T 0), none⟩,
  ⟨2, some 8, .call ⟨.builtin .len, #[(T 7)], #[9]⟩, none⟩,
  ⟨3, some 9, .binOp .lss 3 (T 6) (T 8) 3, none⟩,
  ⟨4, some 10, .move (T 9), none⟩,
  ⟨5, some 11, .move (T 1), some (10, true)⟩,
  ⟨6, some 12, .move (T 0), some (10, true)⟩,
  ⟨7, some 13, .move (T 5), some (10, true)⟩,
  ⟨8, some 14, .index 9 (T 12) (T 13), some (10, true)⟩,
  ⟨9, some 15, .call ⟨.value (T 11), #[(T 14)], #[5]⟩, some (10, true)⟩,
  ⟨10, some 16, .pick (T 10) (T 15) (.const (.bool false)), none⟩] []
abbrev b341x3 : BC := .reg [⟨0, some 17, .move (T 5), none⟩,
  ⟨1, some 18, .binOp .add 3 (T 17) (K 1) 3, none⟩,
  ⟨2, some 5, .assign (T 18), none⟩] []
abbrev b341x4 : BC := .loop (.seq (.seq b341x2 (.cond (T 16) .skip (.exit 0))) (.block 1 b341x3))
abbrev b341x5 : BC := .reg [⟨0, some 19, .move (T 5), none⟩,
  ⟨1, some 4, .assign (T 19), none⟩] []
abbrev b341 : BC := .seq b341x0 (.seq b341x1 (.seq (.block 0 b341x4) (.seq b341x5 .ret)))
theorem c341 : Tryz.f341.body.bind (compile Tryz.f341.ntmps) = some b341 := by kernel_rfl
theorem ok341 : EntryOK Tryz.prog (341, ⟨20, b341, #[.tmp 4]⟩) := ⟨Tryz.f341, Tryz.func341, c341, Tryz.ntmps341, by kernel_rfl, Tryz.call341⟩
/-! scarfjoint/token.part -/
abbrev b342x0 : BC := .reg [⟨0, some 2, .assign (.const (.bool false)), none⟩] []
abbrev b342x1 : BC := .reg [⟨0, some 3, .move (T 0), none⟩,
  ⟨1, some 4, .call ⟨.value (.func 340), #[(T 3)], #[5]⟩, none⟩,
  ⟨2, some 5, .move (T 4), none⟩,
  ⟨3, some 6, .move (T 0), some (5, false)⟩,
  ⟨4, some 7, .call ⟨.value (.func 343), #[(T 6)], #[5]⟩, some (5, false)⟩,
  ⟨5, some 8, .pick (T 5) (.const (.bool true)) (T 7), none⟩,
  ⟨6, some 9, .move (T 8), none⟩,
  ⟨7, some 10, .move (T 0), some (9, false)⟩,
  ⟨8, some 11, .binOp .eql 5 (T 10) (.const (.int .u8 95)) 5, some (9, false)⟩,
  ⟨9, some 12, .pick (T 9) (.const (.bool true)) (T 11), none⟩,
  ⟨10, some 2, .assign (T 12), none⟩] []
abbrev b342 : BC := .seq b342x0 (.seq b342x1 .ret)
theorem c342 : Tryz.f342.body.bind (compile Tryz.f342.ntmps) = some b342 := by kernel_rfl
theorem ok342 : EntryOK Tryz.prog (342, ⟨13, b342, #[.tmp 2]⟩) := ⟨Tryz.f342, Tryz.func342, c342, Tryz.ntmps342, by kernel_rfl, Tryz.call342⟩
/-! scarfjoint/token.digit -/
abbrev b343x0 : BC := .reg [⟨0, some 2, .assign (.const (.bool false)), none⟩] []
abbrev b343x1 : BC := .reg [⟨0, some 3, .move (T 0), none⟩,
  ⟨1, some 4, .binOp .geq 5 (T 3) (.const (.int .u8 48)) 5, none⟩,
  ⟨2, some 5, .move (T 4), none⟩,
  ⟨3, some 6, .move (T 0), some (5, true)⟩,
  ⟨4, some 7, .binOp .leq 5 (T 6) (.const (.int .u8 57)) 5, some (5, true)⟩,
  ⟨5, some 8, .pick (T 5) (T 7) (.const (.bool false)), none⟩,
  ⟨6, some 2, .assign (T 8), none⟩] []
abbrev b343 : BC := .seq b343x0 (.seq b343x1 .ret)
theorem c343 : Tryz.f343.body.bind (compile Tryz.f343.ntmps) = some b343 := by kernel_rfl
theorem ok343 : EntryOK Tryz.prog (343, ⟨9, b343, #[.tmp 2]⟩) := ⟨Tryz.f343, Tryz.func343, c343, Tryz.ntmps343, by kernel_rfl, Tryz.call343⟩
/-! scarfjoint/token.quoted -/
abbrev b344x0 : BC := .reg [⟨0, some 2, .assign (K 0), none⟩,
  ⟨1, some 3, .assign (K 0), none⟩] []
abbrev b344x1 : BC := .reg [⟨0, some 5, .move (T 0), none⟩,
  ⟨1, some 6, .slice 9 (T 5) (some (K 1)) none none, none⟩,
  ⟨2, some 7, .call ⟨.value (.func 341), #[(T 6), (.func 376)], #[9, 379]⟩, none⟩,
  ⟨3, some 4, .assign (T 7), none⟩] []
abbrev b344x2 : BC := .reg [⟨0, some 8, .move (T 4), none⟩,
  ⟨1, some 9, .binOp .add 3 (K 1) (T 8) 3, none⟩,
  ⟨2, some 10, .move (T 0), none⟩,
  ⟨3, some 11, .call ⟨.builtin .len, #[(T 10)], #[9]⟩, none⟩,
  ⟨4, some 12, .binOp .eql 3 (T 9) (T 11) 3, none⟩,
  ⟨5, some 13, .move (T 12), none⟩,
  ⟨6, some 14, .move (T 0), some (13, false)⟩,
  ⟨7, some 15, .move (T 4), some (13, false)⟩,
  ⟨8, some 16, .binOp .add 3 (K 1) (T 15) 3, some (13, false)⟩,
  ⟨9, some 17, .index 9 (T 14) (T 16), some (13, false)⟩,
  ⟨10, some 18, .binOp .neq 5 (T 17) (.const (.int .u8 34)) 5, some (13, false)⟩,
  ⟨11, some 19, .pick (T 13) (.const (.bool true)) (T 18), none⟩] []
abbrev b344x3 : BC := .reg [⟨0, some 2, .assign (K 0), none⟩,
  ⟨1, some 3, .assign (K 2), none⟩] []
abbrev b344x4 : BC := .reg [⟨0, some 20, .move (T 4), none⟩,
  ⟨1, some 21, .binOp .gtr 3 (T 20) (K 60) 3, none⟩] []
abbrev b344x5 : BC := .reg [⟨0, some 2, .assign (K 0), none⟩,
  ⟨1, some 3, .assign (K 3), none⟩] []
abbrev b344x6 : BC := .reg [⟨0, some 22, .move (T 4), none⟩,
  ⟨1, some 23, .binOp .add 3 (T 22) (K 2) 3, none⟩,
  ⟨2, some 2, .assign (T 23), none⟩,
  ⟨3, some 3, .assign (K 0), none⟩] []
abbrev b344x7 : BC := .seq (.seq b344x2 (.cond (T 19) (.seq b344x3 .ret) .skip)) (.seq (.seq b344x4 (.cond (T 21) (.seq b344x5 .ret) .skip)) (.seq b344x6 .ret))
abbrev b344 : BC := .seq b344x0 (.seq b344x1 b344x7)
theorem c344 : Tryz.f344.body.bind (compile Tryz.f344.ntmps) = some b344 := by kernel_rfl
theorem ok344 : EntryOK Tryz.prog (344, ⟨24, b344, #[.tmp 2, .tmp 3]⟩) := ⟨Tryz.f344, Tryz.func344, c344, Tryz.ntmps344, by kernel_rfl, Tryz.call344⟩
/-! scarfjoint/token.pair -/
abbrev b345x0 : BC := .reg [⟨0, some 2, .assign (.const (.bool false)), none⟩] []
abbrev b345x1 : BC := .reg [⟨0, some 3, .move (T 0), none⟩,
  ⟨1, some 4, .call ⟨.builtin .len, #[(T 3)], #[9]⟩, none⟩,
  ⟨2, some 5, .binOp .geq 3 (T 4) (K 2) 3, none⟩,
  ⟨3, some 6, .move (T 5), none⟩,
  ⟨4, some 7, .buildSlice 158 5 #[(0, (.const (.string ⟨#[45, 62]⟩))), (1, (.const (.string ⟨#[60, 61]⟩))), (2, (.const (.string ⟨#[62, 61]⟩))), (3, (.const (.string ⟨#[61, 61]⟩))), (4, (.const (.string ⟨#[33, 61]⟩)))], some (6, true)⟩,
  ⟨5, some 8, .move (T 0), some (6, true)⟩,
  ⟨6, some 9, .slice 9 (T 8) none (some (K 2)) none, some (6, true)⟩,
  ⟨7, some 10, .call ⟨.value (.func 374), #[(T 7), (T 9)], #[158, 9]⟩, some (6, true)⟩,
  ⟨8, some 11, .pick (T 6) (T 10) (.const (.bool false)), none⟩,
  ⟨9, some 2, .assign (T 11), none⟩] []
abbrev b345 : BC := .seq b345x0 (.seq b345x1 .ret)
theorem c345 : Tryz.f345.body.bind (compile Tryz.f345.ntmps) = some b345 := by kernel_rfl
theorem ok345 : EntryOK Tryz.prog (345, ⟨12, b345, #[.tmp 2]⟩) := ⟨Tryz.f345, Tryz.func345, c345, Tryz.ntmps345, by kernel_rfl, Tryz.call345⟩
/-! strings.IndexByte -/
abbrev b346x0 : BC := .reg [⟨0, some 4, .assign (K 0), none⟩] []
abbrev b346x1 : BC := .reg [⟨0, some 5, .move (T 0), none⟩,
  ⟨1, some 6, .move (T 1), none⟩,
  ⟨2, some 7, .call ⟨.value (.func 377), #[(T 5), (T 6)], #[9, 5]⟩, none⟩,
  ⟨3, some 4, .assign (T 7), none⟩] []
abbrev b346 : BC := .seq b346x0 (.seq b346x1 .ret)
theorem c346 : Tryz.f346.body.bind (compile Tryz.f346.ntmps) = some b346 := by kernel_rfl
theorem ok346 : EntryOK Tryz.prog (346, ⟨8, b346, #[.tmp 4]⟩) := ⟨Tryz.f346, Tryz.func346, c346, Tryz.ntmps346, by kernel_rfl, Tryz.call346⟩
/-! slices.siftDownOrdered[int] -/
abbrev b360x0 : BC := .reg [⟨0, some 10, .move (T 1), none⟩,
  ⟨1, some 8, .assign (T 10), none⟩] []
abbrev b360x1 : BC := .reg [⟨0, some 11, .move (T 8), none⟩,
  ⟨1, some 12, .binOp .mul 3 (K 2) (T 11) 3, none⟩,
  ⟨2, some 13, .binOp .add 3 (T 12) (K 1) 3, none⟩,
  ⟨3, some 9, .assign (T 13), none⟩] []
abbrev b360x2 : BC := .reg [⟨0, some 14, .move (T 9), none⟩,
  ⟨1, some 15, .move (T 2), none⟩,
  ⟨2, some 16, .binOp .geq 3 (T 14) (T 15) 3, none⟩] []
abbrev b360x3 : BC := .reg [⟨0, some 17, .move (T 9), none⟩,
  ⟨1, some 18, .binOp .add 3 (T 17) (K 1) 3, none⟩,
  ⟨2, some 19, .move (T 2), none⟩,
  ⟨3, some 20, .binOp .lss 3 (T 18) (T 19) 3, none⟩,
  ⟨4, some 21, .move (T 20), none⟩,
  ⟨5, some 22, .move (T 0), some (21, true)⟩,
  ⟨6, some 23, .move (T 3), some (21, true)⟩,
  ⟨7, some 24, .move (T 9), some (21, true)⟩,
  ⟨8, some 25, .binOp .add 3 (T 23) (T 24) 3, some (21, true)⟩,
  ⟨9, some 26, .indexAddr 26 (T 22) (T 25), some (21, true)⟩,
  ⟨10, some 27, .load 3 (T 26), some (21, true)⟩,
  ⟨11, some 28, .move (T 0), some (21, true)⟩,
  ⟨12, some 29, .move (T 3), some (21, true)⟩,
  ⟨13, some 30, .move (T 9), some (21, true)⟩,
  ⟨14, some 31, .binOp .add 3 (T 29) (T 30) 3, some (21, true)⟩,
  ⟨15, some 32, .binOp .add 3 (T 31) (K 1) 3, some (21, true)⟩,
  ⟨16, some 33, .indexAddr 26 (T 28) (T 32), some (21, true)⟩,
  ⟨17, some 34, .load 3 (T 33), some (21, true)⟩,
  ⟨18, some 35, .call ⟨.value (.func 288), #[(T 27), (T 34)], #[3, 3]⟩, some (21, true)⟩,
  ⟨19, some 36, .pick (T 21) (T 35) (.const (.bool false)), none⟩] [(0, 2), (1, 2), (5, 6), (5, 7), (6, 7), (5, 8), (5, 11), (6, 11), (7, 11), (8, 11), (9, 11), (10, 11), (5, 12), (6, 12), (7, 12), (8, 12), (9, 12), (10, 12), (11, 12), (5, 13), (6, 13), (7, 13), (8, 13), (9, 13), (10, 13), (11, 13), (12, 13), (5, 14), (6, 14), (7, 14), (8, 14), (9, 14), (10, 14), (11, 14), (5, 15), (6, 15), (7, 15), (8, 15), (9, 15), (10, 15), (11, 15), (5, 16), (6, 16), (7, 16), (8, 16), (9, 16), (10, 16), (5, 17), (6, 17), (7, 17), (8, 17), (9, 17), (10, 17)]
abbrev b360x4 : BC := .reg [⟨0, some 37, .move (T 9), none⟩,
  ⟨1, some 38, .binOp .add 3 (T 37) (K 1) 3, none⟩,
  ⟨2, some 9, .assign (T 38), none⟩] []
abbrev b360x5 : BC := .reg [⟨0, some 39, .move (T 0), none⟩,
  ⟨1, some 40, .move (T 3), none⟩,
  ⟨2, some 41, .move (T 8), none⟩,
  ⟨3, some 42, .binOp .add 3 (T 40) (T 41) 3, none⟩,
  ⟨4, some 43, .indexAddr 26 (T 39) (T 42), none⟩,
  ⟨5, some 44, .load 3 (T 43), none⟩,
  ⟨6, some 45, .move (T 0), none⟩,
  ⟨7, some 46, .move (T 3), none⟩,
  ⟨8, some 47, .move (T 9), none⟩,
  ⟨9, some 48, .binOp .add 3 (T 46) (T 47) 3, none⟩,
  ⟨10, some 49, .indexAddr 26 (T 45) (T 48), none⟩,
  ⟨11, some 50, .load 3 (T 49), none⟩,
  ⟨12, some 51, .call ⟨.value (.func 288), #[(T 44), (T 50)], #[3, 3]⟩, none⟩,
  ⟨13, some 52, .unOp .not 4 (T 51), none⟩] [(0, 1), (0, 2), (1, 2), (0, 3), (0, 6), (1, 6), (2, 6), (3, 6), (4, 6), (5, 6), (0, 7), (1, 7), (2, 7), (3, 7), (4, 7), (5, 7), (6, 7), (0, 8), (1, 8), (2, 8), (3, 8), (4, 8), (5, 8), (6, 8), (7, 8), (0, 9), (1, 9), (2, 9), (3, 9), (4, 9), (5, 9), (6, 9), (0, 10), (1, 10), (2, 10), (3, 10), (4, 10), (5, 10), (0, 11), (1, 11), (2, 11), (3, 11), (4, 11), (5, 11)]
abbrev b360x6 : BC := .reg [⟨0, some 53, .move (T 0), none⟩,
  ⟨1, some 54, .move (T 3), none⟩,
  ⟨2, some 55, .move (T 8), none⟩,
  ⟨3, some 56, .binOp .add 3 (T 54) (T 55) 3, none⟩,
  ⟨4, some 57, .move (T 0), none⟩,
  ⟨5, some 58, .move (T 3), none⟩,
  ⟨6, some 59, .move (T 9), none⟩,
  ⟨7, some 60, .binOp .add 3 (T 58) (T 59) 3, none⟩,
  ⟨8, some 61, .move (T 0), none⟩,
  ⟨9, some 62, .move (T 3), none⟩,
  ⟨10, some 63, .move (T 9), none⟩,
  ⟨11, some 64, .binOp .add 3 (T 62) (T 63) 3, none⟩,
  ⟨12, some 65, .indexAddr 26 (T 61) (T 64), none⟩,
  ⟨13, some 66, .load 3 (T 65), none⟩,
  ⟨14, some 67, .move (T 0), none⟩,
  ⟨15, some 68, .move (T 3), none⟩,
  ⟨16, some 69, .move (T 8), none⟩,
  ⟨17, some 70, .binOp .add 3 (T 68) (T 69) 3, none⟩,
  ⟨18, some 71, .indexAddr 26 (T 67) (T 70), none⟩,
  ⟨19, some 72, .load 3 (T 71), none⟩,
  ⟨20, some 73, .indexAddr 26 (T 53) (T 56), none⟩,
  ⟨21, none, .store 3 (T 73) (T 66), none⟩,
  ⟨22, some 74, .indexAddr 26 (T 57) (T 60), none⟩,
  ⟨23, none, .store 3 (T 74) (T 72), none⟩] [(0, 1), (0, 2), (1, 2), (0, 3), (0, 4), (1, 4), (2, 4), (3, 4), (0, 5), (1, 5), (2, 5), (3, 5), (4, 5), (0, 6), (1, 6), (2, 6), (3, 6), (4, 6), (5, 6), (0, 7), (1, 7), (2, 7), (3, 7), (4, 7), (0, 8), (1, 8), (2, 8), (3, 8), (4, 8), (5, 8), (6, 8), (7, 8), (0, 9), (1, 9), (2, 9), (3, 9), (4, 9), (5, 9), (6, 9), (7, 9), (8, 9), (0, 10), (1, 10), (2, 10), (3, 10), (4, 10), (5, 10), (6, 10), (7, 10), (8, 10), (9, 10), (0, 11), (1, 11), (2, 11), (3, 11), (4, 11), (5, 11), (6, 11), (7, 11), (8, 11), (0, 12), (1, 12), (2, 12), (3, 12), (4, 12), (5, 12), (6, 12), (7, 12), (0, 13), (1, 13), (2, 13), (3, 13), (4, 13), (5, 13), (6, 13), (7, 13), (0, 14), (1, 14), (2, 14), (3, 14), (4, 14), (5, 14), (6, 14), (7, 14), (8, 14), (9, 14), (10, 14), (11, 14), (12, 14), (13, 14), (0, 15), (1, 15), (2, 15), (3, 15), (4, 15), (5, 15), (6, 15), (7, 15), (8, 15), (9, 15), (10, 15), (11, 15), (12, 15), (13, 15), (14, 15), (0, 16), (1, 16), (2, 16), (3, 16), (4, 16), (5, 16), (6, 16), (7, 16), (8, 16), (9, 16), (10, 16), (11, 16), (12, 16), (13, 16), (14, 16), (15, 16), (0, 17), (1, 17), (2, 17), (3, 17), (4, 17), (5, 17), (6, 17), (7, 17), (8, 17), (9, 17), (10, 17), (11, 17), (12, 17), (13, 17), (14, 17), (0, 18), (1, 18), (2, 18), (3, 18), (4, 18), (5, 18), (6, 18), (7, 18), (8, 18), (9, 18), (10, 18), (11, 18), (12, 18), (13, 18), (0, 19), (1, 19), (2, 19), (3, 19), (4, 19), (5, 19), (6, 19), (7, 19), (8, 19), (9, 19), (10, 19), (11, 19), (12, 19), (13, 19), (4, 20), (5, 20), (6, 20), (7, 20), (4, 21), (5, 21), (6, 21), (7, 21)]
abbrev b360x7 : BC := .reg [⟨0, some 75, .move (T 9), none⟩,
  ⟨1, some 8, .assign (T 75), none⟩] []
abbrev b360x8 : BC := .seq (.seq b360x3 (.cond (T 36) b360x4 .skip)) (.seq (.seq b360x5 (.cond (T 52) .ret .skip)) (.seq b360x6 b360x7))
abbrev b360x9 : BC := .loop (.block 1 (.seq b360x1 (.seq (.seq b360x2 (.cond (T 16) (.exit 0) .skip)) b360x8)))
abbrev b360 : BC := .seq b360x0 (.block 0 b360x9)
theorem c360 : Tryz.f360.body.bind (compile Tryz.f360.ntmps) = some b360 := by kernel_rfl
theorem ok360 : EntryOK Tryz.prog (360, ⟨76, b360, #[]⟩) := ⟨Tryz.f360, Tryz.func360, c360, Tryz.ntmps360, by kernel_rfl, Tryz.call360⟩
/-! slices.nextPowerOfTwo -/
abbrev b361x0 : BC := .reg [⟨0, some 2, .assign (.const (.int .u64 0)), none⟩] []
abbrev b361x1 : BC := .reg [⟨0, some 3, .move (T 0), none⟩,
  ⟨1, some 4, .convert 3 321 (T 3), none⟩,
  ⟨2, some 5, .call ⟨.value (.func 264), #[(T 4)], #[321]⟩, none⟩,
  ⟨3, some 6, .binOp .shl 321 (.const (.int .u64 1)) (T 5) 3, none⟩,
  ⟨4, some 2, .assign (T 6), none⟩] []
abbrev b361 : BC := .seq b361x0 (.seq b361x1 .ret)
theorem c361 : Tryz.f361.body.bind (compile Tryz.f361.ntmps) = some b361 := by kernel_rfl
theorem ok361 : EntryOK Tryz.prog (361, ⟨7, b361, #[.tmp 2]⟩) := ⟨Tryz.f361, Tryz.func361, c361, Tryz.ntmps361, by kernel_rfl, Tryz.call361⟩
/-! (*slices.xorshift).Next -/
abbrev b362x0 : BC := .reg [⟨0, some 2, .assign (.const (.int .u64 0)), none⟩] []
abbrev b362x1 : BC := .reg [⟨0, some 3, .move (T 0), none⟩,
  ⟨1, some 4, .nilCheck (T 3), none⟩,
  ⟨2, some 5, .load 388 (T 4), none⟩,
  ⟨3, some 6, .move (T 0), none⟩,
  ⟨4, some 7, .nilCheck (T 6), none⟩,
  ⟨5, some 8, .load 388 (T 7), none⟩,
  ⟨6, some 9, .binOp .shl 388 (T 8) (.const (.int .u64 13)) 321, none⟩,
  ⟨7, some 10, .binOp .xor 388 (T 5) (T 9) 388, none⟩,
  ⟨8, some 11, .nilCheck (T 3), none⟩,
  ⟨9, none, .store 388 (T 11) (T 10), none⟩] [(0, 3), (1, 3), (2, 3), (0, 4), (1, 4), (2, 4), (0, 5), (1, 5), (2, 5), (0, 6), (1, 6), (2, 6)]
abbrev b362x2 : BC := .reg [⟨0, some 12, .move (T 0), none⟩,
  ⟨1, some 13, .nilCheck (T 12), none⟩,
  ⟨2, some 14, .load 388 (T 13), none⟩,
  ⟨3, some 15, .move (T 0), none⟩,
  ⟨4, some 16, .nilCheck (T 15), none⟩,
  ⟨5, some 17, .load 388 (T 16), none⟩,
  ⟨6, some 18, .binOp .shr 388 (T 17) (.const (.int .u64 7)) 321, none⟩,
  ⟨7, some 19, .binOp .xor 388 (T 14) (T 18) 388, none⟩,
  ⟨8, some 20, .nilCheck (T 12), none⟩,
  ⟨9, none, .store 388 (T 20) (T 19), none⟩] [(0, 3), (1, 3), (2, 3), (0, 4), (1, 4), (2, 4), (0, 5), (1, 5), (2, 5), (0, 6), (1, 6), (2, 6)]
abbrev b362x3 : BC := .reg [⟨0, some 21, .move (T 0), none⟩,
  ⟨1, some 22, .nilCheck (T 21), none⟩,
  ⟨2, some 23, .load 388 (T 22), none⟩,
  ⟨3, some 24, .move (T 0), none⟩,
  ⟨4, some 25, .nilCheck (T 24), none⟩,
  ⟨5, some 26, .load 388 (T 25), none⟩,
  ⟨6, some 27, .binOp .shl 388 (T 26) (.const (.int .u64 17)) 321, none⟩,
  ⟨7, some 28, .binOp .xor 388 (T 23) (T 27) 388, none⟩,
  ⟨8, some 29, .nilCheck (T 21), none⟩,
  ⟨9, none, .store 388 (T 29) (T 28), none⟩] [(0, 3), (1, 3), (2, 3), (0, 4), (1, 4), (2, 4), (0, 5), (1, 5), (2, 5), (0, 6), (1, 6), (2, 6)]
abbrev b362x4 : BC := .reg [⟨0, some 30, .move (T 0), none⟩,
  ⟨1, some 31, .nilCheck (T 30), none⟩,
  ⟨2, some 32, .load 388 (T 31), none⟩,
  ⟨3, some 2, .assign (T 32), none⟩] []
abbrev b362 : BC := .seq b362x0 (.seq b362x1 (.seq b362x2 (.seq b362x3 (.seq b362x4 .ret))))
theorem c362 : Tryz.f362.body.bind (compile Tryz.f362.ntmps) = some b362 := by kernel_rfl
theorem ok362 : EntryOK Tryz.prog (362, ⟨33, b362, #[.tmp 2]⟩) := ⟨Tryz.f362, Tryz.func362, c362, Tryz.ntmps362, by kernel_rfl, Tryz.call362⟩
/-! slices.medianAdjacentOrdered[int] -/
abbrev b363x0 : BC := .reg [⟨0, some 6, .assign (K 0), none⟩] []
abbrev b363x1 : BC := .reg [⟨0, some 7, .move (T 0), none⟩,
  ⟨1, some 8, .move (T 1), none⟩,
  ⟨2, some 9, .binOp .sub 3 (T 8) (K 1) 3, none⟩,
  ⟨3, some 10, .move (T 1), none⟩,
  ⟨4, some 11, .move (T 1), none⟩,
  ⟨5, some 12, .binOp .add 3 (T 11) (K 1) 3, none⟩,
  ⟨6, some 13, .move (T 2), none⟩,
  ⟨7, some 14, .call ⟨.value (.func 364), #[(T 7), (T 9), (T 10), (T 12), (T 13)], #[26, 3, 3, 3, 392]⟩, none⟩,
  ⟨8, some 6, .assign (T 14), none⟩] []
abbrev b363 : BC := .seq b363x0 (.seq b363x1 .ret)
theorem c363 : Tryz.f363.body.bind (compile Tryz.f363.ntmps) = some b363 := by kernel_rfl
theorem ok363 : EntryOK Tryz.prog (363, ⟨15, b363, #[.tmp 6]⟩) := ⟨Tryz.f363, Tryz.func363, c363, Tryz.ntmps363, by kernel_rfl, Tryz.call363⟩
/-! slices.medianOrdered[int] -/
abbrev b364x0 : BC := .reg [⟨0, some 10, .assign (K 0), none⟩] []
abbrev b364x1 : BC := .reg [⟨0, some 12, .move (T 0), none⟩,
  ⟨1, some 13, .move (T 1), none⟩,
  ⟨2, some 14, .move (T 2), none⟩,
  ⟨3, some 15, .move (T 4), none⟩,
  ⟨4, some 16, .call ⟨.value (.func 380), #[(T 12), (T 13), (T 14), (T 15)], #[26, 3, 3, 392]⟩, none⟩,
  ⟨5, some 11, .move (T 16), none⟩,
  ⟨6, some 17, .extract (T 11) 0, none⟩,
  ⟨7, some 18, .extract (T 11) 1, none⟩,
  ⟨8, some 1, .assign (T 17), none⟩,
  ⟨9, some 2, .assign (T 18), none⟩] []
abbrev b364x2 : BC := .reg [⟨0, some 20, .move (T 0), none⟩,
  ⟨1, some 21, .move (T 2), none⟩,
  ⟨2, some 22, .move (T 3), none⟩,
  ⟨3, some 23, .move (T 4), none⟩,
  ⟨4, some 24, .call ⟨.value (.func 380), #[(T 20), (T 21), (T 22), (T 23)], #[26, 3, 3, 392]⟩, none⟩,
  ⟨5, some 19, .move (T 24), none⟩,
  ⟨6, some 25, .extract (T 19) 0, none⟩,
  ⟨7, some 26, .extract (T 19) 1, none⟩,
  ⟨8, some 2, .assign (T 25), none⟩,
  ⟨9, some 3, .assign (T 26), none⟩] []
abbrev b364x3 : BC := .reg [⟨0, some 28, .move (T 0), none⟩,
  ⟨1, some 29, .move (T 1), none⟩,
  ⟨2, some 30, .move (T 2), none⟩,
  ⟨3, some 31, .move (T 4), none⟩,
  ⟨4, some 32, .call ⟨.value (.func 380), #[(T 28), (T 29), (T 30), (T 31)], #[26, 3, 3, 392]⟩, none⟩,
  ⟨5, some 27, .move (T 32), none⟩,
  ⟨6, some 33, .extract (T 27) 0, none⟩,
  ⟨7, some 34, .extract (T 27) 1, none⟩,
  ⟨8, some 1, .assign (T 33), none⟩,
  ⟨9, some 2, .assign (T 34), none⟩] []
abbrev b364x4 : BC := .reg [⟨0, some 35, .move (T 2), none⟩,
  ⟨1, some 10, .assign (T 35), none⟩] []
abbrev b364 : BC := .seq b364x0 (.seq b364x1 (.seq b364x2 (.seq b364x3 (.seq b364x4 .ret))))
theorem c364 : Tryz.f364.body.bind (compile Tryz.f364.ntmps) = some b364 := by kernel_rfl
theorem ok364 : EntryOK Tryz.prog (364, ⟨36, b364, #[.tmp 10]⟩) := ⟨Tryz.f364, Tryz.func364, c364, Tryz.ntmps364, by kernel_rfl, Tryz.call364⟩
/-! slices.IndexFunc[[]scarfjoint/api.Attr,scarfjoint/api.Attr] -/
abbrev b373x0 : BC := .reg [⟨0, some 4, .assign (K 0), none⟩] []
abbrev b373x1 : BC := .reg [⟨0, some 6, .move (T 0), none⟩,
  ⟨1, some 7, .call ⟨.builtin .len, #[(T 6)], #[155]⟩, none⟩,
  ⟨2, some 8, .move (K 0), none⟩] []
abbrev b373x2 : BC := .reg [⟨0, some 9, .binOp .lss 3 (T 8) (T 7) 3, none⟩] []
abbrev b373x3 : BC := .reg [⟨0, some 10, .move (T 8), none⟩,
  ⟨1, some 5, .assign (T 10), none⟩] []
abbrev b373x4 : BC := .reg [⟨0, some 11, .move (T 1), none⟩,
  ⟨1, some 12, .move (T 0), none⟩,
  ⟨2, some 13, .move (T 5), none⟩,
  ⟨3, some 14, .indexAddr 155 (T 12) (T 13), none⟩,
  ⟨4, some 15, .load 160 (T 14), none⟩,
  ⟨5, some 16, .call ⟨.value (T 11), #[(T 15)], #[160]⟩, none⟩] []
abbrev b373x5 : BC := .reg [⟨0, some 17, .move (T 5), none⟩,
  ⟨1, some 4, .assign (T 17), none⟩] []
abbrev b373x6 : BC := .reg [⟨0, some 18, .binOp .add 3 (T 8) (K 1) 3, none⟩,
  ⟨1, some 8, .move (T 18), none⟩] []
abbrev b373x7 : BC := .seq (.cond (T 9) .skip (.exit 0)) (.seq (.block 1 (.seq b373x3 (.seq b373x4 (.cond (T 16) (.seq b373x5 .ret) .skip)))) b373x6)
abbrev b373x8 : BC := .loop (.seq b373x2 b373x7)
abbrev b373x9 : BC := .reg [⟨0, some 4, .assign (K (-1)), none⟩] []
abbrev b373 : BC := .seq b373x0 (.seq (.seq b373x1 (.block 0 b373x8)) (.seq b373x9 .ret))
theorem c373 : Tryz.f373.body.bind (compile Tryz.f373.ntmps) = some b373 := by kernel_rfl
theorem ok373 : EntryOK Tryz.prog (373, ⟨19, b373, #[.tmp 4]⟩) := ⟨Tryz.f373, Tryz.func373, c373, Tryz.ntmps373, by kernel_rfl, Tryz.call373⟩
/-! slices.Contains[[]string,string] -/
abbrev b374x0 : BC := .reg [⟨0, some 4, .assign (.const (.bool false)), none⟩] []
abbrev b374x1 : BC := .reg [⟨0, some 5, .move (T 0), none⟩,
  ⟨1, some 6, .move (T 1), none⟩,
  ⟨2, some 7, .call ⟨.value (.func 385), #[(T 5), (T 6)], #[158, 9]⟩, none⟩,
  ⟨3, some 8, .binOp .geq 3 (T 7) (K 0) 3, none⟩,
  ⟨4, some 4, .assign (T 8), none⟩] []
abbrev b374 : BC := .seq b374x0 (.seq b374x1 .ret)
theorem c374 : Tryz.f374.body.bind (compile Tryz.f374.ntmps) = some b374 := by kernel_rfl
theorem ok374 : EntryOK Tryz.prog (374, ⟨9, b374, #[.tmp 4]⟩) := ⟨Tryz.f374, Tryz.func374, c374, Tryz.ntmps374, by kernel_rfl, Tryz.call374⟩
/-! slices.rotateCmpFunc[int] -/
abbrev b375x0 : BC := .reg [⟨0, some 12, .move (T 2), none⟩,
  ⟨1, some 13, .move (T 1), none⟩,
  ⟨2, some 14, .binOp .sub 3 (T 12) (T 13) 3, none⟩,
  ⟨3, some 10, .assign (T 14), none⟩] []
abbrev b375x1 : BC := .reg [⟨0, some 15, .move (T 3), none⟩,
  ⟨1, some 16, .move (T 2), none⟩,
  ⟨2, some 17, .binOp .sub 3 (T 15) (T 16) 3, none⟩,
  ⟨3, some 11, .assign (T 17), none⟩] []
abbrev b375x2 : BC := .reg [⟨0, some 18, .move (T 10), none⟩,
  ⟨1, some 19, .move (T 11), none⟩,
  ⟨2, some 20, .binOp .neq 3 (T 18) (T 19) 3, none⟩] []
abbrev b375x3 : BC := .reg [⟨0, some 21, .move (T 10), none⟩,
  ⟨1, some 22, .move (T 11), none⟩,
  ⟨2, some 23, .binOp .gtr 3 (T 21) (T 22) 3, none⟩] []
abbrev b375x4 : BC := .reg [⟨0, some 24, .move (T 0), none⟩,
  ⟨1, some 25, .move (T 2), none⟩,
  ⟨2, some 26, .move (T 10), none⟩,
  ⟨3, some 27, .binOp .sub 3 (T 25) (T 26) 3, none⟩,
  ⟨4, some 28, .move (T 2), none⟩,
  ⟨5, some 29, .move (T 11), none⟩,
  ⟨6, some 30, .move (T 4), none⟩,
  ⟨7, some 31, .call ⟨.value (.func 386), #[(T 24), (T 27), (T 28), (T 29), (T 30)], #[26, 3, 3, 3, 292]⟩, none⟩] []
abbrev b375x5 : BC := .reg [⟨0, some 32, .move (T 10), none⟩,
  ⟨1, some 33, .move (T 11), none⟩,
  ⟨2, some 34, .binOp .sub 3 (T 32) (T 33) 3, none⟩,
  ⟨3, some 10, .assign (T 34), none⟩] []
abbrev b375x6 : BC := .reg [⟨0, some 35, .move (T 0), none⟩,
  ⟨1, some 36, .move (T 2), none⟩,
  ⟨2, some 37, .move (T 10), none⟩,
  ⟨3, some 38, .binOp .sub 3 (T 36) (T 37) 3, none⟩,
  ⟨4, some 39, .move (T 2), none⟩,
  ⟨5, some 40, .move (T 11), none⟩,
  ⟨6, some 41, .binOp .add 3 (T 39) (T 40) 3, none⟩,
  ⟨7, some 42, .move (T 10), none⟩,
  ⟨8, some 43, .binOp .sub 3 (T 41) (T 42) 3, none⟩,
  ⟨9, some 44, .move (T 10), none⟩,
  ⟨10, some 45, .move (T 4), none⟩,
  ⟨11, some 46, .call ⟨.value (.func 386), #[(T 35), (T 38), (T 43), (T 44), (T 45)], #[26, 3, 3, 3, 292]⟩, none⟩] []
abbrev b375x7 : BC := .reg [⟨0, some 47, .move (T 11), none⟩,
  ⟨1, some 48, .move (T 10), none⟩,
  ⟨2, some 49, .binOp .sub 3 (T 47) (T 48) 3, none⟩,
  ⟨3, some 11, .assign (T 49), none⟩] []
abbrev b375x8 : BC := .seq (.seq b375x2 (.cond (T 20) .skip (.exit 0))) (.block 1 (.seq b375x3 (.cond (T 23) (.seq b375x4 b375x5) (.seq b375x6 b375x7))))
abbrev b375x9 : BC := .loop b375x8
abbrev b375x10 : BC := .reg [⟨0, some 50, .move (T 0), none⟩,
  ⟨1, some 51, .move (T 2), none⟩,
  ⟨2, some 52, .move (T 10), none⟩,
  ⟨3, some 53, .binOp .sub 3 (T 51) (T 52) 3, none⟩,
  ⟨4, some 54, .move (T 2), none⟩,
  ⟨5, some 55, .move (T 10), none⟩,
  ⟨6, some 56, .move (T 4), none⟩,
  ⟨7, some 57, .call ⟨.value (.func 386), #[(T 50), (T 53), (T 54), (T 55), (T 56)], #[26, 3, 3, 3, 292]⟩, none⟩] []
abbrev b375 : BC := .seq b375x0 (.seq b375x1 (.seq (.block 0 b375x9) b375x10))
theorem c375 : Tryz.f375.body.bind (compile Tryz.f375.ntmps) = some b375 := by kernel_rfl
theorem ok375 : EntryOK Tryz.prog (375, ⟨58, b375, #[]⟩) := ⟨Tryz.f375, Tryz.func375, c375, Tryz.ntmps375, by kernel_rfl, Tryz.call375⟩
/-! scarfjoint/token.quoted$1 -/
abbrev b376x0 : BC := .reg [⟨0, some 2, .assign (.const (.bool false)), none⟩] []
abbrev b376x1 : BC := .reg [⟨0, some 3, .move (T 0), none⟩,
  ⟨1, some 4, .binOp .geq 5 (T 3) (.const (.int .u8 32)) 5, none⟩,
  ⟨2, some 5, .move (T 4), none⟩,
  ⟨3, some 6, .move (T 0), some (5, true)⟩,
  ⟨4, some 7, .binOp .leq 5 (T 6) (.const (.int .u8 126)) 5, some (5, true)⟩,
  ⟨5, some 8, .pick (T 5) (T 7) (.const (.bool false)), none⟩,
  ⟨6, some 9, .move (T 8), none⟩,
  ⟨7, some 10, .move (T 0), some (9, true)⟩,
  ⟨8, some 11, .binOp .neq 5 (T 10) (.const (.int .u8 34)) 5, some (9, true)⟩,
  ⟨9, some 12, .pick (T 9) (T 11) (.const (.bool false)), none⟩,
  ⟨10, some 2, .assign (T 12), none⟩] []
abbrev b376 : BC := .seq b376x0 (.seq b376x1 .ret)
theorem c376 : Tryz.f376.body.bind (compile Tryz.f376.ntmps) = some b376 := by kernel_rfl
theorem ok376 : EntryOK Tryz.prog (376, ⟨13, b376, #[.tmp 2]⟩) := ⟨Tryz.f376, Tryz.func376, c376, Tryz.ntmps376, by kernel_rfl, Tryz.call376⟩
/-! internal/stringslite.IndexByte -/
abbrev b377x0 : BC := .reg [⟨0, some 4, .assign (K 0), none⟩] []
abbrev b377x1 : BC := .reg [⟨0, some 5, .move (T 0), none⟩,
  ⟨1, some 6, .move (T 1), none⟩,
  ⟨2, some 7, .call ⟨.value (.func 387), #[(T 5), (T 6)], #[9, 5]⟩, none⟩,
  ⟨3, some 4, .assign (T 7), none⟩] []
abbrev b377 : BC := .seq b377x0 (.seq b377x1 .ret)
theorem c377 : Tryz.f377.body.bind (compile Tryz.f377.ntmps) = some b377 := by kernel_rfl
theorem ok377 : EntryOK Tryz.prog (377, ⟨8, b377, #[.tmp 4]⟩) := ⟨Tryz.f377, Tryz.func377, c377, Tryz.ntmps377, by kernel_rfl, Tryz.call377⟩
/-! slices.order2Ordered[int] -/
abbrev b380x0 : BC := .reg [⟨0, some 8, .assign (K 0), none⟩,
  ⟨1, some 9, .assign (K 0), none⟩] []
abbrev b380x1 : BC := .reg [⟨0, some 10, .move (T 0), none⟩,
  ⟨1, some 11, .move (T 2), none⟩,
  ⟨2, some 12, .indexAddr 26 (T 10) (T 11), none⟩,
  ⟨3, some 13, .load 3 (T 12), none⟩,
  ⟨4, some 14, .move (T 0), none⟩,
  ⟨5, some 15, .move (T 1), none⟩,
  ⟨6, some 16, .indexAddr 26 (T 14) (T 15), none⟩,
  ⟨7, some 17, .load 3 (T 16), none⟩,
  ⟨8, some 18, .call ⟨.value (.func 288), #[(T 13), (T 17)], #[3, 3]⟩, none⟩] [(0, 1), (0, 4), (1, 4), (2, 4), (3, 4), (0, 5), (1, 5), (2, 5), (3, 5), (4, 5), (0, 6), (1, 6), (2, 6), (3, 6), (0, 7), (1, 7), (2, 7), (3, 7)]
abbrev b380x2 : BC := .reg [⟨0, some 19, .move (T 3), none⟩,
  ⟨1, some 20, .nilCheck (T 19), none⟩,
  ⟨2, some 21, .load 3 (T 20), none⟩,
  ⟨3, some 22, .binOp .add 3 (T 21) (K 1) 3, none⟩,
  ⟨4, some 23, .nilCheck (T 19), none⟩,
  ⟨5, none, .store 3 (T 23) (T 22), none⟩] []
abbrev b380x3 : BC := .reg [⟨0, some 24, .move (T 2), none⟩,
  ⟨1, some 25, .move (T 1), none⟩,
  ⟨2, some 8, .assign (T 24), none⟩,
  ⟨3, some 9, .assign (T 25), none⟩] []
abbrev b380x4 : BC := .reg [⟨0, some 26, .move (T 1), none⟩,
  ⟨1, some 27, .move (T 2), none⟩,
  ⟨2, some 8, .assign (T 26), none⟩,
  ⟨3, some 9, .assign (T 27), none⟩] []
abbrev b380x5 : BC := .seq b380x0 (.seq (.seq b380x1 (.cond (T 18) (.seq b380x2 (.seq b380x3 .ret)) .skip)) (.seq b380x4 .ret))
abbrev b380 : BC := b380x5
theorem c380 : Tryz.f380.body.bind (compile Tryz.f380.ntmps) = some b380 := by kernel_rfl
theorem ok380 : EntryOK Tryz.prog (380, ⟨28, b380, #[.tmp 8, .tmp 9]⟩) := ⟨Tryz.f380, Tryz.func380, c380, Tryz.ntmps380, by kernel_rfl, Tryz.call380⟩
/-! slices.Index[[]string,string] -/
abbrev b385x0 : BC := .reg [⟨0, some 4, .assign (K 0), none⟩] []
abbrev b385x1 : BC := .reg [⟨0, some 6, .move (T 0), none⟩,
  ⟨1, some 7, .call ⟨.builtin .len, #[(T 6)], #[158]⟩, none⟩,
  ⟨2, some 8, .move (K 0), none⟩] []
abbrev b385x2 : BC := .reg [⟨0, some 9, .binOp .lss 3 (T 8) (T 7) 3, none⟩] []
abbrev b385x3 : BC := .reg [⟨0, some 10, .move (T 8), none⟩,
  ⟨1, some 5, .assign (T 10), none⟩] []
abbrev b385x4 : BC := .reg [⟨0, some 11, .move (T 1), none⟩,
  ⟨1, some 12, .move (T 0), none⟩,
  ⟨2, some 13, .move (T 5), none⟩,
  ⟨3, some 14, .indexAddr 158 (T 12) (T 13), none⟩,
  ⟨4, some 15, .load 9 (T 14), none⟩,
  ⟨5, some 16, .binOp .eql 9 (T 11) (T 15) 9, none⟩] []
abbrev b385x5 : BC := .reg [⟨0, some 17, .move (T 5), none⟩,
  ⟨1, some 4, .assign (T 17), none⟩] []
abbrev b385x6 : BC := .reg [⟨0, some 18, .binOp .add 3 (T 8) (K 1) 3, none⟩,
  ⟨1, some 8, .move (T 18), none⟩] []
abbrev b385x7 : BC := .seq (.cond (T 9) .skip (.exit 0)) (.seq (.block 1 (.seq b385x3 (.seq b385x4 (.cond (T 16) (.seq b385x5 .ret) .skip)))) b385x6)
abbrev b385x8 : BC := .loop (.seq b385x2 b385x7)
abbrev b385x9 : BC := .reg [⟨0, some 4, .assign (K (-1)), none⟩] []
abbrev b385 : BC := .seq b385x0 (.seq (.seq b385x1 (.block 0 b385x8)) (.seq b385x9 .ret))
theorem c385 : Tryz.f385.body.bind (compile Tryz.f385.ntmps) = some b385 := by kernel_rfl
theorem ok385 : EntryOK Tryz.prog (385, ⟨19, b385, #[.tmp 4]⟩) := ⟨Tryz.f385, Tryz.func385, c385, Tryz.ntmps385, by kernel_rfl, Tryz.call385⟩
end Go.Av
