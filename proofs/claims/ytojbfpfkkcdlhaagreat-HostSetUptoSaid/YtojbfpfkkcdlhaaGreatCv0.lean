/- Code of functions: what the compiled form of each is. -/
import Derived.Test.YtojbfpfkkcdlhaaGreatAv19
import Derived.KernelRfl
import Derived.Test.YtojbfpfkkcdlhaaGreatProg
namespace Go.Av
set_option linter.unusedVariables false
set_option linter.unusedSimpArgs false
open Go.Proofs
/-! scarfjoint/scarfjointlaw15.HostValid -/
abbrev b5x0 : BC := .reg [⟨0, some 2, .box 25 (T 0), none⟩,
  ⟨1, some 3, .box 55 (T 1), none⟩,
  ⟨2, some 4, .assign (.const (.bool false)), none⟩] []
abbrev b5x1 : BC := .reg [⟨0, some 13, .call ⟨.value (.func 30), #[], #[]⟩, none⟩,
  ⟨1, some 14, .unOp .not 4 (T 13), none⟩,
  ⟨2, some 15, .move (T 14), none⟩,
  ⟨3, some 16, .load 25 (T 2), some (15, false)⟩,
  ⟨4, some 17, .load 55 (T 3), some (15, false)⟩,
  ⟨5, some 18, .buildSlice 190 1 #[(0, (T 17))], some (15, false)⟩,
  ⟨6, some 19, .call ⟨.value (.func 31), #[(T 16), (T 18)], #[25, 190]⟩, some (15, false)⟩,
  ⟨7, some 20, .unOp .not 4 (T 19), some (15, false)⟩,
  ⟨8, some 21, .pick (T 15) (.const (.bool true)) (T 20), none⟩] []
abbrev b5x2 : BC := .reg [⟨0, some 22, .call ⟨.value (.func 30), #[], #[]⟩, none⟩,
  ⟨1, some 4, .assign (T 22), none⟩] []
abbrev b5x3 : BC := .reg [⟨0, some 24, .load 25 (T 2), none⟩,
  ⟨1, some 25, .load 55 (T 3), none⟩,
  ⟨2, some 26, .call ⟨.value (.func 33), #[(T 25)], #[55]⟩, none⟩,
  ⟨3, some 27, .call ⟨.value (.func 32), #[(T 24), (T 26)], #[25, 55]⟩, none⟩,
  ⟨4, some 23, .move (T 27), none⟩,
  ⟨5, some 28, .extract (T 23) 0, none⟩,
  ⟨6, some 29, .extract (T 23) 1, none⟩,
  ⟨7, some 5, .assign (T 28), none⟩,
  ⟨8, some 6, .assign (T 29), none⟩] [(0, 1), (0, 2), (5, 6), (6, 7)]
abbrev b5x4 : BC := .reg [⟨0, some 31, .load 25 (T 2), none⟩,
  ⟨1, some 32, .load 55 (T 3), none⟩,
  ⟨2, some 33, .call ⟨.value (.func 34), #[(T 31), (T 32)], #[25, 55]⟩, none⟩,
  ⟨3, some 30, .move (T 33), none⟩,
  ⟨4, some 34, .extract (T 30) 0, none⟩,
  ⟨5, some 35, .extract (T 30) 1, none⟩,
  ⟨6, some 7, .assign (T 34), none⟩,
  ⟨7, some 8, .assign (T 35), none⟩] []
abbrev b5x5 : BC := .reg [⟨0, some 37, .load 25 (T 2), none⟩,
  ⟨1, some 38, .load 55 (T 3), none⟩,
  ⟨2, some 39, .call ⟨.value (.func 33), #[(T 38)], #[55]⟩, none⟩,
  ⟨3, some 40, .call ⟨.value (.func 35), #[(T 37), (T 39)], #[25, 55]⟩, none⟩,
  ⟨4, some 36, .move (T 40), none⟩,
  ⟨5, some 41, .extract (T 36) 0, none⟩,
  ⟨6, some 42, .extract (T 36) 1, none⟩,
  ⟨7, some 9, .assign (T 41), none⟩,
  ⟨8, some 10, .assign (T 42), none⟩] [(0, 1), (0, 2), (5, 6), (6, 7)]
abbrev b5x6 : BC := .reg [⟨0, some 44, .load 25 (T 2), none⟩,
  ⟨1, some 45, .load 55 (T 3), none⟩,
  ⟨2, some 46, .call ⟨.value (.func 36), #[(T 44), (T 45)], #[25, 55]⟩, none⟩,
  ⟨3, some 43, .move (T 46), none⟩,
  ⟨4, some 47, .extract (T 43) 0, none⟩,
  ⟨5, some 48, .extract (T 43) 1, none⟩,
  ⟨6, some 11, .assign (T 47), none⟩,
  ⟨7, some 12, .assign (T 48), none⟩] []
abbrev b5x7 : BC := .reg [⟨0, some 49, .move (T 5), none⟩,
  ⟨1, some 50, .move (T 7), none⟩,
  ⟨2, some 51, .binOp .eql 3 (T 49) (T 50) 3, none⟩,
  ⟨3, some 52, .move (T 51), none⟩,
  ⟨4, some 53, .move (T 6), some (52, true)⟩,
  ⟨5, some 54, .move (T 8), some (52, true)⟩,
  ⟨6, some 55, .binOp .eql 38 (T 53) (T 54) 38, some (52, true)⟩,
  ⟨7, some 56, .pick (T 52) (T 55) (.const (.bool false)), none⟩,
  ⟨8, some 57, .move (T 56), none⟩,
  ⟨9, some 58, .move (T 9), some (57, true)⟩,
  ⟨10, some 59, .move (T 11), some (57, true)⟩,
  ⟨11, some 60, .call ⟨.value (.func 37), #[(T 58), (T 59)], #[60, 60]⟩, some (57, true)⟩,
  ⟨12, some 61, .pick (T 57) (T 60) (.const (.bool false)), none⟩,
  ⟨13, some 62, .move (T 61), none⟩,
  ⟨14, some 63, .move (T 10), some (62, true)⟩,
  ⟨15, some 64, .move (T 12), some (62, true)⟩,
  ⟨16, some 65, .binOp .eql 38 (T 63) (T 64) 38, some (62, true)⟩,
  ⟨17, some 66, .pick (T 62) (T 65) (.const (.bool false)), none⟩,
  ⟨18, some 4, .assign (T 66), none⟩] []
abbrev b5x8 : BC := .seq (.seq b5x1 (.cond (T 21) (.seq b5x2 .ret) .skip)) (.seq b5x3 (.seq b5x4 (.seq b5x5 (.seq b5x6 (.seq b5x7 .ret)))))
abbrev b5 : BC := .seq b5x0 b5x8
theorem c5 : Tryz.f5.body.bind (compile Tryz.f5.ntmps) = some b5 := by kernel_rfl
theorem ok5 : EntryOK Tryz.prog (5, ⟨67, b5, #[.tmp 4]⟩) := ⟨Tryz.f5, Tryz.func5, c5, Tryz.ntmps5, by kernel_rfl, Tryz.call5⟩
/-! scarfjoint/scarfjointref04.Few -/
abbrev b18x0 : BC := .reg [⟨0, some 1, .box 25 (T 0), none⟩,
  ⟨1, some 2, .assign (.const (.bool false)), none⟩] []
abbrev b18x1 : BC := .reg [⟨0, some 9, .fieldAddr 25 (T 1) 0, none⟩,
  ⟨1, some 10, .load 22 (T 9), none⟩,
  ⟨2, some 11, .call ⟨.builtin .len, #[(T 10)], #[22]⟩, none⟩,
  ⟨3, some 12, .binOp .gtr 3 (T 11) (K 20) 3, none⟩,
  ⟨4, some 13, .move (T 12), none⟩,
  ⟨5, some 14, .fieldAddr 25 (T 1) 1, some (13, false)⟩,
  ⟨6, some 15, .load 23 (T 14), some (13, false)⟩,
  ⟨7, some 16, .call ⟨.builtin .len, #[(T 15)], #[23]⟩, some (13, false)⟩,
  ⟨8, some 17, .binOp .gtr 3 (T 16) (K 30) 3, some (13, false)⟩,
  ⟨9, some 18, .pick (T 13) (.const (.bool true)) (T 17), none⟩] []
abbrev b18x2 : BC := .reg [⟨0, some 2, .assign (.const (.bool false)), none⟩] []
abbrev b18x3 : BC := .reg [⟨0, some 3, .assign (K 0), none⟩] []
abbrev b18x4 : BC := .reg [⟨0, some 4, .assign (K 0), none⟩] []
abbrev b18x5 : BC := .reg [⟨0, some 19, .move (T 4), none⟩,
  ⟨1, some 20, .fieldAddr 25 (T 1) 0, none⟩,
  ⟨2, some 21, .load 22 (T 20), none⟩,
  ⟨3, some 22, .call ⟨.builtin .len, #[(T 21)], #[22]⟩, none⟩,
  ⟨4, some 23, .binOp .lss 3 (T 19) (T 22) 3, none⟩] []
abbrev b18x6 : BC := .reg [⟨0, some 26, .move (T 3), none⟩,
  ⟨1, some 27, .fieldAddr 25 (T 1) 0, none⟩,
  ⟨2, some 28, .load 22 (T 27), none⟩,
  ⟨3, some 29, .move (T 4), none⟩,
  ⟨4, some 30, .indexAddr 22 (T 28) (T 29), none⟩,
  ⟨5, some 31, .fieldAddr 157 (T 30) 3, none⟩,
  ⟨6, some 32, .load 155 (T 31), none⟩,
  ⟨7, some 33, .call ⟨.builtin .len, #[(T 32)], #[155]⟩, none⟩,
  ⟨8, some 34, .binOp .add 3 (T 26) (T 33) 3, none⟩,
  ⟨9, some 3, .assign (T 34), none⟩] []
abbrev b18x7 : BC := .reg [⟨0, some 35, .move (T 3), none⟩,
  ⟨1, some 36, .binOp .gtr 3 (T 35) (K 30) 3, none⟩,
  ⟨2, some 37, .move (T 36), none⟩,
  ⟨3, some 38, .fieldAddr 25 (T 1) 0, some (37, false)⟩,
  ⟨4, some 39, .load 22 (T 38), some (37, false)⟩,
  ⟨5, some 40, .move (T 4), some (37, false)⟩,
  ⟨6, some 41, .indexAddr 22 (T 39) (T 40), some (37, false)⟩,
  ⟨7, some 42, .fieldAddr 157 (T 41) 0, some (37, false)⟩,
  ⟨8, some 43, .load 9 (T 42), some (37, false)⟩,
  ⟨9, some 44, .call ⟨.builtin .len, #[(T 43)], #[9]⟩, some (37, false)⟩,
  ⟨10, some 45, .binOp .gtr 3 (T 44) (K 40) 3, some (37, false)⟩,
  ⟨11, some 46, .pick (T 37) (.const (.bool true)) (T 45), none⟩] []
abbrev b18x8 : BC := .reg [⟨0, some 2, .assign (.const (.bool false)), none⟩] []
abbrev b18x9 : BC := .reg [⟨0, some 5, .assign (K 0), none⟩] []
abbrev b18x10 : BC := .reg [⟨0, some 47, .move (T 5), none⟩,
  ⟨1, some 48, .fieldAddr 25 (T 1) 0, none⟩,
  ⟨2, some 49, .load 22 (T 48), none⟩,
  ⟨3, some 50, .move (T 4), none⟩,
  ⟨4, some 51, .indexAddr 22 (T 49) (T 50), none⟩,
  ⟨5, some 52, .fieldAddr 157 (T 51) 3, none⟩,
  ⟨6, some 53, .load 155 (T 52), none⟩,
  ⟨7, some 54, .call ⟨.builtin .len, #[(T 53)], #[155]⟩, none⟩,
  ⟨8, some 55, .binOp .lss 3 (T 47) (T 54) 3, none⟩] []
abbrev b18x11 : BC := .reg [⟨0, some 58, .fieldAddr 25 (T 1) 0, none⟩,
  ⟨1, some 59, .load 22 (T 58), none⟩,
  ⟨2, some 60, .move (T 4), none⟩,
  ⟨3, some 61, .indexAddr 22 (T 59) (T 60), none⟩,
  ⟨4, some 62, .fieldAddr 157 (T 61) 3, none⟩,
  ⟨5, some 63, .load 155 (T 62), none⟩,
  ⟨6, some 64, .move (T 5), none⟩,
  ⟨7, some 65, .indexAddr 155 (T 63) (T 64), none⟩,
  ⟨8, some 66, .load 160 (T 65), none⟩,
  ⟨9, some 6, .alloc 160, none⟩,
  ⟨10, none, .store 160 (T 6) (T 66), none⟩] []
abbrev b18x12 : BC := .reg [⟨0, some 67, .fieldAddr 160 (T 6) 0, none⟩,
  ⟨1, some 68, .load 9 (T 67), none⟩,
  ⟨2, some 69, .call ⟨.builtin .len, #[(T 68)], #[9]⟩, none⟩,
  ⟨3, some 70, .binOp .gtr 3 (T 69) (K 40) 3, none⟩,
  ⟨4, some 71, .move (T 70), none⟩,
  ⟨5, some 72, .fieldAddr 160 (T 6) 3, some (71, false)⟩,
  ⟨6, some 73, .load 158 (T 72), some (71, false)⟩,
  ⟨7, some 74, .call ⟨.builtin .len, #[(T 73)], #[158]⟩, some (71, false)⟩,
  ⟨8, some 75, .binOp .gtr 3 (T 74) (K 25) 3, some (71, false)⟩,
  ⟨9, some 76, .pick (T 71) (.const (.bool true)) (T 75), none⟩] []
abbrev b18x13 : BC := .reg [⟨0, some 2, .assign (.const (.bool false)), none⟩] []
abbrev b18x14 : BC := .reg [⟨0, some 7, .assign (K 0), none⟩] []
abbrev b18x15 : BC := .reg [⟨0, some 77, .move (T 7), none⟩,
  ⟨1, some 78, .fieldAddr 160 (T 6) 3, none⟩,
  ⟨2, some 79, .load 158 (T 78), none⟩,
  ⟨3, some 80, .call ⟨.builtin .len, #[(T 79)], #[158]⟩, none⟩,
  ⟨4, some 81, .binOp .lss 3 (T 77) (T 80) 3, none⟩] []
abbrev b18x16 : BC := .reg [⟨0, some 84, .fieldAddr 160 (T 6) 3, none⟩,
  ⟨1, some 85, .load 158 (T 84), none⟩,
  ⟨2, some 86, .move (T 7), none⟩,
  ⟨3, some 87, .indexAddr 158 (T 85) (T 86), none⟩,
  ⟨4, some 88, .load 9 (T 87), none⟩,
  ⟨5, some 89, .call ⟨.builtin .len, #[(T 88)], #[9]⟩, none⟩,
  ⟨6, some 90, .binOp .gtr 3 (T 89) (K 40) 3, none⟩] []
abbrev b18x17 : BC := .reg [⟨0, some 2, .assign (.const (.bool false)), none⟩] []
abbrev b18x18 : BC := .reg [⟨0, some 82, .move (T 7), none⟩,
  ⟨1, some 83, .binOp .add 3 (T 82) (K 1) 3, none⟩,
  ⟨2, some 7, .assign (T 83), none⟩] []
abbrev b18x19 : BC := .seq (.seq b18x15 (.cond (T 81) .skip (.exit 4))) (.seq (.block 5 (.seq b18x16 (.cond (T 90) (.seq b18x17 .ret) .skip))) b18x18)
abbrev b18x20 : BC := .loop b18x19
abbrev b18x21 : BC := .seq b18x11 (.seq (.seq b18x12 (.cond (T 76) (.seq b18x13 .ret) .skip)) (.seq b18x14 (.block 4 b18x20)))
abbrev b18x22 : BC := .reg [⟨0, some 56, .move (T 5), none⟩,
  ⟨1, some 57, .binOp .add 3 (T 56) (K 1) 3, none⟩,
  ⟨2, some 5, .assign (T 57), none⟩] []
abbrev b18x23 : BC := .loop (.seq (.seq b18x10 (.cond (T 55) .skip (.exit 2))) (.seq (.block 3 b18x21) b18x22))
abbrev b18x24 : BC := .block 1 (.seq b18x6 (.seq (.seq b18x7 (.cond (T 46) (.seq b18x8 .ret) .skip)) (.seq b18x9 (.block 2 b18x23))))
abbrev b18x25 : BC := .reg [⟨0, some 24, .move (T 4), none⟩,
  ⟨1, some 25, .binOp .add 3 (T 24) (K 1) 3, none⟩,
  ⟨2, some 4, .assign (T 25), none⟩] []
abbrev b18x26 : BC := .loop (.seq (.seq b18x5 (.cond (T 23) .skip (.exit 0))) (.seq b18x24 b18x25))
abbrev b18x27 : BC := .reg [⟨0, some 8, .assign (K 0), none⟩] []
abbrev b18x28 : BC := .reg [⟨0, some 91, .move (T 8), none⟩,
  ⟨1, some 92, .fieldAddr 25 (T 1) 1, none⟩,
  ⟨2, some 93, .load 23 (T 92), none⟩,
  ⟨3, some 94, .call ⟨.builtin .len, #[(T 93)], #[23]⟩, none⟩,
  ⟨4, some 95, .binOp .lss 3 (T 91) (T 94) 3, none⟩] []
abbrev b18x29 : BC := .reg [⟨0, some 98, .fieldAddr 25 (T 1) 1, none⟩,
  ⟨1, some 99, .load 23 (T 98), none⟩,
  ⟨2, some 100, .move (T 8), none⟩,
  ⟨3, some 101, .indexAddr 23 (T 99) (T 100), none⟩,
  ⟨4, some 102, .fieldAddr 81 (T 101) 0, none⟩,
  ⟨5, some 103, .load 9 (T 102), none⟩,
  ⟨6, some 104, .call ⟨.builtin .len, #[(T 103)], #[9]⟩, none⟩,
  ⟨7, some 105, .binOp .gtr 3 (T 104) (K 40) 3, none⟩] []
abbrev b18x30 : BC := .reg [⟨0, some 2, .assign (.const (.bool false)), none⟩] []
abbrev b18x31 : BC := .reg [⟨0, some 96, .move (T 8), none⟩,
  ⟨1, some 97, .binOp .add 3 (T 96) (K 1) 3, none⟩,
  ⟨2, some 8, .assign (T 97), none⟩] []
abbrev b18x32 : BC := .seq (.seq b18x28 (.cond (T 95) .skip (.exit 6))) (.seq (.block 7 (.seq b18x29 (.cond (T 105) (.seq b18x30 .ret) .skip))) b18x31)
abbrev b18x33 : BC := .loop b18x32
abbrev b18x34 : BC := .reg [⟨0, some 2, .assign (.const (.bool true)), none⟩] []
abbrev b18x35 : BC := .seq b18x3 (.seq (.seq b18x4 (.block 0 b18x26)) (.seq (.seq b18x27 (.block 6 b18x33)) (.seq b18x34 .ret)))
abbrev b18 : BC := .seq b18x0 (.seq (.seq b18x1 (.cond (T 18) (.seq b18x2 .ret) .skip)) b18x35)
theorem c18 : Tryz.f18.body.bind (compile Tryz.f18.ntmps) = some b18 := by kernel_rfl
theorem ok18 : EntryOK Tryz.prog (18, ⟨106, b18, #[.tmp 2]⟩) := ⟨Tryz.f18, Tryz.func18, c18, Tryz.ntmps18, by kernel_rfl, Tryz.call18⟩
/-! scarfjoint/scarfjointlaw15.small -/
abbrev b31x0 : BC := .reg [⟨0, some 2, .box 25 (T 0), none⟩,
  ⟨1, some 4, .assign (.const (.bool false)), none⟩] []
abbrev b31x1 : BC := .reg [⟨0, some 5, .load 25 (T 2), none⟩,
  ⟨1, some 6, .call ⟨.value (.func 18), #[(T 5)], #[25]⟩, none⟩,
  ⟨2, some 7, .move (T 6), none⟩,
  ⟨3, some 8, .move (T 1), some (7, true)⟩,
  ⟨4, some 9, .call ⟨.value (.func 112), #[(T 8), (.func 113)], #[190, 90]⟩, some (7, true)⟩,
  ⟨5, some 10, .unOp .not 4 (T 9), some (7, true)⟩,
  ⟨6, some 11, .pick (T 7) (T 10) (.const (.bool false)), none⟩,
  ⟨7, some 4, .assign (T 11), none⟩] []
abbrev b31 : BC := .seq b31x0 (.seq b31x1 .ret)
theorem c31 : Tryz.f31.body.bind (compile Tryz.f31.ntmps) = some b31 := by kernel_rfl
theorem ok31 : EntryOK Tryz.prog (31, ⟨12, b31, #[.tmp 4]⟩) := ⟨Tryz.f31, Tryz.func31, c31, Tryz.ntmps31, by kernel_rfl, Tryz.call31⟩
/-! scarfjoint/scarfjointref15.Valid -/
abbrev b34x0 : BC := .reg [⟨0, some 2, .box 25 (T 0), none⟩,
  ⟨1, some 3, .box 55 (T 1), none⟩,
  ⟨2, some 4, .assign (K 0), none⟩,
  ⟨3, some 5, .assign (K 0), none⟩] []
abbrev b34x1 : BC := .reg [⟨0, some 14, .load 25 (T 2), none⟩,
  ⟨1, some 15, .call ⟨.value (.func 99), #[(T 14)], #[25]⟩, none⟩,
  ⟨2, some 13, .move (T 15), none⟩,
  ⟨3, some 16, .extract (T 13) 0, none⟩,
  ⟨4, some 17, .extract (T 13) 1, none⟩,
  ⟨5, some 6, .assign (T 16), none⟩,
  ⟨6, some 7, .assign (T 17), none⟩] []
abbrev b34x2 : BC := .reg [⟨0, some 18, .move (T 7), none⟩,
  ⟨1, some 19, .binOp .neq 38 (T 18) (K 0) 38, none⟩] []
abbrev b34x3 : BC := .reg [⟨0, some 20, .move (T 7), none⟩,
  ⟨1, some 4, .assign (K (-1)), none⟩,
  ⟨2, some 5, .assign (T 20), none⟩] []
abbrev b34x4 : BC := .reg [⟨0, some 21, .fieldAddr 55 (T 3) 0, none⟩,
  ⟨1, some 22, .load 29 (T 21), none⟩,
  ⟨2, some 23, .call ⟨.value (.func 100), #[(T 22)], #[29]⟩, none⟩,
  ⟨3, some 8, .assign (T 23), none⟩] []
abbrev b34x5 : BC := .reg [⟨0, some 24, .move (T 8), none⟩,
  ⟨1, some 25, .binOp .neq 38 (T 24) (K 0) 38, none⟩] []
abbrev b34x6 : BC := .reg [⟨0, some 26, .move (T 8), none⟩,
  ⟨1, some 4, .assign (K (-1)), none⟩,
  ⟨2, some 5, .assign (T 26), none⟩] []
abbrev b34x7 : BC := .reg [⟨0, some 27, .fieldAddr 55 (T 3) 1, none⟩,
  ⟨1, some 28, .load 53 (T 27), none⟩,
  ⟨2, some 29, .call ⟨.builtin .len, #[(T 28)], #[53]⟩, none⟩,
  ⟨3, some 30, .fieldAddr 55 (T 3) 0, none⟩,
  ⟨4, some 31, .fieldAddr 29 (T 30) 0, none⟩,
  ⟨5, some 32, .load 26 (T 31), none⟩,
  ⟨6, some 33, .call ⟨.builtin .len, #[(T 32)], #[26]⟩, none⟩,
  ⟨7, some 34, .binOp .neq 3 (T 29) (T 33) 3, none⟩] []
abbrev b34x8 : BC := .reg [⟨0, some 4, .assign (K (-1)), none⟩,
  ⟨1, some 5, .assign (K 20), none⟩] []
abbrev b34x9 : BC := .reg [⟨0, some 9, .assign (K 0), none⟩] []
abbrev b34x10 : BC := .reg [⟨0, some 35, .move (T 9), none⟩,
  ⟨1, some 36, .fieldAddr 55 (T 3) 0, none⟩,
  ⟨2, some 37, .fieldAddr 29 (T 36) 0, none⟩,
  ⟨3, some 38, .load 26 (T 37), none⟩,
  ⟨4, some 39, .call ⟨.builtin .len, #[(T 38)], #[26]⟩, none⟩,
  ⟨5, some 40, .binOp .lss 3 (T 35) (T 39) 3, none⟩] []
abbrev b34x11 : BC := .reg [⟨0, some 43, .load 25 (T 2), none⟩,
  ⟨1, some 44, .fieldAddr 55 (T 3) 0, none⟩,
  ⟨2, some 45, .fieldAddr 29 (T 44) 0, none⟩,
  ⟨3, some 46, .load 26 (T 45), none⟩,
  ⟨4, some 47, .move (T 9), none⟩,
  ⟨5, some 48, .indexAddr 26 (T 46) (T 47), none⟩,
  ⟨6, some 49, .load 3 (T 48), none⟩,
  ⟨7, some 50, .fieldAddr 55 (T 3) 1, none⟩,
  ⟨8, some 51, .load 53 (T 50), none⟩,
  ⟨9, some 52, .move (T 9), none⟩,
  ⟨10, some 53, .indexAddr 53 (T 51) (T 52), none⟩,
  ⟨11, some 54, .load 26 (T 53), none⟩,
  ⟨12, some 55, .call ⟨.value (.func 116), #[(T 43), (T 49), (T 54)], #[25, 3, 26]⟩, none⟩,
  ⟨13, some 10, .assign (T 55), none⟩] [(0, 1), (0, 2), (0, 3), (0, 4), (1, 4), (2, 4), (3, 4), (0, 5), (0, 6), (0, 7), (1, 7), (2, 7), (3, 7), (4, 7), (5, 7), (6, 7), (0, 8), (1, 8), (2, 8), (3, 8), (4, 8), (5, 8), (6, 8), (0, 9), (1, 9), (2, 9), (3, 9), (4, 9), (5, 9), (6, 9), (7, 9), (8, 9), (0, 10), (1, 10), (2, 10), (3, 10), (4, 10), (5, 10), (6, 10), (0, 11), (1, 11), (2, 11), (3, 11), (4, 11), (5, 11), (6, 11)]
abbrev b34x12 : BC := .reg [⟨0, some 56, .move (T 10), none⟩,
  ⟨1, some 57, .binOp .neq 38 (T 56) (K 0) 38, none⟩] []
abbrev b34x13 : BC := .reg [⟨0, some 58, .move (T 9), none⟩,
  ⟨1, some 59, .move (T 10), none⟩,
  ⟨2, some 4, .assign (T 58), none⟩,
  ⟨3, some 5, .assign (T 59), none⟩] []
abbrev b34x14 : BC := .reg [⟨0, some 41, .move (T 9), none⟩,
  ⟨1, some 42, .binOp .add 3 (T 41) (K 1) 3, none⟩,
  ⟨2, some 9, .assign (T 42), none⟩] []
abbrev b34x15 : BC := .seq (.seq b34x10 (.cond (T 40) .skip (.exit 0))) (.seq (.block 1 (.seq b34x11 (.seq b34x12 (.cond (T 57) (.seq b34x13 .ret) .skip)))) b34x14)
abbrev b34x16 : BC := .loop b34x15
abbrev b34x17 : BC := .reg [⟨0, some 11, .assign (K 0), none⟩] []
abbrev b34x18 : BC := .reg [⟨0, some 60, .move (T 11), none⟩,
  ⟨1, some 61, .fieldAddr 55 (T 3) 0, none⟩,
  ⟨2, some 62, .fieldAddr 29 (T 61) 1, none⟩,
  ⟨3, some 63, .load 27 (T 62), none⟩,
  ⟨4, some 64, .call ⟨.builtin .len, #[(T 63)], #[27]⟩, none⟩,
  ⟨5, some 65, .binOp .lss 3 (T 60) (T 64) 3, none⟩] []
abbrev b34x19 : BC := .reg [⟨0, some 68, .fieldAddr 55 (T 3) 0, none⟩,
  ⟨1, some 69, .fieldAddr 29 (T 68) 1, none⟩,
  ⟨2, some 70, .load 27 (T 69), none⟩,
  ⟨3, some 71, .move (T 11), none⟩,
  ⟨4, some 72, .indexAddr 27 (T 70) (T 71), none⟩,
  ⟨5, some 73, .load 84 (T 72), none⟩,
  ⟨6, some 12, .alloc 84, none⟩,
  ⟨7, none, .store 84 (T 12) (T 73), none⟩] []
abbrev b34x20 : BC := .reg [⟨0, some 74, .fieldAddr 84 (T 12) 0, none⟩,
  ⟨1, some 75, .load 3 (T 74), none⟩,
  ⟨2, some 76, .fieldAddr 25 (T 2) 1, none⟩,
  ⟨3, some 77, .load 23 (T 76), none⟩,
  ⟨4, some 78, .call ⟨.builtin .len, #[(T 77)], #[23]⟩, none⟩,
  ⟨5, some 79, .binOp .geq 3 (T 75) (T 78) 3, none⟩] []
abbrev b34x21 : BC := .reg [⟨0, some 80, .move (T 11), none⟩,
  ⟨1, some 4, .assign (T 80), none⟩,
  ⟨2, some 5, .assign (K 6), none⟩] []
abbrev b34x22 : BC := .reg [⟨0, some 81, .load 25 (T 2), none⟩,
  ⟨1, some 82, .fieldAddr 84 (T 12) 0, none⟩,
  ⟨2, some 83, .load 3 (T 82), none⟩,
  ⟨3, some 84, .fieldAddr 55 (T 3) 0, none⟩,
  ⟨4, some 85, .fieldAddr 29 (T 84) 0, none⟩,
  ⟨5, some 86, .load 26 (T 85), none⟩,
  ⟨6, some 87, .fieldAddr 84 (T 12) 1, none⟩,
  ⟨7, some 88, .load 3 (T 87), none⟩,
  ⟨8, some 89, .indexAddr 26 (T 86) (T 88), none⟩,
  ⟨9, some 90, .load 3 (T 89), none⟩,
  ⟨10, some 91, .fieldAddr 55 (T 3) 0, none⟩,
  ⟨11, some 92, .fieldAddr 29 (T 91) 0, none⟩,
  ⟨12, some 93, .load 26 (T 92), none⟩,
  ⟨13, some 94, .fieldAddr 84 (T 12) 2, none⟩,
  ⟨14, some 95, .load 3 (T 94), none⟩,
  ⟨15, some 96, .indexAddr 26 (T 93) (T 95), none⟩,
  ⟨16, some 97, .load 3 (T 96), none⟩,
  ⟨17, some 98, .call ⟨.value (.func 117), #[(T 81), (T 83), (T 90), (T 97)], #[25, 3, 3, 3]⟩, none⟩,
  ⟨18, some 99, .unOp .not 4 (T 98), none⟩] [(0, 1), (0, 2), (0, 3), (1, 3), (2, 3), (0, 4), (1, 4), (2, 4), (0, 5), (1, 5), (2, 5), (0, 6), (1, 6), (2, 6), (3, 6), (4, 6), (5, 6), (0, 7), (1, 7), (2, 7), (3, 7), (4, 7), (5, 7), (0, 8), (1, 8), (2, 8), (0, 9), (1, 9), (2, 9), (0, 10), (1, 10), (2, 10), (3, 10), (4, 10), (5, 10), (6, 10), (7, 10), (8, 10), (9, 10), (0, 11), (1, 11), (2, 11), (3, 11), (4, 11), (5, 11), (6, 11), (7, 11), (8, 11), (9, 11), (0, 12), (1, 12), (2, 12), (3, 12), (4, 12), (5, 12), (6, 12), (7, 12), (8, 12), (9, 12), (0, 13), (1, 13), (2, 13), (3, 13), (4, 13), (5, 13), (6, 13), (7, 13), (8, 13), (9, 13), (10, 13), (11, 13), (12, 13), (0, 14), (1, 14), (2, 14), (3, 14), (4, 14), (5, 14), (6, 14), (7, 14), (8, 14), (9, 14), (10, 14), (11, 14), (12, 14), (0, 15), (1, 15), (2, 15), (3, 15), (4, 15), (5, 15), (6, 15), (7, 15), (8, 15), (9, 15), (0, 16), (1, 16), (2, 16), (3, 16), (4, 16), (5, 16), (6, 16), (7, 16), (8, 16), (9, 16)]
abbrev b34x23 : BC := .reg [⟨0, some 100, .move (T 11), none⟩,
  ⟨1, some 4, .assign (T 100), none⟩,
  ⟨2, some 5, .assign (K 13), none⟩] []
abbrev b34x24 : BC := .seq (.seq b34x20 (.cond (T 79) (.seq b34x21 .ret) .skip)) (.seq b34x22 (.cond (T 99) (.seq b34x23 .ret) .skip))
abbrev b34x25 : BC := .reg [⟨0, some 66, .move (T 11), none⟩,
  ⟨1, some 67, .binOp .add 3 (T 66) (K 1) 3, none⟩,
  ⟨2, some 11, .assign (T 67), none⟩] []
abbrev b34x26 : BC := .loop (.seq (.seq b34x18 (.cond (T 65) .skip (.exit 2))) (.seq (.block 3 (.seq b34x19 b34x24)) b34x25))
abbrev b34x27 : BC := .reg [⟨0, some 4, .assign (K (-1)), none⟩,
  ⟨1, some 5, .assign (K 0), none⟩] []
abbrev b34x28 : BC := .seq (.seq b34x7 (.cond (T 34) (.seq b34x8 .ret) .skip)) (.seq (.seq b34x9 (.block 0 b34x16)) (.seq (.seq b34x17 (.block 2 b34x26)) (.seq b34x27 .ret)))
abbrev b34x29 : BC := .seq (.seq b34x1 (.seq b34x2 (.cond (T 19) (.seq b34x3 .ret) .skip))) (.seq (.seq b34x4 (.seq b34x5 (.cond (T 25) (.seq b34x6 .ret) .skip))) b34x28)
abbrev b34 : BC := .seq b34x0 b34x29
theorem c34 : Tryz.f34.body.bind (compile Tryz.f34.ntmps) = some b34 := by kernel_rfl
theorem ok34 : EntryOK Tryz.prog (34, ⟨101, b34, #[.tmp 4, .tmp 5]⟩) := ⟨Tryz.f34, Tryz.func34, c34, Tryz.ntmps34, by kernel_rfl, Tryz.call34⟩
/-! scarfjoint/scarfjointref15.Excesses -/
abbrev b36x0 : BC := .reg [⟨0, some 2, .box 25 (T 0), none⟩,
  ⟨1, some 3, .box 55 (T 1), none⟩,
  ⟨2, some 4, .assign (.const (.slice none 0 0)), none⟩,
  ⟨3, some 5, .assign (K 0), none⟩] []
abbrev b36x1 : BC := .reg [⟨0, some 18, .load 25 (T 2), none⟩,
  ⟨1, some 19, .load 55 (T 3), none⟩,
  ⟨2, some 20, .call ⟨.value (.func 34), #[(T 18), (T 19)], #[25, 55]⟩, none⟩,
  ⟨3, some 17, .move (T 20), none⟩,
  ⟨4, some 21, .extract (T 17) 0, none⟩,
  ⟨5, some 22, .extract (T 17) 1, none⟩,
  ⟨6, some 6, .assign (T 21), none⟩,
  ⟨7, some 7, .assign (T 22), none⟩] []
abbrev b36x2 : BC := .reg [⟨0, some 23, .move (T 7), none⟩,
  ⟨1, some 24, .binOp .neq 38 (T 23) (K 0) 38, none⟩] []
abbrev b36x3 : BC := .reg [⟨0, some 25, .move (T 7), none⟩,
  ⟨1, some 4, .assign (.const (.slice none 0 0)), none⟩,
  ⟨2, some 5, .assign (T 25), none⟩] []
abbrev b36x4 : BC := .reg [⟨0, some 8, .assign (.const (.slice none 0 0)), none⟩] []
abbrev b36x5 : BC := .reg [⟨0, some 9, .assign (K 0), none⟩] []
abbrev b36x6 : BC := .reg [⟨0, some 26, .move (T 9), none⟩,
  ⟨1, some 27, .fieldAddr 25 (T 2) 1, none⟩,
  ⟨2, some 28, .load 23 (T 27), none⟩,
  ⟨3, some 29, .call ⟨.builtin .len, #[(T 28)], #[23]⟩, none⟩,
  ⟨4, some 30, .binOp .lss 3 (T 26) (T 29) 3, none⟩] []
abbrev b36x7 : BC := .reg [⟨0, some 33, .fieldAddr 25 (T 2) 1, none⟩,
  ⟨1, some 34, .load 23 (T 33), none⟩,
  ⟨2, some 35, .move (T 9), none⟩,
  ⟨3, some 36, .indexAddr 23 (T 34) (T 35), none⟩,
  ⟨4, some 37, .load 81 (T 36), none⟩,
  ⟨5, some 10, .alloc 81, none⟩,
  ⟨6, none, .store 81 (T 10) (T 37), none⟩] []
abbrev b36x8 : BC := .reg [⟨0, some 11, .assign (K 0), none⟩] []
abbrev b36x9 : BC := .reg [⟨0, some 38, .move (T 11), none⟩,
  ⟨1, some 39, .binOp .lss 3 (T 38) (K 2) 3, none⟩] []
abbrev b36x10 : BC := .reg [⟨0, some 42, .fieldAddr 81 (T 10) 1, none⟩,
  ⟨1, some 43, .load 3 (T 42), none⟩,
  ⟨2, some 44, .fieldAddr 81 (T 10) 3, none⟩,
  ⟨3, some 45, .load 3 (T 44), none⟩,
  ⟨4, some 46, .fieldAddr 81 (T 10) 4, none⟩,
  ⟨5, some 47, .load 3 (T 46), none⟩,
  ⟨6, some 12, .assign (T 43), none⟩,
  ⟨7, some 13, .assign (T 45), none⟩,
  ⟨8, some 14, .assign (T 47), none⟩] [(0, 2), (1, 2), (0, 3), (1, 3), (0, 4), (1, 4), (2, 4), (3, 4), (0, 5), (1, 5), (2, 5), (3, 5), (2, 6), (3, 6), (4, 6), (5, 6), (4, 7), (5, 7)]
abbrev b36x11 : BC := .reg [⟨0, some 48, .move (T 11), none⟩,
  ⟨1, some 49, .binOp .eql 3 (T 48) (K 1) 3, none⟩] []
abbrev b36x12 : BC := .reg [⟨0, some 50, .fieldAddr 81 (T 10) 2, none⟩,
  ⟨1, some 51, .load 3 (T 50), none⟩,
  ⟨2, some 52, .fieldAddr 81 (T 10) 5, none⟩,
  ⟨3, some 53, .load 3 (T 52), none⟩,
  ⟨4, some 54, .fieldAddr 81 (T 10) 6, none⟩,
  ⟨5, some 55, .load 3 (T 54), none⟩,
  ⟨6, some 12, .assign (T 51), none⟩,
  ⟨7, some 13, .assign (T 53), none⟩,
  ⟨8, some 14, .assign (T 55), none⟩] [(0, 2), (1, 2), (0, 3), (1, 3), (0, 4), (1, 4), (2, 4), (3, 4), (0, 5), (1, 5), (2, 5), (3, 5), (2, 6), (3, 6), (4, 6), (5, 6), (4, 7), (5, 7)]
abbrev b36x13 : BC := .reg [⟨0, some 15, .assign (K 0), none⟩] []
abbrev b36x14 : BC := .reg [⟨0, some 56, .move (T 15), none⟩,
  ⟨1, some 57, .fieldAddr 55 (T 3) 0, none⟩,
  ⟨2, some 58, .fieldAddr 29 (T 57) 0, none⟩,
  ⟨3, some 59, .load 26 (T 58), none⟩,
  ⟨4, some 60, .call ⟨.builtin .len, #[(T 59)], #[26]⟩, none⟩,
  ⟨5, some 61, .binOp .lss 3 (T 56) (T 60) 3, none⟩] []
abbrev b36x15 : BC := .reg [⟨0, some 64, .load 25 (T 2), none⟩,
  ⟨1, some 65, .fieldAddr 55 (T 3) 0, none⟩,
  ⟨2, some 66, .fieldAddr 29 (T 65) 0, none⟩,
  ⟨3, some 67, .load 26 (T 66), none⟩,
  ⟨4, some 68, .move (T 15), none⟩,
  ⟨5, some 69, .indexAddr 26 (T 67) (T 68), none⟩,
  ⟨6, some 70, .load 3 (T 69), none⟩,
  ⟨7, some 71, .move (T 12), none⟩,
  ⟨8, some 72, .call ⟨.value (.func 120), #[(T 64), (T 70), (T 71)], #[25, 3, 3]⟩, none⟩,
  ⟨9, some 73, .unOp .not 4 (T 72), none⟩] [(0, 1), (0, 2), (0, 3), (0, 4), (1, 4), (2, 4), (3, 4), (0, 5), (0, 6), (0, 7), (1, 7), (2, 7), (3, 7), (4, 7), (5, 7), (6, 7)]
abbrev b36x16 : BC := .reg [⟨0, some 74, .fieldAddr 55 (T 3) 0, none⟩,
  ⟨1, some 75, .load 29 (T 74), none⟩,
  ⟨2, some 76, .move (T 9), none⟩,
  ⟨3, some 77, .move (T 15), none⟩,
  ⟨4, some 78, .move (T 11), none⟩,
  ⟨5, some 79, .binOp .eql 3 (T 78) (K 0) 3, none⟩,
  ⟨6, some 80, .call ⟨.value (.func 121), #[(T 75), (T 76), (T 77), (T 79)], #[29, 3, 3, 4]⟩, none⟩,
  ⟨7, some 16, .assign (T 80), none⟩] []
abbrev b36x17 : BC := .reg [⟨0, some 81, .move (T 16), none⟩,
  ⟨1, some 82, .move (T 13), none⟩,
  ⟨2, some 83, .binOp .lss 3 (T 81) (T 82) 3, none⟩,
  ⟨3, some 84, .move (T 83), none⟩,
  ⟨4, some 85, .move (T 14), some (84, false)⟩,
  ⟨5, some 86, .binOp .geq 3 (T 85) (K 0) 3, some (84, false)⟩,
  ⟨6, some 87, .move (T 86), some (84, false)⟩,
  ⟨7, some 88, .move (T 16), some (87, true)⟩,
  ⟨8, some 89, .move (T 14), some (87, true)⟩,
  ⟨9, some 90, .binOp .gtr 3 (T 88) (T 89) 3, some (87, true)⟩,
  ⟨10, some 91, .pick (T 87) (T 90) (.const (.bool false)), some (84, false)⟩,
  ⟨11, some 92, .pick (T 84) (.const (.bool true)) (T 91), none⟩] []
abbrev b36x18 : BC := .reg [⟨0, some 93, .move (T 8), none⟩,
  ⟨1, some 94, .move (T 9), none⟩,
  ⟨2, some 95, .move (T 15), none⟩,
  ⟨3, some 96, .move (T 16), none⟩,
  ⟨4, some 97, .move (T 11), none⟩,
  ⟨5, some 98, .binOp .eql 3 (T 97) (K 0) 3, none⟩,
  ⟨6, some 99, .build 65 #[(0, (T 94)), (1, (T 95)), (2, (T 96)), (3, (T 98))], none⟩,
  ⟨7, some 100, .buildSlice 60 1 #[(0, (T 99))], none⟩,
  ⟨8, some 101, .call ⟨.builtin .append, #[(T 93), (T 100)], #[60, 60]⟩, none⟩,
  ⟨9, some 8, .assign (T 101), none⟩] []
abbrev b36x19 : BC := .seq (.seq b36x15 (.cond (T 73) (.exit 5) .skip)) (.seq b36x16 (.seq b36x17 (.cond (T 92) b36x18 .skip)))
abbrev b36x20 : BC := .reg [⟨0, some 62, .move (T 15), none⟩,
  ⟨1, some 63, .binOp .add 3 (T 62) (K 1) 3, none⟩,
  ⟨2, some 15, .assign (T 63), none⟩] []
abbrev b36x21 : BC := .loop (.seq (.seq b36x14 (.cond (T 61) .skip (.exit 4))) (.seq (.block 5 b36x19) b36x20))
abbrev b36x22 : BC := .block 3 (.seq b36x10 (.seq (.seq b36x11 (.cond (T 49) b36x12 .skip)) (.seq b36x13 (.block 4 b36x21))))
abbrev b36x23 : BC := .reg [⟨0, some 40, .move (T 11), none⟩,
  ⟨1, some 41, .binOp .add 3 (T 40) (K 1) 3, none⟩,
  ⟨2, some 11, .assign (T 41), none⟩] []
abbrev b36x24 : BC := .loop (.seq (.seq b36x9 (.cond (T 39) .skip (.exit 2))) (.seq b36x22 b36x23))
abbrev b36x25 : BC := .reg [⟨0, some 31, .move (T 9), none⟩,
  ⟨1, some 32, .binOp .add 3 (T 31) (K 1) 3, none⟩,
  ⟨2, some 9, .assign (T 32), none⟩] []
abbrev b36x26 : BC := .seq (.seq b36x6 (.cond (T 30) .skip (.exit 0))) (.seq (.block 1 (.seq b36x7 (.seq b36x8 (.block 2 b36x24)))) b36x25)
abbrev b36x27 : BC := .loop b36x26
abbrev b36x28 : BC := .reg [⟨0, some 102, .move (T 8), none⟩,
  ⟨1, some 4, .assign (T 102), none⟩,
  ⟨2, some 5, .assign (K 0), none⟩] []
abbrev b36x29 : BC := .seq (.seq b36x1 (.seq b36x2 (.cond (T 24) (.seq b36x3 .ret) .skip))) (.seq b36x4 (.seq (.seq b36x5 (.block 0 b36x27)) (.seq b36x28 .ret)))
abbrev b36 : BC := .seq b36x0 b36x29
theorem c36 : Tryz.f36.body.bind (compile Tryz.f36.ntmps) = some b36 := by kernel_rfl
theorem ok36 : EntryOK Tryz.prog (36, ⟨103, b36, #[.tmp 4, .tmp 5]⟩) := ⟨Tryz.f36, Tryz.func36, c36, Tryz.ntmps36, by kernel_rfl, Tryz.call36⟩
/-! scarfjoint/scarfjointref04.Valid -/
abbrev b99x0 : BC := .reg [⟨0, some 1, .box 25 (T 0), none⟩,
  ⟨1, some 2, .assign (.const (.string ⟨#[]⟩)), none⟩,
  ⟨2, some 3, .assign (K 0), none⟩] []
abbrev b99x1 : BC := .reg [⟨0, some 8, .fieldAddr 25 (T 1) 0, none⟩,
  ⟨1, some 9, .load 22 (T 8), none⟩,
  ⟨2, some 10, .call ⟨.builtin .len, #[(T 9)], #[22]⟩, none⟩,
  ⟨3, some 11, .binOp .eql 3 (T 10) (K 0) 3, none⟩] []
abbrev b99x2 : BC := .reg [⟨0, some 2, .assign (.const (.string ⟨#[]⟩)), none⟩,
  ⟨1, some 3, .assign (K 7), none⟩] []
abbrev b99x3 : BC := .reg [⟨0, some 12, .fieldAddr 25 (T 1) 0, none⟩,
  ⟨1, some 13, .load 22 (T 12), none⟩,
  ⟨2, some 14, .call ⟨.builtin .len, #[(T 13)], #[22]⟩, none⟩,
  ⟨3, some 15, .binOp .gtr 3 (T 14) (K 12) 3, none⟩,
  ⟨4, some 16, .move (T 15), none⟩,
  ⟨5, some 17, .fieldAddr 25 (T 1) 1, some (16, false)⟩,
  ⟨6, some 18, .load 23 (T 17), some (16, false)⟩,
  ⟨7, some 19, .call ⟨.builtin .len, #[(T 18)], #[23]⟩, some (16, false)⟩,
  ⟨8, some 20, .binOp .gtr 3 (T 19) (K 20) 3, some (16, false)⟩,
  ⟨9, some 21, .pick (T 16) (.const (.bool true)) (T 20), none⟩] []
abbrev b99x4 : BC := .reg [⟨0, some 2, .assign (.const (.string ⟨#[]⟩)), none⟩,
  ⟨1, some 3, .assign (K 3), none⟩] []
abbrev b99x5 : BC := .reg [⟨0, some 4, .assign (K 0), none⟩] []
abbrev b99x6 : BC := .reg [⟨0, some 22, .move (T 4), none⟩,
  ⟨1, some 23, .fieldAddr 25 (T 1) 0, none⟩,
  ⟨2, some 24, .load 22 (T 23), none⟩,
  ⟨3, some 25, .call ⟨.builtin .len, #[(T 24)], #[22]⟩, none⟩,
  ⟨4, some 26, .binOp .lss 3 (T 22) (T 25) 3, none⟩] []
abbrev b99x7 : BC := .reg [⟨0, some 29, .load 25 (T 1), none⟩,
  ⟨1, some 30, .move (T 4), none⟩,
  ⟨2, some 31, .call ⟨.value (.func 204), #[(T 29), (T 30)], #[25, 3]⟩, none⟩,
  ⟨3, some 5, .assign (T 31), none⟩] []
abbrev b99x8 : BC := .reg [⟨0, some 32, .move (T 5), none⟩,
  ⟨1, some 33, .binOp .neq 38 (T 32) (K 0) 38, none⟩] []
abbrev b99x9 : BC := .reg [⟨0, some 34, .fieldAddr 25 (T 1) 0, none⟩,
  ⟨1, some 35, .load 22 (T 34), none⟩,
  ⟨2, some 36, .move (T 4), none⟩,
  ⟨3, some 37, .indexAddr 22 (T 35) (T 36), none⟩,
  ⟨4, some 38, .fieldAddr 157 (T 37) 0, none⟩,
  ⟨5, some 39, .load 9 (T 38), none⟩,
  ⟨6, some 40, .move (T 5), none⟩,
  ⟨7, some 2, .assign (T 39), none⟩,
  ⟨8, some 3, .assign (T 40), none⟩] []
abbrev b99x10 : BC := .reg [⟨0, some 27, .move (T 4), none⟩,
  ⟨1, some 28, .binOp .add 3 (T 27) (K 1) 3, none⟩,
  ⟨2, some 4, .assign (T 28), none⟩] []
abbrev b99x11 : BC := .seq (.seq b99x6 (.cond (T 26) .skip (.exit 0))) (.seq (.block 1 (.seq b99x7 (.seq b99x8 (.cond (T 33) (.seq b99x9 .ret) .skip)))) b99x10)
abbrev b99x12 : BC := .loop b99x11
abbrev b99x13 : BC := .reg [⟨0, some 6, .assign (K 0), none⟩] []
abbrev b99x14 : BC := .reg [⟨0, some 41, .move (T 6), none⟩,
  ⟨1, some 42, .fieldAddr 25 (T 1) 1, none⟩,
  ⟨2, some 43, .load 23 (T 42), none⟩,
  ⟨3, some 44, .call ⟨.builtin .len, #[(T 43)], #[23]⟩, none⟩,
  ⟨4, some 45, .binOp .lss 3 (T 41) (T 44) 3, none⟩] []
abbrev b99x15 : BC := .reg [⟨0, some 48, .load 25 (T 1), none⟩,
  ⟨1, some 49, .move (T 6), none⟩,
  ⟨2, some 50, .call ⟨.value (.func 205), #[(T 48), (T 49)], #[25, 3]⟩, none⟩,
  ⟨3, some 7, .assign (T 50), none⟩] []
abbrev b99x16 : BC := .reg [⟨0, some 51, .move (T 7), none⟩,
  ⟨1, some 52, .binOp .neq 38 (T 51) (K 0) 38, none⟩] []
abbrev b99x17 : BC := .reg [⟨0, some 53, .fieldAddr 25 (T 1) 1, none⟩,
  ⟨1, some 54, .load 23 (T 53), none⟩,
  ⟨2, some 55, .move (T 6), none⟩,
  ⟨3, some 56, .indexAddr 23 (T 54) (T 55), none⟩,
  ⟨4, some 57, .fieldAddr 81 (T 56) 0, none⟩,
  ⟨5, some 58, .load 9 (T 57), none⟩,
  ⟨6, some 59, .move (T 7), none⟩,
  ⟨7, some 2, .assign (T 58), none⟩,
  ⟨8, some 3, .assign (T 59), none⟩] []
abbrev b99x18 : BC := .reg [⟨0, some 46, .move (T 6), none⟩,
  ⟨1, some 47, .binOp .add 3 (T 46) (K 1) 3, none⟩,
  ⟨2, some 6, .assign (T 47), none⟩] []
abbrev b99x19 : BC := .seq (.seq b99x14 (.cond (T 45) .skip (.exit 2))) (.seq (.block 3 (.seq b99x15 (.seq b99x16 (.cond (T 52) (.seq b99x17 .ret) .skip)))) b99x18)
abbrev b99x20 : BC := .loop b99x19
abbrev b99x21 : BC := .reg [⟨0, some 2, .assign (.const (.string ⟨#[]⟩)), none⟩,
  ⟨1, some 3, .assign (K 0), none⟩] []
abbrev b99x22 : BC := .seq (.seq b99x3 (.cond (T 21) (.seq b99x4 .ret) .skip)) (.seq (.seq b99x5 (.block 0 b99x12)) (.seq (.seq b99x13 (.block 2 b99x20)) (.seq b99x21 .ret)))
abbrev b99 : BC := .seq b99x0 (.seq (.seq b99x1 (.cond (T 11) (.seq b99x2 .ret) .skip)) b99x22)
theorem c99 : Tryz.f99.body.bind (compile Tryz.f99.ntmps) = some b99 := by kernel_rfl
theorem ok99 : EntryOK Tryz.prog (99, ⟨60, b99, #[.tmp 2, .tmp 3]⟩) := ⟨Tryz.f99, Tryz.func99, c99, Tryz.ntmps99, by kernel_rfl, Tryz.call99⟩
/-! scarfjoint/scarfjointref05.Valid -/
abbrev b100x0 : BC := .reg [⟨0, some 1, .box 29 (T 0), none⟩,
  ⟨1, some 2, .assign (K 0), none⟩] []
abbrev b100x1 : BC := .reg [⟨0, some 5, .fieldAddr 29 (T 1) 0, none⟩,
  ⟨1, some 6, .load 26 (T 5), none⟩,
  ⟨2, some 7, .call ⟨.builtin .len, #[(T 6)], #[26]⟩, none⟩,
  ⟨3, some 8, .binOp .gtr 3 (T 7) (K 40) 3, none⟩,
  ⟨4, some 9, .move (T 8), none⟩,
  ⟨5, some 10, .fieldAddr 29 (T 1) 1, some (9, false)⟩,
  ⟨6, some 11, .load 27 (T 10), some (9, false)⟩,
  ⟨7, some 12, .call ⟨.builtin .len, #[(T 11)], #[27]⟩, some (9, false)⟩,
  ⟨8, some 13, .binOp .gtr 3 (T 12) (K 80) 3, some (9, false)⟩,
  ⟨9, some 14, .pick (T 9) (.const (.bool true)) (T 13), none⟩] []
abbrev b100x2 : BC := .reg [⟨0, some 2, .assign (K 3), none⟩] []
abbrev b100x3 : BC := .reg [⟨0, some 3, .assign (K 0), none⟩] []
abbrev b100x4 : BC := .reg [⟨0, some 15, .move (T 3), none⟩,
  ⟨1, some 16, .fieldAddr 29 (T 1) 0, none⟩,
  ⟨2, some 17, .load 26 (T 16), none⟩,
  ⟨3, some 18, .call ⟨.builtin .len, #[(T 17)], #[26]⟩, none⟩,
  ⟨4, some 19, .binOp .lss 3 (T 15) (T 18) 3, none⟩] []
abbrev b100x5 : BC := .reg [⟨0, some 22, .fieldAddr 29 (T 1) 0, none⟩,
  ⟨1, some 23, .load 26 (T 22), none⟩,
  ⟨2, some 24, .move (T 3), none⟩,
  ⟨3, some 25, .indexAddr 26 (T 23) (T 24), none⟩,
  ⟨4, some 26, .load 3 (T 25), none⟩,
  ⟨5, some 27, .call ⟨.value (.func 206), #[(T 26)], #[3]⟩, none⟩,
  ⟨6, some 28, .unOp .not 4 (T 27), none⟩] []
abbrev b100x6 : BC := .reg [⟨0, some 2, .assign (K 6), none⟩] []
abbrev b100x7 : BC := .reg [⟨0, some 20, .move (T 3), none⟩,
  ⟨1, some 21, .binOp .add 3 (T 20) (K 1) 3, none⟩,
  ⟨2, some 3, .assign (T 21), none⟩] []
abbrev b100x8 : BC := .seq (.seq b100x4 (.cond (T 19) .skip (.exit 0))) (.seq (.block 1 (.seq b100x5 (.cond (T 28) (.seq b100x6 .ret) .skip))) b100x7)
abbrev b100x9 : BC := .loop b100x8
abbrev b100x10 : BC := .reg [⟨0, some 4, .assign (K 0), none⟩] []
abbrev b100x11 : BC := .reg [⟨0, some 29, .move (T 4), none⟩,
  ⟨1, some 30, .fieldAddr 29 (T 1) 1, none⟩,
  ⟨2, some 31, .load 27 (T 30), none⟩,
  ⟨3, some 32, .call ⟨.builtin .len, #[(T 31)], #[27]⟩, none⟩,
  ⟨4, some 33, .binOp .lss 3 (T 29) (T 32) 3, none⟩] []
abbrev b100x12 : BC := .reg [⟨0, some 36, .fieldAddr 29 (T 1) 1, none⟩,
  ⟨1, some 37, .load 27 (T 36), none⟩,
  ⟨2, some 38, .move (T 4), none⟩,
  ⟨3, some 39, .indexAddr 27 (T 37) (T 38), none⟩,
  ⟨4, some 40, .load 84 (T 39), none⟩,
  ⟨5, some 41, .fieldAddr 29 (T 1) 0, none⟩,
  ⟨6, some 42, .load 26 (T 41), none⟩,
  ⟨7, some 43, .call ⟨.builtin .len, #[(T 42)], #[26]⟩, none⟩,
  ⟨8, some 44, .call ⟨.value (.func 207), #[(T 40), (T 43)], #[84, 3]⟩, none⟩,
  ⟨9, some 45, .unOp .not 4 (T 44), none⟩] [(0, 2), (1, 2), (0, 5), (1, 5), (2, 5), (3, 5), (4, 5), (0, 6), (1, 6), (2, 6), (3, 6), (4, 6), (0, 7), (1, 7), (2, 7), (3, 7), (4, 7)]
abbrev b100x13 : BC := .reg [⟨0, some 2, .assign (K 6), none⟩] []
abbrev b100x14 : BC := .reg [⟨0, some 34, .move (T 4), none⟩,
  ⟨1, some 35, .binOp .add 3 (T 34) (K 1) 3, none⟩,
  ⟨2, some 4, .assign (T 35), none⟩] []
abbrev b100x15 : BC := .seq (.seq b100x11 (.cond (T 33) .skip (.exit 2))) (.seq (.block 3 (.seq b100x12 (.cond (T 45) (.seq b100x13 .ret) .skip))) b100x14)
abbrev b100x16 : BC := .loop b100x15
abbrev b100x17 : BC := .reg [⟨0, some 2, .assign (K 0), none⟩] []
abbrev b100x18 : BC := .seq (.seq b100x1 (.cond (T 14) (.seq b100x2 .ret) .skip)) (.seq (.seq b100x3 (.block 0 b100x9)) (.seq (.seq b100x10 (.block 2 b100x16)) (.seq b100x17 .ret)))
abbrev b100 : BC := .seq b100x0 b100x18
theorem c100 : Tryz.f100.body.bind (compile Tryz.f100.ntmps) = some b100 := by kernel_rfl
theorem ok100 : EntryOK Tryz.prog (100, ⟨46, b100, #[.tmp 2]⟩) := ⟨Tryz.f100, Tryz.func100, c100, Tryz.ntmps100, by kernel_rfl, Tryz.call100⟩
/-! slices.ContainsFunc[[]scarfjoint/api.Host,scarfjoint/api.Host] -/
abbrev b112x0 : BC := .reg [⟨0, some 4, .assign (.const (.bool false)), none⟩] []
abbrev b112x1 : BC := .reg [⟨0, some 5, .move (T 0), none⟩,
  ⟨1, some 6, .move (T 1), none⟩,
  ⟨2, some 7, .call ⟨.value (.func 212), #[(T 5), (T 6)], #[190, 90]⟩, none⟩,
  ⟨3, some 8, .binOp .geq 3 (T 7) (K 0) 3, none⟩,
  ⟨4, some 4, .assign (T 8), none⟩] []
abbrev b112 : BC := .seq b112x0 (.seq b112x1 .ret)
theorem c112 : Tryz.f112.body.bind (compile Tryz.f112.ntmps) = some b112 := by kernel_rfl
theorem ok112 : EntryOK Tryz.prog (112, ⟨9, b112, #[.tmp 4]⟩) := ⟨Tryz.f112, Tryz.func112, c112, Tryz.ntmps112, by kernel_rfl, Tryz.call112⟩
/-! scarfjoint/scarfjointlaw15.small$1 -/
abbrev b113x0 : BC := .reg [⟨0, some 1, .box 55 (T 0), none⟩,
  ⟨1, some 2, .assign (.const (.bool false)), none⟩] []
abbrev b113x1 : BC := .reg [⟨0, some 3, .load 55 (T 1), none⟩,
  ⟨1, some 4, .call ⟨.value (.func 47), #[(T 3)], #[55]⟩, none⟩,
  ⟨2, some 5, .unOp .not 4 (T 4), none⟩,
  ⟨3, some 2, .assign (T 5), none⟩] []
abbrev b113 : BC := .seq b113x0 (.seq b113x1 .ret)
theorem c113 : Tryz.f113.body.bind (compile Tryz.f113.ntmps) = some b113 := by kernel_rfl
theorem ok113 : EntryOK Tryz.prog (113, ⟨6, b113, #[.tmp 2]⟩) := ⟨Tryz.f113, Tryz.func113, c113, Tryz.ntmps113, by kernel_rfl, Tryz.call113⟩
/-! scarfjoint/scarfjointref15.node -/
abbrev b116x0 : BC := .reg [⟨0, some 3, .box 25 (T 0), none⟩,
  ⟨1, some 6, .assign (K 0), none⟩] []
abbrev b116x1 : BC := .reg [⟨0, some 10, .move (T 1), none⟩,
  ⟨1, some 11, .fieldAddr 25 (T 3) 0, none⟩,
  ⟨2, some 12, .load 22 (T 11), none⟩,
  ⟨3, some 13, .call ⟨.builtin .len, #[(T 12)], #[22]⟩, none⟩,
  ⟨4, some 14, .binOp .geq 3 (T 10) (T 13) 3, none⟩] []
abbrev b116x2 : BC := .reg [⟨0, some 6, .assign (K 6), none⟩] []
abbrev b116x3 : BC := .reg [⟨0, some 15, .fieldAddr 25 (T 3) 0, none⟩,
  ⟨1, some 16, .load 22 (T 15), none⟩,
  ⟨2, some 17, .move (T 1), none⟩,
  ⟨3, some 18, .indexAddr 22 (T 16) (T 17), none⟩,
  ⟨4, some 19, .fieldAddr 157 (T 18) 2, none⟩,
  ⟨5, some 20, .load 4 (T 19), none⟩] []
abbrev b116x4 : BC := .reg [⟨0, some 6, .assign (K 13), none⟩] []
abbrev b116x5 : BC := .reg [⟨0, some 22, .load 25 (T 3), none⟩,
  ⟨1, some 23, .move (T 1), none⟩,
  ⟨2, some 24, .call ⟨.value (.func 130), #[(T 22), (T 23)], #[25, 3]⟩, none⟩,
  ⟨3, some 21, .move (T 24), none⟩,
  ⟨4, some 25, .extract (T 21) 0, none⟩,
  ⟨5, some 26, .extract (T 21) 1, none⟩,
  ⟨6, some 7, .assign (T 25), none⟩,
  ⟨7, some 8, .assign (T 26), none⟩] []
abbrev b116x6 : BC := .reg [⟨0, some 27, .move (T 2), none⟩,
  ⟨1, some 28, .call ⟨.builtin .len, #[(T 27)], #[26]⟩, none⟩,
  ⟨2, some 29, .move (T 7), none⟩,
  ⟨3, some 30, .call ⟨.builtin .len, #[(T 29)], #[155]⟩, none⟩,
  ⟨4, some 31, .binOp .neq 3 (T 28) (T 30) 3, none⟩] []
abbrev b116x7 : BC := .reg [⟨0, some 6, .assign (K 20), none⟩] []
abbrev b116x8 : BC := .reg [⟨0, some 9, .assign (K 0), none⟩] []
abbrev b116x9 : BC := .reg [⟨0, some 32, .move (T 9), none⟩,
  ⟨1, some 33, .move (T 7), none⟩,
  ⟨2, some 34, .call ⟨.builtin .len, #[(T 33)], #[155]⟩, none⟩,
  ⟨3, some 35, .binOp .lss 3 (T 32) (T 34) 3, none⟩] []
abbrev b116x10 : BC := .reg [⟨0, some 38, .move (T 2), none⟩,
  ⟨1, some 39, .move (T 9), none⟩,
  ⟨2, some 40, .indexAddr 26 (T 38) (T 39), none⟩,
  ⟨3, some 41, .load 3 (T 40), none⟩,
  ⟨4, some 42, .move (T 7), none⟩,
  ⟨5, some 43, .move (T 9), none⟩,
  ⟨6, some 44, .indexAddr 155 (T 42) (T 43), none⟩,
  ⟨7, some 45, .fieldAddr 160 (T 44) 1, none⟩,
  ⟨8, some 46, .load 3 (T 45), none⟩,
  ⟨9, some 47, .binOp .lss 3 (T 41) (T 46) 3, none⟩,
  ⟨10, some 48, .move (T 47), none⟩,
  ⟨11, some 49, .move (T 2), some (48, false)⟩,
  ⟨12, some 50, .move (T 9), some (48, false)⟩,
  ⟨13, some 51, .indexAddr 26 (T 49) (T 50), some (48, false)⟩,
  ⟨14, some 52, .load 3 (T 51), some (48, false)⟩,
  ⟨15, some 53, .move (T 7), some (48, false)⟩,
  ⟨16, some 54, .move (T 9), some (48, false)⟩,
  ⟨17, some 55, .indexAddr 155 (T 53) (T 54), some (48, false)⟩,
  ⟨18, some 56, .fieldAddr 160 (T 55) 2, some (48, false)⟩,
  ⟨19, some 57, .load 3 (T 56), some (48, false)⟩,
  ⟨20, some 58, .binOp .gtr 3 (T 52) (T 57) 3, some (48, false)⟩,
  ⟨21, some 59, .pick (T 48) (.const (.bool true)) (T 58), none⟩] [(0, 1), (0, 4), (1, 4), (2, 4), (3, 4), (0, 5), (1, 5), (2, 5), (3, 5), (4, 5), (0, 6), (1, 6), (2, 6), (3, 6), (0, 7), (1, 7), (2, 7), (3, 7), (0, 8), (1, 8), (2, 8), (3, 8), (11, 12), (11, 15), (12, 15), (13, 15), (14, 15), (11, 16), (12, 16), (13, 16), (14, 16), (15, 16), (11, 17), (12, 17), (13, 17), (14, 17), (11, 18), (12, 18), (13, 18), (14, 18), (11, 19), (12, 19), (13, 19), (14, 19)]
abbrev b116x11 : BC := .reg [⟨0, some 6, .assign (K 6), none⟩] []
abbrev b116x12 : BC := .reg [⟨0, some 36, .move (T 9), none⟩,
  ⟨1, some 37, .binOp .add 3 (T 36) (K 1) 3, none⟩,
  ⟨2, some 9, .assign (T 37), none⟩] []
abbrev b116x13 : BC := .seq (.seq b116x9 (.cond (T 35) .skip (.exit 0))) (.seq (.block 1 (.seq b116x10 (.cond (T 59) (.seq b116x11 .ret) .skip))) b116x12)
abbrev b116x14 : BC := .loop b116x13
abbrev b116x15 : BC := .reg [⟨0, some 6, .assign (K 0), none⟩] []
abbrev b116x16 : BC := .seq (.seq b116x6 (.cond (T 31) (.seq b116x7 .ret) .skip)) (.seq (.seq b116x8 (.block 0 b116x14)) (.seq b116x15 .ret))
abbrev b116x17 : BC := .seq (.seq b116x1 (.cond (T 14) (.seq b116x2 .ret) .skip)) (.seq (.seq b116x3 (.cond (T 20) (.seq b116x4 .ret) .skip)) (.seq b116x5 b116x16))
abbrev b116 : BC := .seq b116x0 b116x17
theorem c116 : Tryz.f116.body.bind (compile Tryz.f116.ntmps) = some b116 := by kernel_rfl
theorem ok116 : EntryOK Tryz.prog (116, ⟨60, b116, #[.tmp 6]⟩) := ⟨Tryz.f116, Tryz.func116, c116, Tryz.ntmps116, by kernel_rfl, Tryz.call116⟩
/-! scarfjoint/scarfjointref04.Fits -/
abbrev b117x0 : BC := .reg [⟨0, some 4, .box 25 (T 0), none⟩,
  ⟨1, some 8, .assign (.const (.bool false)), none⟩] []
abbrev b117x1 : BC := .reg [⟨0, some 9, .load 25 (T 4), none⟩,
  ⟨1, some 10, .move (T 2), none⟩,
  ⟨2, some 11, .move (T 3), none⟩,
  ⟨3, some 12, .call ⟨.value (.func 215), #[(T 9), (T 10), (T 11)], #[25, 3, 3]⟩, none⟩,
  ⟨4, some 13, .binOp .neq 38 (T 12) (K 0) 38, none⟩,
  ⟨5, some 14, .move (T 13), none⟩,
  ⟨6, some 15, .move (T 1), some (14, false)⟩,
  ⟨7, some 16, .fieldAddr 25 (T 4) 1, some (14, false)⟩,
  ⟨8, some 17, .load 23 (T 16), some (14, false)⟩,
  ⟨9, some 18, .call ⟨.builtin .len, #[(T 17)], #[23]⟩, some (14, false)⟩,
  ⟨10, some 19, .binOp .sub 3 (T 18) (K 1) 3, some (14, false)⟩,
  ⟨11, some 20, .call ⟨.value (.func 216), #[(T 15), (K 0), (T 19)], #[3, 3, 3]⟩, some (14, false)⟩,
  ⟨12, some 21, .unOp .not 4 (T 20), some (14, false)⟩,
  ⟨13, some 22, .pick (T 14) (.const (.bool true)) (T 21), none⟩] []
abbrev b117x2 : BC := .reg [⟨0, some 8, .assign (.const (.bool false)), none⟩] []
abbrev b117x3 : BC := .reg [⟨0, some 23, .load 25 (T 4), none⟩,
  ⟨1, some 24, .move (T 2), none⟩,
  ⟨2, some 25, .fieldAddr 25 (T 4) 1, none⟩,
  ⟨3, some 26, .load 23 (T 25), none⟩,
  ⟨4, some 27, .move (T 1), none⟩,
  ⟨5, some 28, .indexAddr 23 (T 26) (T 27), none⟩,
  ⟨6, some 29, .fieldAddr 81 (T 28) 1, none⟩,
  ⟨7, some 30, .load 3 (T 29), none⟩,
  ⟨8, some 31, .call ⟨.value (.func 120), #[(T 23), (T 24), (T 30)], #[25, 3, 3]⟩, none⟩,
  ⟨9, some 32, .move (T 31), none⟩,
  ⟨10, some 33, .load 25 (T 4), some (32, true)⟩,
  ⟨11, some 34, .move (T 3), some (32, true)⟩,
  ⟨12, some 35, .fieldAddr 25 (T 4) 1, some (32, true)⟩,
  ⟨13, some 36, .load 23 (T 35), some (32, true)⟩,
  ⟨14, some 37, .move (T 1), some (32, true)⟩,
  ⟨15, some 38, .indexAddr 23 (T 36) (T 37), some (32, true)⟩,
  ⟨16, some 39, .fieldAddr 81 (T 38) 2, some (32, true)⟩,
  ⟨17, some 40, .load 3 (T 39), some (32, true)⟩,
  ⟨18, some 41, .call ⟨.value (.func 120), #[(T 33), (T 34), (T 40)], #[25, 3, 3]⟩, some (32, true)⟩,
  ⟨19, some 42, .pick (T 32) (T 41) (.const (.bool false)), none⟩,
  ⟨20, some 8, .assign (T 42), none⟩] [(0, 1), (0, 2), (1, 2), (0, 3), (1, 3), (0, 4), (1, 4), (2, 4), (3, 4), (0, 5), (1, 5), (0, 6), (1, 6), (0, 7), (1, 7), (10, 11), (10, 12), (11, 12), (10, 13), (11, 13), (10, 14), (11, 14), (12, 14), (13, 14), (10, 15), (11, 15), (10, 16), (11, 16), (10, 17), (11, 17)]
abbrev b117 : BC := .seq b117x0 (.seq (.seq b117x1 (.cond (T 22) (.seq b117x2 .ret) .skip)) (.seq b117x3 .ret))
theorem c117 : Tryz.f117.body.bind (compile Tryz.f117.ntmps) = some b117 := by kernel_rfl
theorem ok117 : EntryOK Tryz.prog (117, ⟨43, b117, #[.tmp 8]⟩) := ⟨Tryz.f117, Tryz.func117, c117, Tryz.ntmps117, by kernel_rfl, Tryz.call117⟩
/-! scarfjoint/scarfjointref04.Below1 -/
abbrev b120x0 : BC := .reg [⟨0, some 3, .box 25 (T 0), none⟩,
  ⟨1, some 6, .assign (.const (.bool false)), none⟩] []
abbrev b120x1 : BC := .reg [⟨0, some 7, .move (T 1), none⟩,
  ⟨1, some 8, .move (T 2), none⟩,
  ⟨2, some 9, .binOp .eql 3 (T 7) (T 8) 3, none⟩,
  ⟨3, some 10, .move (T 9), none⟩,
  ⟨4, some 11, .move (T 1), some (10, false)⟩,
  ⟨5, some 12, .binOp .geq 3 (T 11) (K 0) 3, some (10, false)⟩,
  ⟨6, some 13, .move (T 12), some (10, false)⟩,
  ⟨7, some 14, .load 25 (T 3), some (13, true)⟩,
  ⟨8, some 15, .fieldAddr 25 (T 3) 0, some (13, true)⟩,
  ⟨9, some 16, .load 22 (T 15), some (13, true)⟩,
  ⟨10, some 17, .move (T 1), some (13, true)⟩,
  ⟨11, some 18, .indexAddr 22 (T 16) (T 17), some (13, true)⟩,
  ⟨12, some 19, .fieldAddr 157 (T 18) 1, some (13, true)⟩,
  ⟨13, some 20, .load 3 (T 19), some (13, true)⟩,
  ⟨14, some 21, .move (T 2), some (13, true)⟩,
  ⟨15, some 22, .call ⟨.value (.func 120), #[(T 14), (T 20), (T 21)], #[25, 3, 3]⟩, some (13, true)⟩,
  ⟨16, some 23, .pick (T 13) (T 22) (.const (.bool false)), some (10, false)⟩,
  ⟨17, some 24, .pick (T 10) (.const (.bool true)) (T 23), none⟩,
  ⟨18, some 6, .assign (T 24), none⟩] [(0, 1), (7, 8), (7, 9), (7, 10), (8, 10), (9, 10), (7, 11), (7, 12), (7, 13), (7, 14), (8, 14), (9, 14), (10, 14), (11, 14), (12, 14), (13, 14)]
abbrev b120 : BC := .seq b120x0 (.seq b120x1 .ret)
theorem c120 : Tryz.f120.body.bind (compile Tryz.f120.ntmps) = some b120 := by kernel_rfl
theorem ok120 : EntryOK Tryz.prog (120, ⟨25, b120, #[.tmp 6]⟩) := ⟨Tryz.f120, Tryz.func120, c120, Tryz.ntmps120, by kernel_rfl, Tryz.call120⟩
/-! scarfjoint/scarfjointref15.count -/
abbrev b121x0 : BC := .reg [⟨0, some 4, .box 29 (T 0), none⟩,
  ⟨1, some 8, .assign (K 0), none⟩] []
abbrev b121x1 : BC := .reg [⟨0, some 9, .assign (K 0), none⟩] []
abbrev b121x2 : BC := .reg [⟨0, some 10, .assign (K 0), none⟩] []
abbrev b121x3 : BC := .reg [⟨0, some 12, .move (T 10), none⟩,
  ⟨1, some 13, .fieldAddr 29 (T 4) 1, none⟩,
  ⟨2, some 14, .load 27 (T 13), none⟩,
  ⟨3, some 15, .call ⟨.builtin .len, #[(T 14)], #[27]⟩, none⟩,
  ⟨4, some 16, .binOp .lss 3 (T 12) (T 15) 3, none⟩] []
abbrev b121x4 : BC := .reg [⟨0, some 19, .fieldAddr 29 (T 4) 1, none⟩,
  ⟨1, some 20, .load 27 (T 19), none⟩,
  ⟨2, some 21, .move (T 10), none⟩,
  ⟨3, some 22, .indexAddr 27 (T 20) (T 21), none⟩,
  ⟨4, some 23, .load 84 (T 22), none⟩,
  ⟨5, some 11, .alloc 84, none⟩,
  ⟨6, none, .store 84 (T 11) (T 23), none⟩] []
abbrev b121x5 : BC := .reg [⟨0, some 24, .fieldAddr 84 (T 11) 0, none⟩,
  ⟨1, some 25, .load 3 (T 24), none⟩,
  ⟨2, some 26, .move (T 1), none⟩,
  ⟨3, some 27, .binOp .eql 3 (T 25) (T 26) 3, none⟩,
  ⟨4, some 28, .move (T 27), none⟩,
  ⟨5, some 29, .move (T 3), some (28, true)⟩,
  ⟨6, some 30, .move (T 29), some (28, true)⟩,
  ⟨7, some 31, .fieldAddr 84 (T 11) 1, some (30, true)⟩,
  ⟨8, some 32, .load 3 (T 31), some (30, true)⟩,
  ⟨9, some 33, .move (T 2), some (30, true)⟩,
  ⟨10, some 34, .binOp .eql 3 (T 32) (T 33) 3, some (30, true)⟩,
  ⟨11, some 35, .pick (T 30) (T 34) (.const (.bool false)), some (28, true)⟩,
  ⟨12, some 36, .move (T 35), some (28, true)⟩,
  ⟨13, some 37, .move (T 3), some (36, false)⟩,
  ⟨14, some 38, .unOp .not 4 (T 37), some (36, false)⟩,
  ⟨15, some 39, .move (T 38), some (36, false)⟩,
  ⟨16, some 40, .fieldAddr 84 (T 11) 2, some (39, true)⟩,
  ⟨17, some 41, .load 3 (T 40), some (39, true)⟩,
  ⟨18, some 42, .move (T 2), some (39, true)⟩,
  ⟨19, some 43, .binOp .eql 3 (T 41) (T 42) 3, some (39, true)⟩,
  ⟨20, some 44, .pick (T 39) (T 43) (.const (.bool false)), some (36, false)⟩,
  ⟨21, some 45, .pick (T 36) (.const (.bool true)) (T 44), some (28, true)⟩,
  ⟨22, some 46, .pick (T 28) (T 45) (.const (.bool false)), none⟩] []
abbrev b121x6 : BC := .reg [⟨0, some 47, .move (T 9), none⟩,
  ⟨1, some 48, .binOp .add 3 (T 47) (K 1) 3, none⟩,
  ⟨2, some 9, .assign (T 48), none⟩] []
abbrev b121x7 : BC := .reg [⟨0, some 17, .move (T 10), none⟩,
  ⟨1, some 18, .binOp .add 3 (T 17) (K 1) 3, none⟩,
  ⟨2, some 10, .assign (T 18), none⟩] []
abbrev b121x8 : BC := .seq (.seq b121x3 (.cond (T 16) .skip (.exit 0))) (.seq (.block 1 (.seq b121x4 (.seq b121x5 (.cond (T 46) b121x6 .skip)))) b121x7)
abbrev b121x9 : BC := .loop b121x8
abbrev b121x10 : BC := .reg [⟨0, some 49, .move (T 9), none⟩,
  ⟨1, some 8, .assign (T 49), none⟩] []
abbrev b121 : BC := .seq b121x0 (.seq b121x1 (.seq (.seq b121x2 (.block 0 b121x9)) (.seq b121x10 .ret)))
theorem c121 : Tryz.f121.body.bind (compile Tryz.f121.ntmps) = some b121 := by kernel_rfl
theorem ok121 : EntryOK Tryz.prog (121, ⟨50, b121, #[.tmp 8]⟩) := ⟨Tryz.f121, Tryz.func121, c121, Tryz.ntmps121, by kernel_rfl, Tryz.call121⟩
/-! scarfjoint/scarfjointref04.Attrs -/
abbrev b130x0 : BC := .reg [⟨0, some 2, .box 25 (T 0), none⟩,
  ⟨1, some 4, .assign (.const (.slice none 0 0)), none⟩,
  ⟨2, some 5, .assign (K 0), none⟩] []
abbrev b130x1 : BC := .reg [⟨0, some 11, .load 25 (T 2), none⟩,
  ⟨1, some 12, .move (T 1), none⟩,
  ⟨2, some 13, .move (T 1), none⟩,
  ⟨3, some 14, .call ⟨.value (.func 215), #[(T 11), (T 12), (T 13)], #[25, 3, 3]⟩, none⟩,
  ⟨4, some 6, .assign (T 14), none⟩] []
abbrev b130x2 : BC := .reg [⟨0, some 15, .move (T 6), none⟩,
  ⟨1, some 16, .binOp .neq 38 (T 15) (K 0) 38, none⟩] []
abbrev b130x3 : BC := .reg [⟨0, some 17, .move (T 6), none⟩,
  ⟨1, some 4, .assign (.const (.slice none 0 0)), none⟩,
  ⟨2, some 5, .assign (T 17), none⟩] []
abbrev b130x4 : BC := .reg [⟨0, some 7, .assign (.const (.slice none 0 0)), none⟩] []
abbrev b130x5 : BC := .reg [⟨0, some 18, .load 25 (T 2), none⟩,
  ⟨1, some 19, .move (T 1), none⟩,
  ⟨2, some 20, .call ⟨.value (.func 227), #[(T 18), (T 19)], #[25, 3]⟩, none⟩,
  ⟨3, some 8, .assign (T 20), none⟩] []
abbrev b130x6 : BC := .reg [⟨0, some 9, .assign (K 0), none⟩] []
abbrev b130x7 : BC := .reg [⟨0, some 21, .move (T 9), none⟩,
  ⟨1, some 22, .move (T 8), none⟩,
  ⟨2, some 23, .call ⟨.builtin .len, #[(T 22)], #[155]⟩, none⟩,
  ⟨3, some 24, .binOp .lss 3 (T 21) (T 23) 3, none⟩] []
abbrev b130x8 : BC := .reg [⟨0, some 27, .move (T 8), none⟩,
  ⟨1, some 28, .move (T 9), none⟩,
  ⟨2, some 29, .indexAddr 155 (T 27) (T 28), none⟩,
  ⟨3, some 30, .load 160 (T 29), none⟩,
  ⟨4, some 10, .alloc 160, none⟩,
  ⟨5, none, .store 160 (T 10) (T 30), none⟩] []
abbrev b130x9 : BC := .reg [⟨0, some 31, .buildSlice 158 0 #[], none⟩,
  ⟨1, some 32, .fieldAddr 160 (T 10) 3, none⟩,
  ⟨2, some 33, .load 158 (T 32), none⟩,
  ⟨3, some 34, .call ⟨.builtin .append, #[(T 31), (T 33)], #[158, 158]⟩, none⟩,
  ⟨4, some 35, .fieldAddr 160 (T 10) 3, none⟩,
  ⟨5, none, .store 158 (T 35) (T 34), none⟩] []
abbrev b130x10 : BC := .reg [⟨0, some 36, .move (T 7), none⟩,
  ⟨1, some 37, .load 160 (T 10), none⟩,
  ⟨2, some 38, .buildSlice 155 1 #[(0, (T 37))], none⟩,
  ⟨3, some 39, .call ⟨.builtin .append, #[(T 36), (T 38)], #[155, 155]⟩, none⟩,
  ⟨4, some 7, .assign (T 39), none⟩] []
abbrev b130x11 : BC := .reg [⟨0, some 25, .move (T 9), none⟩,
  ⟨1, some 26, .binOp .add 3 (T 25) (K 1) 3, none⟩,
  ⟨2, some 9, .assign (T 26), none⟩] []
abbrev b130x12 : BC := .seq (.seq b130x7 (.cond (T 24) .skip (.exit 0))) (.seq (.block 1 (.seq b130x8 (.seq b130x9 b130x10))) b130x11)
abbrev b130x13 : BC := .loop b130x12
abbrev b130x14 : BC := .reg [⟨0, some 40, .move (T 7), none⟩,
  ⟨1, some 4, .assign (T 40), none⟩,
  ⟨2, some 5, .assign (K 0), none⟩] []
abbrev b130x15 : BC := .seq (.seq b130x1 (.seq b130x2 (.cond (T 16) (.seq b130x3 .ret) .skip))) (.seq b130x4 (.seq b130x5 (.seq (.seq b130x6 (.block 0 b130x13)) (.seq b130x14 .ret))))
abbrev b130 : BC := .seq b130x0 b130x15
theorem c130 : Tryz.f130.body.bind (compile Tryz.f130.ntmps) = some b130 := by kernel_rfl
theorem ok130 : EntryOK Tryz.prog (130, ⟨41, b130, #[.tmp 4, .tmp 5]⟩) := ⟨Tryz.f130, Tryz.func130, c130, Tryz.ntmps130, by kernel_rfl, Tryz.call130⟩
/-! scarfjoint/scarfjointref01.IsName -/
abbrev b154x0 : BC := .reg [⟨0, some 2, .assign (.const (.bool false)), none⟩] []
abbrev b154x1 : BC := .reg [⟨0, some 3, .move (T 0), none⟩,
  ⟨1, some 4, .build 305 #[(0, (K 1)), (1, (T 3))], none⟩,
  ⟨2, some 5, .call ⟨.value (.func 250), #[(T 4)], #[305]⟩, none⟩,
  ⟨3, some 2, .assign (T 5), none⟩] []
abbrev b154 : BC := .seq b154x0 (.seq b154x1 .ret)
theorem c154 : Tryz.f154.body.bind (compile Tryz.f154.ntmps) = some b154 := by kernel_rfl
theorem ok154 : EntryOK Tryz.prog (154, ⟨6, b154, #[.tmp 2]⟩) := ⟨Tryz.f154, Tryz.func154, c154, Tryz.ntmps154, by kernel_rfl, Tryz.call154⟩
/-! scarfjoint/scarfjointref04.node -/
abbrev b204x0 : BC := .reg [⟨0, some 2, .box 25 (T 0), none⟩,
  ⟨1, some 4, .assign (K 0), none⟩] []
abbrev b204x1 : BC := .reg [⟨0, some 11, .fieldAddr 25 (T 2) 0, none⟩,
  ⟨1, some 12, .load 22 (T 11), none⟩,
  ⟨2, some 13, .move (T 1), none⟩,
  ⟨3, some 14, .indexAddr 22 (T 12) (T 13), none⟩,
  ⟨4, some 15, .load 157 (T 14), none⟩,
  ⟨5, some 5, .alloc 157, none⟩,
  ⟨6, none, .store 157 (T 5) (T 15), none⟩] []
abbrev b204x2 : BC := .reg [⟨0, some 16, .fieldAddr 157 (T 5) 0, none⟩,
  ⟨1, some 17, .load 9 (T 16), none⟩,
  ⟨2, some 18, .call ⟨.value (.func 154), #[(T 17)], #[9]⟩, none⟩,
  ⟨3, some 19, .unOp .not 4 (T 18), none⟩] []
abbrev b204x3 : BC := .reg [⟨0, some 4, .assign (K 2), none⟩] []
abbrev b204x4 : BC := .reg [⟨0, some 6, .assign (K 0), none⟩] []
abbrev b204x5 : BC := .reg [⟨0, some 20, .move (T 6), none⟩,
  ⟨1, some 21, .move (T 1), none⟩,
  ⟨2, some 22, .binOp .lss 3 (T 20) (T 21) 3, none⟩] []
abbrev b204x6 : BC := .reg [⟨0, some 25, .fieldAddr 25 (T 2) 0, none⟩,
  ⟨1, some 26, .load 22 (T 25), none⟩,
  ⟨2, some 27, .move (T 6), none⟩,
  ⟨3, some 28, .indexAddr 22 (T 26) (T 27), none⟩,
  ⟨4, some 29, .fieldAddr 157 (T 28) 0, none⟩,
  ⟨5, some 30, .load 9 (T 29), none⟩,
  ⟨6, some 31, .fieldAddr 157 (T 5) 0, none⟩,
  ⟨7, some 32, .load 9 (T 31), none⟩,
  ⟨8, some 33, .binOp .eql 9 (T 30) (T 32) 9, none⟩] [(0, 2), (1, 2), (0, 6), (1, 6), (2, 6), (3, 6), (4, 6), (5, 6), (0, 7), (1, 7), (2, 7), (3, 7), (4, 7), (5, 7)]
abbrev b204x7 : BC := .reg [⟨0, some 4, .assign (K 5), none⟩] []
abbrev b204x8 : BC := .reg [⟨0, some 23, .move (T 6), none⟩,
  ⟨1, some 24, .binOp .add 3 (T 23) (K 1) 3, none⟩,
  ⟨2, some 6, .assign (T 24), none⟩] []
abbrev b204x9 : BC := .seq (.seq b204x5 (.cond (T 22) .skip (.exit 0))) (.seq (.block 1 (.seq b204x6 (.cond (T 33) (.seq b204x7 .ret) .skip))) b204x8)
abbrev b204x10 : BC := .loop b204x9
abbrev b204x11 : BC := .reg [⟨0, some 34, .fieldAddr 157 (T 5) 1, none⟩,
  ⟨1, some 35, .load 3 (T 34), none⟩,
  ⟨2, some 36, .move (T 1), none⟩,
  ⟨3, some 37, .binOp .sub 3 (T 36) (K 1) 3, none⟩,
  ⟨4, some 38, .call ⟨.value (.func 216), #[(T 35), (K (-1)), (T 37)], #[3, 3, 3]⟩, none⟩,
  ⟨5, some 39, .unOp .not 4 (T 38), none⟩] []
abbrev b204x12 : BC := .reg [⟨0, some 4, .assign (K 6), none⟩] []
abbrev b204x13 : BC := .reg [⟨0, some 40, .load 25 (T 2), none⟩,
  ⟨1, some 41, .move (T 1), none⟩,
  ⟨2, some 42, .call ⟨.value (.func 227), #[(T 40), (T 41)], #[25, 3]⟩, none⟩,
  ⟨3, some 7, .assign (T 42), none⟩] []
abbrev b204x14 : BC := .reg [⟨0, some 43, .fieldAddr 157 (T 5) 3, none⟩,
  ⟨1, some 44, .load 155 (T 43), none⟩,
  ⟨2, some 45, .call ⟨.builtin .len, #[(T 44)], #[155]⟩, none⟩,
  ⟨3, some 46, .binOp .gtr 3 (T 45) (K 4) 3, none⟩,
  ⟨4, some 47, .move (T 46), none⟩,
  ⟨5, some 48, .move (T 7), some (47, false)⟩,
  ⟨6, some 49, .call ⟨.builtin .len, #[(T 48)], #[155]⟩, some (47, false)⟩,
  ⟨7, some 50, .binOp .gtr 3 (T 49) (K 8) 3, some (47, false)⟩,
  ⟨8, some 51, .pick (T 47) (.const (.bool true)) (T 50), none⟩] []
abbrev b204x15 : BC := .reg [⟨0, some 4, .assign (K 3), none⟩] []
abbrev b204x16 : BC := .reg [⟨0, some 52, .move (T 7), none⟩,
  ⟨1, some 53, .call ⟨.builtin .len, #[(T 52)], #[155]⟩, none⟩,
  ⟨2, some 54, .fieldAddr 157 (T 5) 3, none⟩,
  ⟨3, some 55, .load 155 (T 54), none⟩,
  ⟨4, some 56, .call ⟨.builtin .len, #[(T 55)], #[155]⟩, none⟩,
  ⟨5, some 57, .binOp .sub 3 (T 53) (T 56) 3, none⟩,
  ⟨6, some 8, .assign (T 57), none⟩] []
abbrev b204x17 : BC := .reg [⟨0, some 58, .move (T 8), none⟩,
  ⟨1, some 59, .move (T 7), none⟩,
  ⟨2, some 60, .call ⟨.builtin .len, #[(T 59)], #[155]⟩, none⟩,
  ⟨3, some 61, .binOp .lss 3 (T 58) (T 60) 3, none⟩] []
abbrev b204x18 : BC := .reg [⟨0, some 64, .move (T 7), none⟩,
  ⟨1, some 65, .move (T 8), none⟩,
  ⟨2, some 66, .indexAddr 155 (T 64) (T 65), none⟩,
  ⟨3, some 67, .fieldAddr 160 (T 66) 0, none⟩,
  ⟨4, some 68, .load 9 (T 67), none⟩,
  ⟨5, some 69, .call ⟨.value (.func 154), #[(T 68)], #[9]⟩, none⟩,
  ⟨6, some 70, .unOp .not 4 (T 69), none⟩] []
abbrev b204x19 : BC := .reg [⟨0, some 4, .assign (K 2), none⟩] []
abbrev b204x20 : BC := .reg [⟨0, some 9, .assign (K 0), none⟩] []
abbrev b204x21 : BC := .reg [⟨0, some 71, .move (T 9), none⟩,
  ⟨1, some 72, .move (T 8), none⟩,
  ⟨2, some 73, .binOp .lss 3 (T 71) (T 72) 3, none⟩] []
abbrev b204x22 : BC := .reg [⟨0, some 76, .move (T 7), none⟩,
  ⟨1, some 77, .move (T 9), none⟩,
  ⟨2, some 78, .indexAddr 155 (T 76) (T 77), none⟩,
  ⟨3, some 79, .fieldAddr 160 (T 78) 0, none⟩,
  ⟨4, some 80, .load 9 (T 79), none⟩,
  ⟨5, some 81, .move (T 7), none⟩,
  ⟨6, some 82, .move (T 8), none⟩,
  ⟨7, some 83, .indexAddr 155 (T 81) (T 82), none⟩,
  ⟨8, some 84, .fieldAddr 160 (T 83) 0, none⟩,
  ⟨9, some 85, .load 9 (T 84), none⟩,
  ⟨10, some 86, .binOp .eql 9 (T 80) (T 85) 9, none⟩] [(0, 1), (0, 5), (1, 5), (2, 5), (3, 5), (4, 5), (0, 6), (1, 6), (2, 6), (3, 6), (4, 6), (5, 6), (0, 7), (1, 7), (2, 7), (3, 7), (4, 7), (0, 8), (1, 8), (2, 8), (3, 8), (4, 8), (0, 9), (1, 9), (2, 9), (3, 9), (4, 9)]
abbrev b204x23 : BC := .reg [⟨0, some 4, .assign (K 5), none⟩] []
abbrev b204x24 : BC := .reg [⟨0, some 74, .move (T 9), none⟩,
  ⟨1, some 75, .binOp .add 3 (T 74) (K 1) 3, none⟩,
  ⟨2, some 9, .assign (T 75), none⟩] []
abbrev b204x25 : BC := .seq (.seq b204x21 (.cond (T 73) .skip (.exit 4))) (.seq (.block 5 (.seq b204x22 (.cond (T 86) (.seq b204x23 .ret) .skip))) b204x24)
abbrev b204x26 : BC := .loop b204x25
abbrev b204x27 : BC := .reg [⟨0, some 87, .move (T 7), none⟩,
  ⟨1, some 88, .move (T 8), none⟩,
  ⟨2, some 89, .indexAddr 155 (T 87) (T 88), none⟩,
  ⟨3, some 90, .load 160 (T 89), none⟩,
  ⟨4, some 91, .call ⟨.value (.func 277), #[(T 90)], #[160]⟩, none⟩,
  ⟨5, some 10, .assign (T 91), none⟩] []
abbrev b204x28 : BC := .reg [⟨0, some 92, .move (T 10), none⟩,
  ⟨1, some 93, .binOp .neq 38 (T 92) (K 0) 38, none⟩] []
abbrev b204x29 : BC := .reg [⟨0, some 94, .move (T 10), none⟩,
  ⟨1, some 4, .assign (T 94), none⟩] []
abbrev b204x30 : BC := .seq (.seq b204x20 (.block 4 b204x26)) (.seq b204x27 (.seq b204x28 (.cond (T 93) (.seq b204x29 .ret) .skip)))
abbrev b204x31 : BC := .reg [⟨0, some 62, .move (T 8), none⟩,
  ⟨1, some 63, .binOp .add 3 (T 62) (K 1) 3, none⟩,
  ⟨2, some 8, .assign (T 63), none⟩] []
abbrev b204x32 : BC := .seq (.seq b204x17 (.cond (T 61) .skip (.exit 2))) (.seq (.block 3 (.seq (.seq b204x18 (.cond (T 70) (.seq b204x19 .ret) .skip)) b204x30)) b204x31)
abbrev b204x33 : BC := .loop b204x32
abbrev b204x34 : BC := .reg [⟨0, some 4, .assign (K 0), none⟩] []
abbrev b204x35 : BC := .seq (.seq b204x14 (.cond (T 51) (.seq b204x15 .ret) .skip)) (.seq (.seq b204x16 (.block 2 b204x33)) (.seq b204x34 .ret))
abbrev b204x36 : BC := .seq (.seq b204x4 (.block 0 b204x10)) (.seq (.seq b204x11 (.cond (T 39) (.seq b204x12 .ret) .skip)) (.seq b204x13 b204x35))
abbrev b204 : BC := .seq b204x0 (.seq b204x1 (.seq (.seq b204x2 (.cond (T 19) (.seq b204x3 .ret) .skip)) b204x36))
theorem c204 : Tryz.f204.body.bind (compile Tryz.f204.ntmps) = some b204 := by kernel_rfl
theorem ok204 : EntryOK Tryz.prog (204, ⟨95, b204, #[.tmp 4]⟩) := ⟨Tryz.f204, Tryz.func204, c204, Tryz.ntmps204, by kernel_rfl, Tryz.call204⟩
/-! scarfjoint/scarfjointref04.edge -/
abbrev b205x0 : BC := .reg [⟨0, some 2, .box 25 (T 0), none⟩,
  ⟨1, some 4, .assign (K 0), none⟩] []
abbrev b205x1 : BC := .reg [⟨0, some 8, .fieldAddr 25 (T 2) 1, none⟩,
  ⟨1, some 9, .load 23 (T 8), none⟩,
  ⟨2, some 10, .move (T 1), none⟩,
  ⟨3, some 11, .indexAddr 23 (T 9) (T 10), none⟩,
  ⟨4, some 12, .load 81 (T 11), none⟩,
  ⟨5, some 5, .alloc 81, none⟩,
  ⟨6, none, .store 81 (T 5) (T 12), none⟩] []
abbrev b205x2 : BC := .reg [⟨0, some 13, .fieldAddr 81 (T 5) 0, none⟩,
  ⟨1, some 14, .load 9 (T 13), none⟩,
  ⟨2, some 15, .call ⟨.value (.func 154), #[(T 14)], #[9]⟩, none⟩,
  ⟨3, some 16, .unOp .not 4 (T 15), none⟩] []
abbrev b205x3 : BC := .reg [⟨0, some 4, .assign (K 2), none⟩] []
abbrev b205x4 : BC := .reg [⟨0, some 6, .assign (K 0), none⟩] []
abbrev b205x5 : BC := .reg [⟨0, some 17, .move (T 6), none⟩,
  ⟨1, some 18, .move (T 1), none⟩,
  ⟨2, some 19, .binOp .lss 3 (T 17) (T 18) 3, none⟩] []
abbrev b205x6 : BC := .reg [⟨0, some 22, .fieldAddr 25 (T 2) 1, none⟩,
  ⟨1, some 23, .load 23 (T 22), none⟩,
  ⟨2, some 24, .move (T 6), none⟩,
  ⟨3, some 25, .indexAddr 23 (T 23) (T 24), none⟩,
  ⟨4, some 26, .fieldAddr 81 (T 25) 0, none⟩,
  ⟨5, some 27, .load 9 (T 26), none⟩,
  ⟨6, some 28, .fieldAddr 81 (T 5) 0, none⟩,
  ⟨7, some 29, .load 9 (T 28), none⟩,
  ⟨8, some 30, .binOp .eql 9 (T 27) (T 29) 9, none⟩] [(0, 2), (1, 2), (0, 6), (1, 6), (2, 6), (3, 6), (4, 6), (5, 6), (0, 7), (1, 7), (2, 7), (3, 7), (4, 7), (5, 7)]
abbrev b205x7 : BC := .reg [⟨0, some 4, .assign (K 5), none⟩] []
abbrev b205x8 : BC := .reg [⟨0, some 20, .move (T 6), none⟩,
  ⟨1, some 21, .binOp .add 3 (T 20) (K 1) 3, none⟩,
  ⟨2, some 6, .assign (T 21), none⟩] []
abbrev b205x9 : BC := .seq (.seq b205x5 (.cond (T 19) .skip (.exit 0))) (.seq (.block 1 (.seq b205x6 (.cond (T 30) (.seq b205x7 .ret) .skip))) b205x8)
abbrev b205x10 : BC := .loop b205x9
abbrev b205x11 : BC := .reg [⟨0, some 31, .fieldAddr 25 (T 2) 0, none⟩,
  ⟨1, some 32, .load 22 (T 31), none⟩,
  ⟨2, some 33, .call ⟨.builtin .len, #[(T 32)], #[22]⟩, none⟩,
  ⟨3, some 34, .binOp .sub 3 (T 33) (K 1) 3, none⟩,
  ⟨4, some 7, .assign (T 34), none⟩] []
abbrev b205x12 : BC := .reg [⟨0, some 35, .fieldAddr 81 (T 5) 1, none⟩,
  ⟨1, some 36, .load 3 (T 35), none⟩,
  ⟨2, some 37, .move (T 7), none⟩,
  ⟨3, some 38, .call ⟨.value (.func 216), #[(T 36), (K 0), (T 37)], #[3, 3, 3]⟩, none⟩,
  ⟨4, some 39, .unOp .not 4 (T 38), none⟩,
  ⟨5, some 40, .move (T 39), none⟩,
  ⟨6, some 41, .fieldAddr 81 (T 5) 2, some (40, false)⟩,
  ⟨7, some 42, .load 3 (T 41), some (40, false)⟩,
  ⟨8, some 43, .move (T 7), some (40, false)⟩,
  ⟨9, some 44, .call ⟨.value (.func 216), #[(T 42), (K 0), (T 43)], #[3, 3, 3]⟩, some (40, false)⟩,
  ⟨10, some 45, .unOp .not 4 (T 44), some (40, false)⟩,
  ⟨11, some 46, .pick (T 40) (.const (.bool true)) (T 45), none⟩,
  ⟨12, some 47, .move (T 46), none⟩,
  ⟨13, some 48, .fieldAddr 81 (T 5) 3, some (47, false)⟩,
  ⟨14, some 49, .load 3 (T 48), some (47, false)⟩,
  ⟨15, some 50, .fieldAddr 81 (T 5) 4, some (47, false)⟩,
  ⟨16, some 51, .load 3 (T 50), some (47, false)⟩,
  ⟨17, some 52, .call ⟨.value (.func 278), #[(T 49), (T 51)], #[3, 3]⟩, some (47, false)⟩,
  ⟨18, some 53, .unOp .not 4 (T 52), some (47, false)⟩,
  ⟨19, some 54, .pick (T 47) (.const (.bool true)) (T 53), none⟩,
  ⟨20, some 55, .move (T 54), none⟩,
  ⟨21, some 56, .fieldAddr 81 (T 5) 5, some (55, false)⟩,
  ⟨22, some 57, .load 3 (T 56), some (55, false)⟩,
  ⟨23, some 58, .fieldAddr 81 (T 5) 6, some (55, false)⟩,
  ⟨24, some 59, .load 3 (T 58), some (55, false)⟩,
  ⟨25, some 60, .call ⟨.value (.func 278), #[(T 57), (T 59)], #[3, 3]⟩, some (55, false)⟩,
  ⟨26, some 61, .unOp .not 4 (T 60), some (55, false)⟩,
  ⟨27, some 62, .pick (T 55) (.const (.bool true)) (T 61), none⟩] []
abbrev b205x13 : BC := .reg [⟨0, some 4, .assign (K 6), none⟩] []
abbrev b205x14 : BC := .reg [⟨0, some 4, .assign (K 0), none⟩] []
abbrev b205x15 : BC := .seq (.seq b205x4 (.block 0 b205x10)) (.seq b205x11 (.seq (.seq b205x12 (.cond (T 62) (.seq b205x13 .ret) .skip)) (.seq b205x14 .ret)))
abbrev b205 : BC := .seq b205x0 (.seq b205x1 (.seq (.seq b205x2 (.cond (T 16) (.seq b205x3 .ret) .skip)) b205x15))
theorem c205 : Tryz.f205.body.bind (compile Tryz.f205.ntmps) = some b205 := by kernel_rfl
theorem ok205 : EntryOK Tryz.prog (205, ⟨63, b205, #[.tmp 4]⟩) := ⟨Tryz.f205, Tryz.func205, c205, Tryz.ntmps205, by kernel_rfl, Tryz.call205⟩
/-! scarfjoint/scarfjointref05.kind -/
abbrev b206x0 : BC := .reg [⟨0, some 2, .assign (.const (.bool false)), none⟩] []
abbrev b206x1 : BC := .reg [⟨0, some 3, .move (T 0), none⟩,
  ⟨1, some 4, .binOp .geq 3 (T 3) (K 0) 3, none⟩,
  ⟨2, some 5, .move (T 4), none⟩,
  ⟨3, some 6, .move (T 0), some (5, true)⟩,
  ⟨4, some 7, .binOp .leq 3 (T 6) (K 99) 3, some (5, true)⟩,
  ⟨5, some 8, .pick (T 5) (T 7) (.const (.bool false)), none⟩,
  ⟨6, some 2, .assign (T 8), none⟩] []
abbrev b206 : BC := .seq b206x0 (.seq b206x1 .ret)
theorem c206 : Tryz.f206.body.bind (compile Tryz.f206.ntmps) = some b206 := by kernel_rfl
theorem ok206 : EntryOK Tryz.prog (206, ⟨9, b206, #[.tmp 2]⟩) := ⟨Tryz.f206, Tryz.func206, c206, Tryz.ntmps206, by kernel_rfl, Tryz.call206⟩
/-! scarfjoint/scarfjointref05.right -/
abbrev b207x0 : BC := .reg [⟨0, some 2, .box 84 (T 0), none⟩,
  ⟨1, some 4, .assign (.const (.bool false)), none⟩] []
abbrev b207x1 : BC := .reg [⟨0, some 5, .fieldAddr 84 (T 2) 0, none⟩,
  ⟨1, some 6, .load 3 (T 5), none⟩,
  ⟨2, some 7, .call ⟨.value (.func 206), #[(T 6)], #[3]⟩, none⟩,
  ⟨3, some 8, .move (T 7), none⟩,
  ⟨4, some 9, .fieldAddr 84 (T 2) 1, some (8, true)⟩,
  ⟨5, some 10, .load 3 (T 9), some (8, true)⟩,
  ⟨6, some 11, .binOp .geq 3 (T 10) (K 0) 3, some (8, true)⟩,
  ⟨7, some 12, .pick (T 8) (T 11) (.const (.bool false)), none⟩,
  ⟨8, some 13, .move (T 12), none⟩,
  ⟨9, some 14, .fieldAddr 84 (T 2) 1, some (13, true)⟩,
  ⟨10, some 15, .load 3 (T 14), some (13, true)⟩,
  ⟨11, some 16, .move (T 1), some (13, true)⟩,
  ⟨12, some 17, .binOp .lss 3 (T 15) (T 16) 3, some (13, true)⟩,
  ⟨13, some 18, .pick (T 13) (T 17) (.const (.bool false)), none⟩,
  ⟨14, some 19, .move (T 18), none⟩,
  ⟨15, some 20, .fieldAddr 84 (T 2) 2, some (19, true)⟩,
  ⟨16, some 21, .load 3 (T 20), some (19, true)⟩,
  ⟨17, some 22, .binOp .geq 3 (T 21) (K 0) 3, some (19, true)⟩,
  ⟨18, some 23, .pick (T 19) (T 22) (.const (.bool false)), none⟩,
  ⟨19, some 24, .move (T 23), none⟩,
  ⟨20, some 25, .fieldAddr 84 (T 2) 2, some (24, true)⟩,
  ⟨21, some 26, .load 3 (T 25), some (24, true)⟩,
  ⟨22, some 27, .move (T 1), some (24, true)⟩,
  ⟨23, some 28, .binOp .lss 3 (T 26) (T 27) 3, some (24, true)⟩,
  ⟨24, some 29, .pick (T 24) (T 28) (.const (.bool false)), none⟩,
  ⟨25, some 4, .assign (T 29), none⟩] []
abbrev b207 : BC := .seq b207x0 (.seq b207x1 .ret)
theorem c207 : Tryz.f207.body.bind (compile Tryz.f207.ntmps) = some b207 := by kernel_rfl
theorem ok207 : EntryOK Tryz.prog (207, ⟨30, b207, #[.tmp 4]⟩) := ⟨Tryz.f207, Tryz.func207, c207, Tryz.ntmps207, by kernel_rfl, Tryz.call207⟩
/-! slices.IndexFunc[[]scarfjoint/api.Host,scarfjoint/api.Host] -/
abbrev b212x0 : BC := .reg [⟨0, some 4, .assign (K 0), none⟩] []
abbrev b212x1 : BC := .reg [⟨0, some 6, .move (T 0), none⟩,
  ⟨1, some 7, .call ⟨.builtin .len, #[(T 6)], #[190]⟩, none⟩,
  ⟨2, some 8, .move (K 0), none⟩] []
abbrev b212x2 : BC := .reg [⟨0, some 9, .binOp .lss 3 (T 8) (T 7) 3, none⟩] []
abbrev b212x3 : BC := .reg [⟨0, some 10, .move (T 8), none⟩,
  ⟨1, some 5, .assign (T 10), none⟩] []
abbrev b212x4 : BC := .reg [⟨0, some 11, .move (T 1), none⟩,
  ⟨1, some 12, .move (T 0), none⟩,
  ⟨2, some 13, .move (T 5), none⟩,
  ⟨3, some 14, .indexAddr 190 (T 12) (T 13), none⟩,
  ⟨4, some 15, .load 55 (T 14), none⟩,
  ⟨5, some 16, .call ⟨.value (T 11), #[(T 15)], #[55]⟩, none⟩] []
abbrev b212x5 : BC := .reg [⟨0, some 17, .move (T 5), none⟩,
  ⟨1, some 4, .assign (T 17), none⟩] []
abbrev b212x6 : BC := .reg [⟨0, some 18, .binOp .add 3 (T 8) (K 1) 3, none⟩,
  ⟨1, some 8, .move (T 18), none⟩] []
abbrev b212x7 : BC := .seq (.cond (T 9) .skip (.exit 0)) (.seq (.block 1 (.seq b212x3 (.seq b212x4 (.cond (T 16) (.seq b212x5 .ret) .skip)))) b212x6)
abbrev b212x8 : BC := .loop (.seq b212x2 b212x7)
abbrev b212x9 : BC := .reg [⟨0, some 4, .assign (K (-1)), none⟩] []
abbrev b212 : BC := .seq b212x0 (.seq (.seq b212x1 (.block 0 b212x8)) (.seq b212x9 .ret))
theorem c212 : Tryz.f212.body.bind (compile Tryz.f212.ntmps) = some b212 := by kernel_rfl
theorem ok212 : EntryOK Tryz.prog (212, ⟨19, b212, #[.tmp 4]⟩) := ⟨Tryz.f212, Tryz.func212, c212, Tryz.ntmps212, by kernel_rfl, Tryz.call212⟩
/-! scarfjoint/scarfjointref04.given -/
abbrev b215x0 : BC := .reg [⟨0, some 3, .box 25 (T 0), none⟩,
  ⟨1, some 6, .assign (K 0), none⟩] []
abbrev b215x1 : BC := .reg [⟨0, some 10, .load 25 (T 3), none⟩,
  ⟨1, some 11, .call ⟨.value (.func 99), #[(T 10)], #[25]⟩, none⟩,
  ⟨2, some 9, .move (T 11), none⟩,
  ⟨3, some 12, .extract (T 9) 0, none⟩,
  ⟨4, some 13, .extract (T 9) 1, none⟩,
  ⟨5, some 7, .assign (T 12), none⟩,
  ⟨6, some 8, .assign (T 13), none⟩] []
abbrev b215x2 : BC := .reg [⟨0, some 14, .move (T 8), none⟩,
  ⟨1, some 15, .binOp .neq 38 (T 14) (K 0) 38, none⟩] []
abbrev b215x3 : BC := .reg [⟨0, some 16, .move (T 8), none⟩,
  ⟨1, some 6, .assign (T 16), none⟩] []
abbrev b215x4 : BC := .reg [⟨0, some 17, .move (T 1), none⟩,
  ⟨1, some 18, .fieldAddr 25 (T 3) 0, none⟩,
  ⟨2, some 19, .load 22 (T 18), none⟩,
  ⟨3, some 20, .call ⟨.builtin .len, #[(T 19)], #[22]⟩, none⟩,
  ⟨4, some 21, .binOp .sub 3 (T 20) (K 1) 3, none⟩,
  ⟨5, some 22, .call ⟨.value (.func 216), #[(T 17), (K 0), (T 21)], #[3, 3, 3]⟩, none⟩,
  ⟨6, some 23, .unOp .not 4 (T 22), none⟩,
  ⟨7, some 24, .move (T 23), none⟩,
  ⟨8, some 25, .move (T 2), some (24, false)⟩,
  ⟨9, some 26, .fieldAddr 25 (T 3) 0, some (24, false)⟩,
  ⟨10, some 27, .load 22 (T 26), some (24, false)⟩,
  ⟨11, some 28, .call ⟨.builtin .len, #[(T 27)], #[22]⟩, some (24, false)⟩,
  ⟨12, some 29, .binOp .sub 3 (T 28) (K 1) 3, some (24, false)⟩,
  ⟨13, some 30, .call ⟨.value (.func 216), #[(T 25), (K 0), (T 29)], #[3, 3, 3]⟩, some (24, false)⟩,
  ⟨14, some 31, .unOp .not 4 (T 30), some (24, false)⟩,
  ⟨15, some 32, .pick (T 24) (.const (.bool true)) (T 31), none⟩] []
abbrev b215x5 : BC := .reg [⟨0, some 6, .assign (K 6), none⟩] []
abbrev b215x6 : BC := .reg [⟨0, some 6, .assign (K 0), none⟩] []
abbrev b215x7 : BC := .seq (.seq b215x1 (.seq b215x2 (.cond (T 15) (.seq b215x3 .ret) .skip))) (.seq (.seq b215x4 (.cond (T 32) (.seq b215x5 .ret) .skip)) (.seq b215x6 .ret))
abbrev b215 : BC := .seq b215x0 b215x7
theorem c215 : Tryz.f215.body.bind (compile Tryz.f215.ntmps) = some b215 := by kernel_rfl
theorem ok215 : EntryOK Tryz.prog (215, ⟨33, b215, #[.tmp 6]⟩) := ⟨Tryz.f215, Tryz.func215, c215, Tryz.ntmps215, by kernel_rfl, Tryz.call215⟩
/-! scarfjoint/scarfjointref04.in -/
abbrev b216x0 : BC := .reg [⟨0, some 6, .assign (.const (.bool false)), none⟩] []
abbrev b216x1 : BC := .reg [⟨0, some 7, .move (T 0), none⟩,
  ⟨1, some 8, .move (T 1), none⟩,
  ⟨2, some 9, .binOp .geq 3 (T 7) (T 8) 3, none⟩,
  ⟨3, some 10, .move (T 9), none⟩,
  ⟨4, some 11, .move (T 0), some (10, true)⟩,
  ⟨5, some 12, .move (T 2), some (10, true)⟩,
  ⟨6, some 13, .binOp .leq 3 (T 11) (T 12) 3, some (10, true)⟩,
  ⟨7, some 14, .pick (T 10) (T 13) (.const (.bool false)), none⟩,
  ⟨8, some 6, .assign (T 14), none⟩] []
abbrev b216 : BC := .seq b216x0 (.seq b216x1 .ret)
theorem c216 : Tryz.f216.body.bind (compile Tryz.f216.ntmps) = some b216 := by kernel_rfl
theorem ok216 : EntryOK Tryz.prog (216, ⟨15, b216, #[.tmp 6]⟩) := ⟨Tryz.f216, Tryz.func216, c216, Tryz.ntmps216, by kernel_rfl, Tryz.call216⟩
/-! scarfjoint/scarfjointref04.attrs -/
abbrev b227x0 : BC := .reg [⟨0, some 2, .box 25 (T 0), none⟩,
  ⟨1, some 4, .assign (.const (.slice none 0 0)), none⟩] []
abbrev b227x1 : BC := .reg [⟨0, some 5, .move (T 1), none⟩,
  ⟨1, some 6, .binOp .lss 3 (T 5) (K 0) 3, none⟩] []
abbrev b227x2 : BC := .reg [⟨0, some 4, .assign (.const (.slice none 0 0)), none⟩] []
abbrev b227x3 : BC := .reg [⟨0, some 7, .buildSlice 155 0 #[], none⟩,
  ⟨1, some 8, .load 25 (T 2), none⟩,
  ⟨2, some 9, .fieldAddr 25 (T 2) 0, none⟩,
  ⟨3, some 10, .load 22 (T 9), none⟩,
  ⟨4, some 11, .move (T 1), none⟩,
  ⟨5, some 12, .indexAddr 22 (T 10) (T 11), none⟩,
  ⟨6, some 13, .fieldAddr 157 (T 12) 1, none⟩,
  ⟨7, some 14, .load 3 (T 13), none⟩,
  ⟨8, some 15, .call ⟨.value (.func 227), #[(T 8), (T 14)], #[25, 3]⟩, none⟩,
  ⟨9, some 16, .call ⟨.builtin .append, #[(T 7), (T 15)], #[155, 155]⟩, none⟩,
  ⟨10, some 17, .fieldAddr 25 (T 2) 0, none⟩,
  ⟨11, some 18, .load 22 (T 17), none⟩,
  ⟨12, some 19, .move (T 1), none⟩,
  ⟨13, some 20, .indexAddr 22 (T 18) (T 19), none⟩,
  ⟨14, some 21, .fieldAddr 157 (T 20) 3, none⟩,
  ⟨15, some 22, .load 155 (T 21), none⟩,
  ⟨16, some 23, .call ⟨.builtin .append, #[(T 16), (T 22)], #[155, 155]⟩, none⟩,
  ⟨17, some 4, .assign (T 23), none⟩] [(0, 1), (0, 2), (1, 2), (0, 3), (1, 3), (0, 4), (1, 4), (2, 4), (3, 4), (0, 5), (1, 5), (0, 6), (1, 6), (0, 7), (1, 7), (0, 8), (0, 10), (1, 10), (2, 10), (3, 10), (4, 10), (5, 10), (6, 10), (7, 10), (8, 10), (9, 10), (0, 11), (1, 11), (2, 11), (3, 11), (4, 11), (5, 11), (6, 11), (7, 11), (8, 11), (9, 11), (0, 12), (1, 12), (2, 12), (3, 12), (4, 12), (5, 12), (6, 12), (7, 12), (8, 12), (9, 12), (10, 12), (11, 12), (0, 13), (1, 13), (2, 13), (3, 13), (4, 13), (5, 13), (6, 13), (7, 13), (8, 13), (9, 13), (0, 14), (1, 14), (2, 14), (3, 14), (4, 14), (5, 14), (6, 14), (7, 14), (8, 14), (9, 14), (0, 15), (1, 15), (2, 15), (3, 15), (4, 15), (5, 15), (6, 15), (7, 15), (8, 15), (9, 15)]
abbrev b227 : BC := .seq b227x0 (.seq (.seq b227x1 (.cond (T 6) (.seq b227x2 .ret) .skip)) (.seq b227x3 .ret))
theorem c227 : Tryz.f227.body.bind (compile Tryz.f227.ntmps) = some b227 := by kernel_rfl
theorem ok227 : EntryOK Tryz.prog (227, ⟨24, b227, #[.tmp 4]⟩) := ⟨Tryz.f227, Tryz.func227, c227, Tryz.ntmps227, by kernel_rfl, Tryz.call227⟩
/-! scarfjoint/scarfjointref01.Right -/
abbrev b250x0 : BC := .reg [⟨0, some 1, .box 305 (T 0), none⟩,
  ⟨1, some 2, .assign (.const (.bool false)), none⟩] []
abbrev b250x1 : BC := .reg [⟨0, some 7, .load 305 (T 1), none⟩,
  ⟨1, some 8, .call ⟨.value (.func 301), #[(T 7)], #[305]⟩, none⟩,
  ⟨2, some 3, .assign (T 8), none⟩] []
abbrev b250x2 : BC := .reg [⟨0, some 9, .move (T 3), none⟩,
  ⟨1, some 10, .binOp .eql 9 (T 9) (.const (.string ⟨#[]⟩)) 9, none⟩] []
abbrev b250x3 : BC := .reg [⟨0, some 2, .assign (.const (.bool false)), none⟩] []
abbrev b250x4 : BC := .reg [⟨0, some 12, .move (T 3), none⟩,
  ⟨1, some 13, .call ⟨.value (.func 302), #[(T 12), (K 0)], #[9, 3]⟩, none⟩,
  ⟨2, some 11, .move (T 13), none⟩,
  ⟨3, some 14, .extract (T 11) 0, none⟩,
  ⟨4, some 15, .extract (T 11) 1, none⟩,
  ⟨5, some 16, .extract (T 11) 2, none⟩,
  ⟨6, some 4, .alloc 305, none⟩,
  ⟨7, none, .store 305 (T 4) (T 14), none⟩,
  ⟨8, some 5, .assign (T 15), none⟩,
  ⟨9, some 6, .assign (T 16), none⟩] []
abbrev b250x5 : BC := .reg [⟨0, some 17, .move (T 6), none⟩,
  ⟨1, some 18, .binOp .eql 38 (T 17) (K 0) 38, none⟩,
  ⟨2, some 19, .move (T 18), none⟩,
  ⟨3, some 20, .move (T 5), some (19, true)⟩,
  ⟨4, some 21, .move (T 3), some (19, true)⟩,
  ⟨5, some 22, .call ⟨.builtin .len, #[(T 21)], #[9]⟩, some (19, true)⟩,
  ⟨6, some 23, .binOp .eql 3 (T 20) (T 22) 3, some (19, true)⟩,
  ⟨7, some 24, .pick (T 19) (T 23) (.const (.bool false)), none⟩,
  ⟨8, some 25, .move (T 24), none⟩,
  ⟨9, some 26, .fieldAddr 305 (T 4) 0, some (25, true)⟩,
  ⟨10, some 27, .load 3 (T 26), some (25, true)⟩,
  ⟨11, some 28, .fieldAddr 305 (T 1) 0, some (25, true)⟩,
  ⟨12, some 29, .load 3 (T 28), some (25, true)⟩,
  ⟨13, some 30, .binOp .eql 3 (T 27) (T 29) 3, some (25, true)⟩,
  ⟨14, some 31, .pick (T 25) (T 30) (.const (.bool false)), none⟩,
  ⟨15, some 2, .assign (T 31), none⟩] []
abbrev b250x6 : BC := .seq b250x1 (.seq (.seq b250x2 (.cond (T 10) (.seq b250x3 .ret) .skip)) (.seq b250x4 (.seq b250x5 .ret)))
abbrev b250 : BC := .seq b250x0 b250x6
theorem c250 : Tryz.f250.body.bind (compile Tryz.f250.ntmps) = some b250 := by kernel_rfl
theorem ok250 : EntryOK Tryz.prog (250, ⟨32, b250, #[.tmp 2]⟩) := ⟨Tryz.f250, Tryz.func250, c250, Tryz.ntmps250, by kernel_rfl, Tryz.call250⟩
/-! scarfjoint/scarfjointref04.attribute -/
abbrev b277x0 : BC := .reg [⟨0, some 1, .box 160 (T 0), none⟩,
  ⟨1, some 2, .assign (K 0), none⟩] []
abbrev b277x1 : BC := .reg [⟨0, some 4, .fieldAddr 160 (T 1) 3, none⟩,
  ⟨1, some 5, .load 158 (T 4), none⟩,
  ⟨2, some 6, .call ⟨.builtin .len, #[(T 5)], #[158]⟩, none⟩,
  ⟨3, some 7, .binOp .eql 3 (T 6) (K 0) 3, none⟩] []
abbrev b277x2 : BC := .reg [⟨0, some 8, .fieldAddr 160 (T 1) 1, none⟩,
  ⟨1, some 9, .load 3 (T 8), none⟩,
  ⟨2, some 10, .call ⟨.value (.func 216), #[(T 9), (K (-1000000)), (K 1000000)], #[3, 3, 3]⟩, none⟩,
  ⟨3, some 11, .unOp .not 4 (T 10), none⟩,
  ⟨4, some 12, .move (T 11), none⟩,
  ⟨5, some 13, .fieldAddr 160 (T 1) 2, some (12, false)⟩,
  ⟨6, some 14, .load 3 (T 13), some (12, false)⟩,
  ⟨7, some 15, .fieldAddr 160 (T 1) 1, some (12, false)⟩,
  ⟨8, some 16, .load 3 (T 15), some (12, false)⟩,
  ⟨9, some 17, .call ⟨.value (.func 216), #[(T 14), (T 16), (K 1000000)], #[3, 3, 3]⟩, some (12, false)⟩,
  ⟨10, some 18, .unOp .not 4 (T 17), some (12, false)⟩,
  ⟨11, some 19, .pick (T 12) (.const (.bool true)) (T 18), none⟩] []
abbrev b277x3 : BC := .reg [⟨0, some 2, .assign (K 6), none⟩] []
abbrev b277x4 : BC := .reg [⟨0, some 2, .assign (K 0), none⟩] []
abbrev b277x5 : BC := .seq b277x1 (.cond (T 7) (.seq (.seq b277x2 (.cond (T 19) (.seq b277x3 .ret) .skip)) (.seq b277x4 .ret)) .skip)
abbrev b277x6 : BC := .reg [⟨0, some 20, .fieldAddr 160 (T 1) 3, none⟩,
  ⟨1, some 21, .load 158 (T 20), none⟩,
  ⟨2, some 22, .call ⟨.value (.func 331), #[(T 21)], #[158]⟩, none⟩,
  ⟨3, some 3, .assign (T 22), none⟩] []
abbrev b277x7 : BC := .reg [⟨0, some 23, .move (T 3), none⟩,
  ⟨1, some 24, .binOp .neq 38 (T 23) (K 0) 38, none⟩] []
abbrev b277x8 : BC := .reg [⟨0, some 25, .move (T 3), none⟩,
  ⟨1, some 2, .assign (T 25), none⟩] []
abbrev b277x9 : BC := .reg [⟨0, some 26, .fieldAddr 160 (T 1) 1, none⟩,
  ⟨1, some 27, .load 3 (T 26), none⟩,
  ⟨2, some 28, .binOp .neq 3 (T 27) (K 0) 3, none⟩,
  ⟨3, some 29, .move (T 28), none⟩,
  ⟨4, some 30, .fieldAddr 160 (T 1) 2, some (29, false)⟩,
  ⟨5, some 31, .load 3 (T 30), some (29, false)⟩,
  ⟨6, some 32, .fieldAddr 160 (T 1) 3, some (29, false)⟩,
  ⟨7, some 33, .load 158 (T 32), some (29, false)⟩,
  ⟨8, some 34, .call ⟨.builtin .len, #[(T 33)], #[158]⟩, some (29, false)⟩,
  ⟨9, some 35, .binOp .sub 3 (T 34) (K 1) 3, some (29, false)⟩,
  ⟨10, some 36, .binOp .neq 3 (T 31) (T 35) 3, some (29, false)⟩,
  ⟨11, some 37, .pick (T 29) (.const (.bool true)) (T 36), none⟩] []
abbrev b277x10 : BC := .reg [⟨0, some 2, .assign (K 6), none⟩] []
abbrev b277x11 : BC := .reg [⟨0, some 2, .assign (K 0), none⟩] []
abbrev b277x12 : BC := .seq (.seq b277x6 (.seq b277x7 (.cond (T 24) (.seq b277x8 .ret) .skip))) (.seq (.seq b277x9 (.cond (T 37) (.seq b277x10 .ret) .skip)) (.seq b277x11 .ret))
abbrev b277 : BC := .seq b277x0 (.seq b277x5 b277x12)
theorem c277 : Tryz.f277.body.bind (compile Tryz.f277.ntmps) = some b277 := by kernel_rfl
theorem ok277 : EntryOK Tryz.prog (277, ⟨38, b277, #[.tmp 2]⟩) := ⟨Tryz.f277, Tryz.func277, c277, Tryz.ntmps277, by kernel_rfl, Tryz.call277⟩
/-! scarfjoint/scarfjointref04.bound -/
abbrev b278x0 : BC := .reg [⟨0, some 4, .assign (.const (.bool false)), none⟩] []
abbrev b278x1 : BC := .reg [⟨0, some 5, .move (T 0), none⟩,
  ⟨1, some 6, .call ⟨.value (.func 216), #[(T 5), (K 0), (K 40)], #[3, 3, 3]⟩, none⟩,
  ⟨2, some 7, .move (T 6), none⟩,
  ⟨3, some 8, .move (T 1), some (7, true)⟩,
  ⟨4, some 9, .binOp .eql 3 (T 8) (K (-1)) 3, some (7, true)⟩,
  ⟨5, some 10, .move (T 9), some (7, true)⟩,
  ⟨6, some 11, .move (T 1), some (10, false)⟩,
  ⟨7, some 12, .move (T 0), some (10, false)⟩,
  ⟨8, some 13, .call ⟨.value (.func 216), #[(T 11), (T 12), (K 40)], #[3, 3, 3]⟩, some (10, false)⟩,
  ⟨9, some 14, .pick (T 10) (.const (.bool true)) (T 13), some (7, true)⟩,
  ⟨10, some 15, .pick (T 7) (T 14) (.const (.bool false)), none⟩,
  ⟨11, some 4, .assign (T 15), none⟩] []
abbrev b278 : BC := .seq b278x0 (.seq b278x1 .ret)
theorem c278 : Tryz.f278.body.bind (compile Tryz.f278.ntmps) = some b278 := by kernel_rfl
theorem ok278 : EntryOK Tryz.prog (278, ⟨16, b278, #[.tmp 4]⟩) := ⟨Tryz.f278, Tryz.func278, c278, Tryz.ntmps278, by kernel_rfl, Tryz.call278⟩
/-! scarfjoint/scarfjointref01.text -/
abbrev b301x0 : BC := .reg [⟨0, some 1, .box 305 (T 0), none⟩,
  ⟨1, some 2, .assign (.const (.string ⟨#[]⟩)), none⟩] []
abbrev b301x1 : BC := .reg [⟨0, some 3, .fieldAddr 305 (T 1) 0, none⟩,
  ⟨1, some 4, .load 3 (T 3), none⟩,
  ⟨2, some 5, .binOp .eql 3 (T 4) (K 3) 3, none⟩] []
abbrev b301x2 : BC := .reg [⟨0, some 6, .fieldAddr 305 (T 1) 1, none⟩,
  ⟨1, some 7, .load 9 (T 6), none⟩,
  ⟨2, some 8, .binOp .add 9 (.const (.string ⟨#[34]⟩)) (T 7) 9, none⟩,
  ⟨3, some 9, .binOp .add 9 (T 8) (.const (.string ⟨#[34]⟩)) 9, none⟩,
  ⟨4, some 2, .assign (T 9), none⟩] []
abbrev b301x3 : BC := .reg [⟨0, some 10, .fieldAddr 305 (T 1) 1, none⟩,
  ⟨1, some 11, .load 9 (T 10), none⟩,
  ⟨2, some 2, .assign (T 11), none⟩] []
abbrev b301 : BC := .seq b301x0 (.seq (.seq b301x1 (.cond (T 5) (.seq b301x2 .ret) .skip)) (.seq b301x3 .ret))
theorem c301 : Tryz.f301.body.bind (compile Tryz.f301.ntmps) = some b301 := by kernel_rfl
theorem ok301 : EntryOK Tryz.prog (301, ⟨12, b301, #[.tmp 2]⟩) := ⟨Tryz.f301, Tryz.func301, c301, Tryz.ntmps301, by kernel_rfl, Tryz.call301⟩
/-! scarfjoint/scarfjointref01.one -/
abbrev b302x0 : BC := .reg [⟨0, some 4, .alloc 305, none⟩,
  ⟨1, some 5, .assign (K 0), none⟩,
  ⟨2, some 6, .assign (K 0), none⟩] []
abbrev b302x1 : BC := .reg [⟨0, some 14, .move (T 0), none⟩,
  ⟨1, some 15, .move (T 1), none⟩,
  ⟨2, some 16, .index 9 (T 14) (T 15), none⟩,
  ⟨3, some 7, .assign (T 16), none⟩] []
abbrev b302x2 : BC := .reg [⟨0, some 17, .move (T 7), none⟩,
  ⟨1, some 18, .call ⟨.value (.func 353), #[(T 17)], #[5]⟩, none⟩,
  ⟨2, some 19, .move (T 18), none⟩,
  ⟨3, some 20, .move (T 7), some (19, false)⟩,
  ⟨4, some 21, .call ⟨.value (.func 354), #[(T 20)], #[5]⟩, some (19, false)⟩,
  ⟨5, some 22, .pick (T 19) (.const (.bool true)) (T 21), none⟩] []
abbrev b302x3 : BC := .reg [⟨0, some 23, .move (T 0), none⟩,
  ⟨1, some 24, .move (T 1), none⟩,
  ⟨2, some 25, .move (T 7), none⟩,
  ⟨3, some 26, .call ⟨.value (.func 354), #[(T 25)], #[5]⟩, none⟩,
  ⟨4, some 27, .call ⟨.value (.func 355), #[(T 23), (T 24), (T 26)], #[9, 3, 4]⟩, none⟩,
  ⟨5, some 8, .assign (T 27), none⟩] []
abbrev b302x4 : BC := .reg [⟨0, some 9, .assign (K 1), none⟩,
  ⟨1, some 10, .assign (K 20), none⟩] []
abbrev b302x5 : BC := .reg [⟨0, some 28, .move (T 7), none⟩,
  ⟨1, some 29, .call ⟨.value (.func 354), #[(T 28)], #[5]⟩, none⟩] []
abbrev b302x6 : BC := .reg [⟨0, some 9, .assign (K 2), none⟩,
  ⟨1, some 10, .assign (K 9), none⟩] []
abbrev b302x7 : BC := .reg [⟨0, some 30, .move (T 8), none⟩,
  ⟨1, some 31, .move (T 10), none⟩,
  ⟨2, some 32, .binOp .gtr 3 (T 30) (T 31) 3, none⟩] []
abbrev b302x8 : BC := .reg [⟨0, some 33, .build 305 #[], none⟩,
  ⟨1, none, .store 305 (T 4) (T 33), none⟩,
  ⟨2, some 5, .assign (K 0), none⟩,
  ⟨3, some 6, .assign (K 3), none⟩] []
abbrev b302x9 : BC := .reg [⟨0, some 34, .move (T 9), none⟩,
  ⟨1, some 35, .move (T 0), none⟩,
  ⟨2, some 36, .move (T 1), none⟩,
  ⟨3, some 37, .move (T 1), none⟩,
  ⟨4, some 38, .move (T 8), none⟩,
  ⟨5, some 39, .binOp .add 3 (T 37) (T 38) 3, none⟩,
  ⟨6, some 40, .slice 9 (T 35) (some (T 36)) (some (T 39)) none, none⟩,
  ⟨7, some 41, .build 305 #[(0, (T 34)), (1, (T 40))], none⟩,
  ⟨8, some 42, .move (T 8), none⟩,
  ⟨9, none, .store 305 (T 4) (T 41), none⟩,
  ⟨10, some 5, .assign (T 42), none⟩,
  ⟨11, some 6, .assign (K 0), none⟩] []
abbrev b302x10 : BC := .seq (.seq b302x5 (.cond (T 29) b302x6 .skip)) (.seq (.seq b302x7 (.cond (T 32) (.seq b302x8 .ret) .skip)) (.seq b302x9 .ret))
abbrev b302x11 : BC := .reg [⟨0, some 43, .move (T 7), none⟩,
  ⟨1, some 44, .binOp .eql 5 (T 43) (.const (.int .u8 34)) 5, none⟩] []
abbrev b302x12 : BC := .reg [⟨0, some 45, .move (T 0), none⟩,
  ⟨1, some 46, .move (T 1), none⟩,
  ⟨2, some 47, .call ⟨.value (.func 356), #[(T 45), (T 46)], #[9, 3]⟩, none⟩,
  ⟨3, some 11, .assign (T 47), none⟩] []
abbrev b302x13 : BC := .reg [⟨0, some 48, .move (T 11), none⟩,
  ⟨1, some 49, .binOp .eql 3 (T 48) (K 0) 3, none⟩] []
abbrev b302x14 : BC := .reg [⟨0, some 50, .build 305 #[], none⟩,
  ⟨1, none, .store 305 (T 4) (T 50), none⟩,
  ⟨2, some 5, .assign (K 0), none⟩,
  ⟨3, some 6, .assign (K 2), none⟩] []
abbrev b302x15 : BC := .reg [⟨0, some 51, .move (T 11), none⟩,
  ⟨1, some 52, .binOp .sub 3 (T 51) (K 2) 3, none⟩,
  ⟨2, some 53, .binOp .gtr 3 (T 52) (K 60) 3, none⟩] []
abbrev b302x16 : BC := .reg [⟨0, some 54, .build 305 #[], none⟩,
  ⟨1, none, .store 305 (T 4) (T 54), none⟩,
  ⟨2, some 5, .assign (K 0), none⟩,
  ⟨3, some 6, .assign (K 3), none⟩] []
abbrev b302x17 : BC := .reg [⟨0, some 55, .move (T 0), none⟩,
  ⟨1, some 56, .move (T 1), none⟩,
  ⟨2, some 57, .binOp .add 3 (T 56) (K 1) 3, none⟩,
  ⟨3, some 58, .move (T 1), none⟩,
  ⟨4, some 59, .move (T 11), none⟩,
  ⟨5, some 60, .binOp .add 3 (T 58) (T 59) 3, none⟩,
  ⟨6, some 61, .binOp .sub 3 (T 60) (K 1) 3, none⟩,
  ⟨7, some 62, .slice 9 (T 55) (some (T 57)) (some (T 61)) none, none⟩,
  ⟨8, some 63, .build 305 #[(0, (K 3)), (1, (T 62))], none⟩,
  ⟨9, some 64, .move (T 11), none⟩,
  ⟨10, none, .store 305 (T 4) (T 63), none⟩,
  ⟨11, some 5, .assign (T 64), none⟩,
  ⟨12, some 6, .assign (K 0), none⟩] []
abbrev b302x18 : BC := .seq (.seq b302x13 (.cond (T 49) (.seq b302x14 .ret) .skip)) (.seq (.seq b302x15 (.cond (T 53) (.seq b302x16 .ret) .skip)) (.seq b302x17 .ret))
abbrev b302x19 : BC := .reg [⟨0, some 65, .call ⟨.value (.func 357), #[], #[]⟩, none⟩,
  ⟨1, some 12, .assign (T 65), none⟩] []
abbrev b302x20 : BC := .reg [⟨0, some 13, .assign (K 0), none⟩] []
abbrev b302x21 : BC := .reg [⟨0, some 66, .move (T 13), none⟩,
  ⟨1, some 67, .move (T 12), none⟩,
  ⟨2, some 68, .call ⟨.builtin .len, #[(T 67)], #[158]⟩, none⟩,
  ⟨3, some 69, .binOp .lss 3 (T 66) (T 68) 3, none⟩] []
abbrev b302x22 : BC := .reg [⟨0, some 72, .move (T 1), none⟩,
  ⟨1, some 73, .move (T 12), none⟩,
  ⟨2, some 74, .move (T 13), none⟩,
  ⟨3, some 75, .indexAddr 158 (T 73) (T 74), none⟩,
  ⟨4, some 76, .load 9 (T 75), none⟩,
  ⟨5, some 77, .call ⟨.builtin .len, #[(T 76)], #[9]⟩, none⟩,
  ⟨6, some 78, .binOp .add 3 (T 72) (T 77) 3, none⟩,
  ⟨7, some 79, .move (T 0), none⟩,
  ⟨8, some 80, .call ⟨.builtin .len, #[(T 79)], #[9]⟩, none⟩,
  ⟨9, some 81, .binOp .leq 3 (T 78) (T 80) 3, none⟩,
  ⟨10, some 82, .move (T 81), none⟩,
  ⟨11, some 83, .move (T 0), some (82, true)⟩,
  ⟨12, some 84, .move (T 1), some (82, true)⟩,
  ⟨13, some 85, .move (T 1), some (82, true)⟩,
  ⟨14, some 86, .move (T 12), some (82, true)⟩,
  ⟨15, some 87, .move (T 13), some (82, true)⟩,
  ⟨16, some 88, .indexAddr 158 (T 86) (T 87), some (82, true)⟩,
  ⟨17, some 89, .load 9 (T 88), some (82, true)⟩,
  ⟨18, some 90, .call ⟨.builtin .len, #[(T 89)], #[9]⟩, some (82, true)⟩,
  ⟨19, some 91, .binOp .add 3 (T 85) (T 90) 3, some (82, true)⟩,
  ⟨20, some 92, .slice 9 (T 83) (some (T 84)) (some (T 91)) none, some (82, true)⟩,
  ⟨21, some 93, .move (T 12), some (82, true)⟩,
  ⟨22, some 94, .move (T 13), some (82, true)⟩,
  ⟨23, some 95, .indexAddr 158 (T 93) (T 94), some (82, true)⟩,
  ⟨24, some 96, .load 9 (T 95), some (82, true)⟩,
  ⟨25, some 97, .binOp .eql 9 (T 92) (T 96) 9, some (82, true)⟩,
  ⟨26, some 98, .pick (T 82) (T 97) (.const (.bool false)), none⟩] [(0, 1), (0, 2), (1, 2), (0, 3), (0, 4), (0, 5), (0, 7), (1, 7), (2, 7), (3, 7), (4, 7), (5, 7), (6, 7), (0, 8), (1, 8), (2, 8), (3, 8), (4, 8), (5, 8), (6, 8), (11, 12), (11, 13), (12, 13), (11, 14), (12, 14), (13, 14), (11, 15), (12, 15), (13, 15), (14, 15), (11, 16), (12, 16), (13, 16), (11, 17), (12, 17), (13, 17), (11, 18), (12, 18), (13, 18), (11, 19), (12, 19), (11, 21), (12, 21), (13, 21), (14, 21), (15, 21), (16, 21), (17, 21), (18, 21), (19, 21), (20, 21), (11, 22), (12, 22), (13, 22), (14, 22), (15, 22), (16, 22), (17, 22), (18, 22), (19, 22), (20, 22), (21, 22), (11, 23), (12, 23), (13, 23), (14, 23), (15, 23), (16, 23), (17, 23), (18, 23), (19, 23), (20, 23), (11, 24), (12, 24), (13, 24), (14, 24), (15, 24), (16, 24), (17, 24), (18, 24), (19, 24), (20, 24)]
abbrev b302x23 : BC := .reg [⟨0, some 99, .move (T 12), none⟩,
  ⟨1, some 100, .move (T 13), none⟩,
  ⟨2, some 101, .indexAddr 158 (T 99) (T 100), none⟩,
  ⟨3, some 102, .load 9 (T 101), none⟩,
  ⟨4, some 103, .build 305 #[(0, (K 4)), (1, (T 102))], none⟩,
  ⟨5, some 104, .move (T 12), none⟩,
  ⟨6, some 105, .move (T 13), none⟩,
  ⟨7, some 106, .indexAddr 158 (T 104) (T 105), none⟩,
  ⟨8, some 107, .load 9 (T 106), none⟩,
  ⟨9, some 108, .call ⟨.builtin .len, #[(T 107)], #[9]⟩, none⟩,
  ⟨10, none, .store 305 (T 4) (T 103), none⟩,
  ⟨11, some 5, .assign (T 108), none⟩,
  ⟨12, some 6, .assign (K 0), none⟩] [(0, 1), (0, 5), (1, 5), (2, 5), (3, 5), (4, 5), (0, 6), (1, 6), (2, 6), (3, 6), (4, 6), (5, 6), (0, 7), (1, 7), (2, 7), (3, 7), (4, 7), (0, 8), (1, 8), (2, 8), (3, 8), (4, 8), (0, 9), (1, 9), (2, 9), (3, 9), (4, 9), (5, 10), (6, 10), (7, 10), (8, 10), (9, 10)]
abbrev b302x24 : BC := .reg [⟨0, some 70, .move (T 13), none⟩,
  ⟨1, some 71, .binOp .add 3 (T 70) (K 1) 3, none⟩,
  ⟨2, some 13, .assign (T 71), none⟩] []
abbrev b302x25 : BC := .seq (.seq b302x21 (.cond (T 69) .skip (.exit 0))) (.seq (.block 1 (.seq b302x22 (.cond (T 98) (.seq b302x23 .ret) .skip))) b302x24)
abbrev b302x26 : BC := .loop b302x25
abbrev b302x27 : BC := .reg [⟨0, some 109, .build 305 #[], none⟩,
  ⟨1, none, .store 305 (T 4) (T 109), none⟩,
  ⟨2, some 5, .assign (K 0), none⟩,
  ⟨3, some 6, .assign (K 2), none⟩] []
abbrev b302x28 : BC := .seq (.seq b302x11 (.cond (T 44) (.seq b302x12 b302x18) .skip)) (.seq b302x19 (.seq (.seq b302x20 (.block 0 b302x26)) (.seq b302x27 .ret)))
abbrev b302x29 : BC := .seq b302x0 (.seq b302x1 (.seq (.seq b302x2 (.cond (T 22) (.seq b302x3 (.seq b302x4 b302x10)) .skip)) b302x28))
abbrev b302 : BC := b302x29
theorem c302 : Tryz.f302.body.bind (compile Tryz.f302.ntmps) = some b302 := by kernel_rfl
theorem ok302 : EntryOK Tryz.prog (302, ⟨110, b302, #[.cell 4 305, .tmp 5, .tmp 6]⟩) := ⟨Tryz.f302, Tryz.func302, c302, Tryz.ntmps302, by kernel_rfl, Tryz.call302⟩
/-! scarfjoint/scarfjointref04.names -/
abbrev b331x0 : BC := .reg [⟨0, some 2, .assign (K 0), none⟩] []
abbrev b331x1 : BC := .reg [⟨0, some 5, .move (T 0), none⟩,
  ⟨1, some 6, .call ⟨.builtin .len, #[(T 5)], #[158]⟩, none⟩,
  ⟨2, some 7, .binOp .gtr 3 (T 6) (K 20) 3, none⟩] []
abbrev b331x2 : BC := .reg [⟨0, some 2, .assign (K 3), none⟩] []
abbrev b331x3 : BC := .reg [⟨0, some 3, .assign (K 0), none⟩] []
abbrev b331x4 : BC := .reg [⟨0, some 8, .move (T 3), none⟩,
  ⟨1, some 9, .move (T 0), none⟩,
  ⟨2, some 10, .call ⟨.builtin .len, #[(T 9)], #[158]⟩, none⟩,
  ⟨3, some 11, .binOp .lss 3 (T 8) (T 10) 3, none⟩] []
abbrev b331x5 : BC := .reg [⟨0, some 14, .move (T 0), none⟩,
  ⟨1, some 15, .move (T 3), none⟩,
  ⟨2, some 16, .indexAddr 158 (T 14) (T 15), none⟩,
  ⟨3, some 17, .load 9 (T 16), none⟩,
  ⟨4, some 18, .call ⟨.value (.func 154), #[(T 17)], #[9]⟩, none⟩,
  ⟨5, some 19, .unOp .not 4 (T 18), none⟩] []
abbrev b331x6 : BC := .reg [⟨0, some 2, .assign (K 2), none⟩] []
abbrev b331x7 : BC := .reg [⟨0, some 4, .assign (K 0), none⟩] []
abbrev b331x8 : BC := .reg [⟨0, some 20, .move (T 4), none⟩,
  ⟨1, some 21, .move (T 3), none⟩,
  ⟨2, some 22, .binOp .lss 3 (T 20) (T 21) 3, none⟩] []
abbrev b331x9 : BC := .reg [⟨0, some 25, .move (T 0), none⟩,
  ⟨1, some 26, .move (T 4), none⟩,
  ⟨2, some 27, .indexAddr 158 (T 25) (T 26), none⟩,
  ⟨3, some 28, .load 9 (T 27), none⟩,
  ⟨4, some 29, .move (T 0), none⟩,
  ⟨5, some 30, .move (T 3), none⟩,
  ⟨6, some 31, .indexAddr 158 (T 29) (T 30), none⟩,
  ⟨7, some 32, .load 9 (T 31), none⟩,
  ⟨8, some 33, .binOp .eql 9 (T 28) (T 32) 9, none⟩] [(0, 1), (0, 4), (1, 4), (2, 4), (3, 4), (0, 5), (1, 5), (2, 5), (3, 5), (4, 5), (0, 6), (1, 6), (2, 6), (3, 6), (0, 7), (1, 7), (2, 7), (3, 7)]
abbrev b331x10 : BC := .reg [⟨0, some 2, .assign (K 5), none⟩] []
abbrev b331x11 : BC := .reg [⟨0, some 23, .move (T 4), none⟩,
  ⟨1, some 24, .binOp .add 3 (T 23) (K 1) 3, none⟩,
  ⟨2, some 4, .assign (T 24), none⟩] []
abbrev b331x12 : BC := .seq (.seq b331x8 (.cond (T 22) .skip (.exit 2))) (.seq (.block 3 (.seq b331x9 (.cond (T 33) (.seq b331x10 .ret) .skip))) b331x11)
abbrev b331x13 : BC := .loop b331x12
abbrev b331x14 : BC := .block 1 (.seq (.seq b331x5 (.cond (T 19) (.seq b331x6 .ret) .skip)) (.seq b331x7 (.block 2 b331x13)))
abbrev b331x15 : BC := .reg [⟨0, some 12, .move (T 3), none⟩,
  ⟨1, some 13, .binOp .add 3 (T 12) (K 1) 3, none⟩,
  ⟨2, some 3, .assign (T 13), none⟩] []
abbrev b331x16 : BC := .loop (.seq (.seq b331x4 (.cond (T 11) .skip (.exit 0))) (.seq b331x14 b331x15))
abbrev b331x17 : BC := .reg [⟨0, some 2, .assign (K 0), none⟩] []
abbrev b331x18 : BC := .seq (.seq b331x1 (.cond (T 7) (.seq b331x2 .ret) .skip)) (.seq (.seq b331x3 (.block 0 b331x16)) (.seq b331x17 .ret))
abbrev b331 : BC := .seq b331x0 b331x18
theorem c331 : Tryz.f331.body.bind (compile Tryz.f331.ntmps) = some b331 := by kernel_rfl
theorem ok331 : EntryOK Tryz.prog (331, ⟨34, b331, #[.tmp 2]⟩) := ⟨Tryz.f331, Tryz.func331, c331, Tryz.ntmps331, by kernel_rfl, Tryz.call331⟩
/-! scarfjoint/scarfjointref01.letter -/
abbrev b353x0 : BC := .reg [⟨0, some 2, .assign (.const (.bool false)), none⟩] []
abbrev b353x1 : BC := .reg [⟨0, some 3, .move (T 0), none⟩,
  ⟨1, some 4, .binOp .geq 5 (T 3) (.const (.int .u8 97)) 5, none⟩,
  ⟨2, some 5, .move (T 4), none⟩,
  ⟨3, some 6, .move (T 0), some (5, true)⟩,
  ⟨4, some 7, .binOp .leq 5 (T 6) (.const (.int .u8 122)) 5, some (5, true)⟩,
  ⟨5, some 8, .pick (T 5) (T 7) (.const (.bool false)), none⟩,
  ⟨6, some 9, .move (T 8), none⟩,
  ⟨7, some 10, .move (T 0), some (9, false)⟩,
  ⟨8, some 11, .binOp .geq 5 (T 10) (.const (.int .u8 65)) 5, some (9, false)⟩,
  ⟨9, some 12, .move (T 11), some (9, false)⟩,
  ⟨10, some 13, .move (T 0), some (12, true)⟩,
  ⟨11, some 14, .binOp .leq 5 (T 13) (.const (.int .u8 90)) 5, some (12, true)⟩,
  ⟨12, some 15, .pick (T 12) (T 14) (.const (.bool false)), some (9, false)⟩,
  ⟨13, some 16, .pick (T 9) (.const (.bool true)) (T 15), none⟩,
  ⟨14, some 2, .assign (T 16), none⟩] []
abbrev b353 : BC := .seq b353x0 (.seq b353x1 .ret)
theorem c353 : Tryz.f353.body.bind (compile Tryz.f353.ntmps) = some b353 := by kernel_rfl
theorem ok353 : EntryOK Tryz.prog (353, ⟨17, b353, #[.tmp 2]⟩) := ⟨Tryz.f353, Tryz.func353, c353, Tryz.ntmps353, by kernel_rfl, Tryz.call353⟩
/-! scarfjoint/scarfjointref01.digit -/
abbrev b354x0 : BC := .reg [⟨0, some 2, .assign (.const (.bool false)), none⟩] []
abbrev b354x1 : BC := .reg [⟨0, some 3, .move (T 0), none⟩,
  ⟨1, some 4, .binOp .geq 5 (T 3) (.const (.int .u8 48)) 5, none⟩,
  ⟨2, some 5, .move (T 4), none⟩,
  ⟨3, some 6, .move (T 0), some (5, true)⟩,
  ⟨4, some 7, .binOp .leq 5 (T 6) (.const (.int .u8 57)) 5, some (5, true)⟩,
  ⟨5, some 8, .pick (T 5) (T 7) (.const (.bool false)), none⟩,
  ⟨6, some 2, .assign (T 8), none⟩] []
abbrev b354 : BC := .seq b354x0 (.seq b354x1 .ret)
theorem c354 : Tryz.f354.body.bind (compile Tryz.f354.ntmps) = some b354 := by kernel_rfl
theorem ok354 : EntryOK Tryz.prog (354, ⟨9, b354, #[.tmp 2]⟩) := ⟨Tryz.f354, Tryz.func354, c354, Tryz.ntmps354, by kernel_rfl, Tryz.call354⟩
/-! scarfjoint/scarfjointref01.run -/
abbrev b355x0 : BC := .reg [⟨0, some 6, .assign (K 0), none⟩] []
abbrev b355x1 : BC := .reg [⟨0, some 7, .assign (K 0), none⟩] []
abbrev b355x2 : BC := .reg [⟨0, some 8, .move (T 1), none⟩,
  ⟨1, some 9, .move (T 7), none⟩,
  ⟨2, some 10, .binOp .add 3 (T 8) (T 9) 3, none⟩,
  ⟨3, some 11, .move (T 0), none⟩,
  ⟨4, some 12, .call ⟨.builtin .len, #[(T 11)], #[9]⟩, none⟩,
  ⟨5, some 13, .binOp .lss 3 (T 10) (T 12) 3, none⟩,
  ⟨6, some 14, .move (T 13), none⟩,
  ⟨7, some 15, .move (T 0), some (14, true)⟩,
  ⟨8, some 16, .move (T 1), some (14, true)⟩,
  ⟨9, some 17, .move (T 7), some (14, true)⟩,
  ⟨10, some 18, .binOp .add 3 (T 16) (T 17) 3, some (14, true)⟩,
  ⟨11, some 19, .index 9 (T 15) (T 18), some (14, true)⟩,
  ⟨12, some 20, .call ⟨.value (.func 354), #[(T 19)], #[5]⟩, some (14, true)⟩,
  ⟨13, some 21, .move (T 20), some (14, true)⟩,
  ⟨14, some 22, .move (T 2), some (21, false)⟩,
  ⟨15, some 23, .unOp .not 4 (T 22), some (21, false)⟩,
  ⟨16, some 24, .move (T 23), some (21, false)⟩,
  ⟨17, some 25, .move (T 0), some (24, true)⟩,
  ⟨18, some 26, .move (T 1), some (24, true)⟩,
  ⟨19, some 27, .move (T 7), some (24, true)⟩,
  ⟨20, some 28, .binOp .add 3 (T 26) (T 27) 3, some (24, true)⟩,
  ⟨21, some 29, .index 9 (T 25) (T 28), some (24, true)⟩,
  ⟨22, some 30, .call ⟨.value (.func 353), #[(T 29)], #[5]⟩, some (24, true)⟩,
  ⟨23, some 31, .move (T 30), some (24, true)⟩,
  ⟨24, some 32, .move (T 0), some (31, false)⟩,
  ⟨25, some 33, .move (T 1), some (31, false)⟩,
  ⟨26, some 34, .move (T 7), some (31, false)⟩,
  ⟨27, some 35, .binOp .add 3 (T 33) (T 34) 3, some (31, false)⟩,
  ⟨28, some 36, .index 9 (T 32) (T 35), some (31, false)⟩,
  ⟨29, some 37, .binOp .eql 5 (T 36) (.const (.int .u8 95)) 5, some (31, false)⟩,
  ⟨30, some 38, .pick (T 31) (.const (.bool true)) (T 37), some (24, true)⟩,
  ⟨31, some 39, .pick (T 24) (T 38) (.const (.bool false)), some (21, false)⟩,
  ⟨32, some 40, .pick (T 21) (.const (.bool true)) (T 39), some (14, true)⟩,
  ⟨33, some 41, .pick (T 14) (T 40) (.const (.bool false)), none⟩] []
abbrev b355x3 : BC := .reg [⟨0, some 42, .move (T 7), none⟩,
  ⟨1, some 43, .binOp .add 3 (T 42) (K 1) 3, none⟩,
  ⟨2, some 7, .assign (T 43), none⟩] []
abbrev b355x4 : BC := .loop (.seq (.seq b355x2 (.cond (T 41) .skip (.exit 0))) (.block 1 b355x3))
abbrev b355x5 : BC := .reg [⟨0, some 44, .move (T 7), none⟩,
  ⟨1, some 6, .assign (T 44), none⟩] []
abbrev b355 : BC := .seq b355x0 (.seq b355x1 (.seq (.block 0 b355x4) (.seq b355x5 .ret)))
theorem c355 : Tryz.f355.body.bind (compile Tryz.f355.ntmps) = some b355 := by kernel_rfl
theorem ok355 : EntryOK Tryz.prog (355, ⟨45, b355, #[.tmp 6]⟩) := ⟨Tryz.f355, Tryz.func355, c355, Tryz.ntmps355, by kernel_rfl, Tryz.call355⟩
/-! scarfjoint/scarfjointref01.quoted -/
abbrev b356x0 : BC := .reg [⟨0, some 4, .assign (K 0), none⟩] []
abbrev b356x1 : BC := .reg [⟨0, some 5, .assign (K 1), none⟩] []
abbrev b356x2 : BC := .reg [⟨0, some 7, .move (T 1), none⟩,
  ⟨1, some 8, .move (T 5), none⟩,
  ⟨2, some 9, .binOp .add 3 (T 7) (T 8) 3, none⟩,
  ⟨3, some 10, .move (T 0), none⟩,
  ⟨4, some 11, .call ⟨.builtin .len, #[(T 10)], #[9]⟩, none⟩,
  ⟨5, some 12, .binOp .lss 3 (T 9) (T 11) 3, none⟩] []
abbrev b356x3 : BC := .reg [⟨0, some 15, .move (T 0), none⟩,
  ⟨1, some 16, .move (T 1), none⟩,
  ⟨2, some 17, .move (T 5), none⟩,
  ⟨3, some 18, .binOp .add 3 (T 16) (T 17) 3, none⟩,
  ⟨4, some 19, .index 9 (T 15) (T 18), none⟩,
  ⟨5, some 6, .assign (T 19), none⟩] []
abbrev b356x4 : BC := .reg [⟨0, some 20, .move (T 6), none⟩,
  ⟨1, some 21, .binOp .eql 5 (T 20) (.const (.int .u8 34)) 5, none⟩] []
abbrev b356x5 : BC := .reg [⟨0, some 22, .move (T 5), none⟩,
  ⟨1, some 23, .binOp .add 3 (T 22) (K 1) 3, none⟩,
  ⟨2, some 4, .assign (T 23), none⟩] []
abbrev b356x6 : BC := .reg [⟨0, some 24, .move (T 6), none⟩,
  ⟨1, some 25, .binOp .lss 5 (T 24) (.const (.int .u8 32)) 5, none⟩,
  ⟨2, some 26, .move (T 25), none⟩,
  ⟨3, some 27, .move (T 6), some (26, false)⟩,
  ⟨4, some 28, .binOp .gtr 5 (T 27) (.const (.int .u8 126)) 5, some (26, false)⟩,
  ⟨5, some 29, .pick (T 26) (.const (.bool true)) (T 28), none⟩] []
abbrev b356x7 : BC := .reg [⟨0, some 4, .assign (K 0), none⟩] []
abbrev b356x8 : BC := .seq (.seq b356x4 (.cond (T 21) (.seq b356x5 .ret) .skip)) (.seq b356x6 (.cond (T 29) (.seq b356x7 .ret) .skip))
abbrev b356x9 : BC := .reg [⟨0, some 13, .move (T 5), none⟩,
  ⟨1, some 14, .binOp .add 3 (T 13) (K 1) 3, none⟩,
  ⟨2, some 5, .assign (T 14), none⟩] []
abbrev b356x10 : BC := .loop (.seq (.seq b356x2 (.cond (T 12) .skip (.exit 0))) (.seq (.block 1 (.seq b356x3 b356x8)) b356x9))
abbrev b356x11 : BC := .reg [⟨0, some 4, .assign (K 0), none⟩] []
abbrev b356 : BC := .seq b356x0 (.seq (.seq b356x1 (.block 0 b356x10)) (.seq b356x11 .ret))
theorem c356 : Tryz.f356.body.bind (compile Tryz.f356.ntmps) = some b356 := by kernel_rfl
theorem ok356 : EntryOK Tryz.prog (356, ⟨30, b356, #[.tmp 4]⟩) := ⟨Tryz.f356, Tryz.func356, c356, Tryz.ntmps356, by kernel_rfl, Tryz.call356⟩
/-! scarfjoint/scarfjointref01.signs -/
abbrev b357x0 : BC := .reg [⟨0, some 0, .assign (.const (.slice none 0 0)), none⟩] []
abbrev b357x1 : BC := .reg [⟨0, some 1, .buildSlice 158 25 #[(0, (.const (.string ⟨#[45, 62]⟩))), (1, (.const (.string ⟨#[60, 61]⟩))), (2, (.const (.string ⟨#[62, 61]⟩))), (3, (.const (.string ⟨#[61, 61]⟩))), (4, (.const (.string ⟨#[33, 61]⟩))), (5, (.const (.string ⟨#[123]⟩))), (6, (.const (.string ⟨#[125]⟩))), (7, (.const (.string ⟨#[40]⟩))), (8, (.const (.string ⟨#[41]⟩))), (9, (.const (.string ⟨#[91]⟩))), (10, (.const (.string ⟨#[93]⟩))), (11, (.const (.string ⟨#[44]⟩))), (12, (.const (.string ⟨#[59]⟩))), (13, (.const (.string ⟨#[58]⟩))), (14, (.const (.string ⟨#[61]⟩))), (15, (.const (.string ⟨#[43]⟩))), (16, (.const (.string ⟨#[45]⟩))), (17, (.const (.string ⟨#[42]⟩))), (18, (.const (.string ⟨#[60]⟩))), (19, (.const (.string ⟨#[62]⟩))), (20, (.const (.string ⟨#[33]⟩))), (21, (.const (.string ⟨#[38]⟩))), (22, (.const (.string ⟨#[124]⟩))), (23, (.const (.string ⟨#[46]⟩))), (24, (.const (.string ⟨#[63]⟩)))], none⟩,
  ⟨1, some 0, .assign (T 1), none⟩] []
abbrev b357 : BC := .seq b357x0 (.seq b357x1 .ret)
theorem c357 : Tryz.f357.body.bind (compile Tryz.f357.ntmps) = some b357 := by kernel_rfl
theorem ok357 : EntryOK Tryz.prog (357, ⟨2, b357, #[.tmp 0]⟩) := ⟨Tryz.f357, Tryz.func357, c357, Tryz.ntmps357, by kernel_rfl, Tryz.call357⟩
end Go.Av
