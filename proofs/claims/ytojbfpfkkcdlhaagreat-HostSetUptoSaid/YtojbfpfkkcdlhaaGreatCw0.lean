/- Code of functions: what the compiled form of each is. -/
import Derived.Test.YtojbfpfkkcdlhaaGreatAv19
import Derived.KernelRfl
import Derived.Test.YtojbfpfkkcdlhaaGreatProg
namespace Go.Av
set_option linter.unusedVariables false
set_option linter.unusedSimpArgs false
open Go.Proofs
/-! scarfjoint/scarfjointlaw15.HostSet -/
abbrev b9x0 : BC := .reg [⟨0, some 3, .box 25 (T 0), none⟩,
  ⟨1, some 4, .box 55 (T 1), none⟩,
  ⟨2, some 5, .box 92 (T 2), none⟩,
  ⟨3, some 6, .assign (.const (.bool false)), none⟩] []
abbrev b9x1 : BC := .reg [⟨0, some 17, .call ⟨.value (.func 30), #[], #[]⟩, none⟩,
  ⟨1, some 18, .unOp .not 4 (T 17), none⟩,
  ⟨2, some 19, .move (T 18), none⟩,
  ⟨3, some 20, .load 25 (T 3), some (19, false)⟩,
  ⟨4, some 21, .load 55 (T 4), some (19, false)⟩,
  ⟨5, some 22, .buildSlice 190 1 #[(0, (T 21))], some (19, false)⟩,
  ⟨6, some 23, .call ⟨.value (.func 31), #[(T 20), (T 22)], #[25, 190]⟩, some (19, false)⟩,
  ⟨7, some 24, .unOp .not 4 (T 23), some (19, false)⟩,
  ⟨8, some 25, .pick (T 19) (.const (.bool true)) (T 24), none⟩] []
abbrev b9x2 : BC := .reg [⟨0, some 26, .call ⟨.value (.func 30), #[], #[]⟩, none⟩,
  ⟨1, some 6, .assign (T 26), none⟩] []
abbrev b9x3 : BC := .reg [⟨0, some 28, .load 25 (T 3), none⟩,
  ⟨1, some 29, .load 55 (T 4), none⟩,
  ⟨2, some 30, .call ⟨.value (.func 33), #[(T 29)], #[55]⟩, none⟩,
  ⟨3, some 31, .fieldAddr 92 (T 5) 0, none⟩,
  ⟨4, some 32, .load 3 (T 31), none⟩,
  ⟨5, some 33, .fieldAddr 92 (T 5) 1, none⟩,
  ⟨6, some 34, .load 3 (T 33), none⟩,
  ⟨7, some 35, .fieldAddr 92 (T 5) 2, none⟩,
  ⟨8, some 36, .load 3 (T 35), none⟩,
  ⟨9, some 37, .call ⟨.value (.func 49), #[(T 28), (T 30), (T 32), (T 34), (T 36)], #[25, 55, 3, 3, 3]⟩, none⟩,
  ⟨10, some 27, .move (T 37), none⟩,
  ⟨11, some 38, .extract (T 27) 0, none⟩,
  ⟨12, some 39, .extract (T 27) 1, none⟩,
  ⟨13, some 7, .alloc 55, none⟩,
  ⟨14, none, .store 55 (T 7) (T 38), none⟩,
  ⟨15, some 8, .assign (T 39), none⟩] [(0, 1), (0, 2), (0, 3), (1, 3), (2, 3), (0, 4), (1, 4), (2, 4), (0, 5), (1, 5), (2, 5), (3, 5), (4, 5), (0, 6), (1, 6), (2, 6), (3, 6), (4, 6), (0, 7), (1, 7), (2, 7), (3, 7), (4, 7), (5, 7), (6, 7), (0, 8), (1, 8), (2, 8), (3, 8), (4, 8), (5, 8), (6, 8), (11, 12), (0, 13), (1, 13), (2, 13), (3, 13), (4, 13), (5, 13), (6, 13), (7, 13), (8, 13), (9, 13), (10, 13), (11, 13), (12, 13), (12, 14)]
abbrev b9x4 : BC := .reg [⟨0, some 41, .load 25 (T 3), none⟩,
  ⟨1, some 42, .load 55 (T 4), none⟩,
  ⟨2, some 43, .fieldAddr 92 (T 5) 0, none⟩,
  ⟨3, some 44, .load 3 (T 43), none⟩,
  ⟨4, some 45, .fieldAddr 92 (T 5) 1, none⟩,
  ⟨5, some 46, .load 3 (T 45), none⟩,
  ⟨6, some 47, .fieldAddr 92 (T 5) 2, none⟩,
  ⟨7, some 48, .load 3 (T 47), none⟩,
  ⟨8, some 49, .call ⟨.value (.func 50), #[(T 41), (T 42), (T 44), (T 46), (T 48)], #[25, 55, 3, 3, 3]⟩, none⟩,
  ⟨9, some 40, .move (T 49), none⟩,
  ⟨10, some 50, .extract (T 40) 0, none⟩,
  ⟨11, some 51, .extract (T 40) 1, none⟩,
  ⟨12, some 9, .alloc 55, none⟩,
  ⟨13, none, .store 55 (T 9) (T 50), none⟩,
  ⟨14, some 10, .assign (T 51), none⟩] []
abbrev b9x5 : BC := .reg [⟨0, some 52, .load 55 (T 7), none⟩,
  ⟨1, some 53, .load 55 (T 9), none⟩,
  ⟨2, some 54, .call ⟨.value (.func 41), #[(T 52), (T 53)], #[55, 55]⟩, none⟩,
  ⟨3, some 55, .unOp .not 4 (T 54), none⟩,
  ⟨4, some 56, .move (T 55), none⟩,
  ⟨5, some 57, .move (T 8), some (56, false)⟩,
  ⟨6, some 58, .move (T 10), some (56, false)⟩,
  ⟨7, some 59, .binOp .neq 38 (T 57) (T 58) 38, some (56, false)⟩,
  ⟨8, some 60, .pick (T 56) (.const (.bool true)) (T 59), none⟩,
  ⟨9, some 61, .move (T 60), none⟩,
  ⟨10, some 62, .move (T 8), some (61, false)⟩,
  ⟨11, some 63, .binOp .neq 38 (T 62) (K 0) 38, some (61, false)⟩,
  ⟨12, some 64, .pick (T 61) (.const (.bool true)) (T 63), none⟩] []
abbrev b9x6 : BC := .reg [⟨0, some 65, .load 55 (T 7), none⟩,
  ⟨1, some 66, .load 55 (T 9), none⟩,
  ⟨2, some 67, .call ⟨.value (.func 41), #[(T 65), (T 66)], #[55, 55]⟩, none⟩,
  ⟨3, some 68, .move (T 67), none⟩,
  ⟨4, some 69, .move (T 8), some (68, true)⟩,
  ⟨5, some 70, .move (T 10), some (68, true)⟩,
  ⟨6, some 71, .binOp .eql 38 (T 69) (T 70) 38, some (68, true)⟩,
  ⟨7, some 72, .pick (T 68) (T 71) (.const (.bool false)), none⟩,
  ⟨8, some 6, .assign (T 72), none⟩] []
abbrev b9x7 : BC := .reg [⟨0, some 74, .load 25 (T 3), none⟩,
  ⟨1, some 75, .load 55 (T 7), none⟩,
  ⟨2, some 76, .fieldAddr 92 (T 5) 0, none⟩,
  ⟨3, some 77, .load 3 (T 76), none⟩,
  ⟨4, some 78, .fieldAddr 92 (T 5) 1, none⟩,
  ⟨5, some 79, .load 3 (T 78), none⟩,
  ⟨6, some 80, .fieldAddr 55 (T 4) 1, none⟩,
  ⟨7, some 81, .load 53 (T 80), none⟩,
  ⟨8, some 82, .fieldAddr 92 (T 5) 0, none⟩,
  ⟨9, some 83, .load 3 (T 82), none⟩,
  ⟨10, some 84, .indexAddr 53 (T 81) (T 83), none⟩,
  ⟨11, some 85, .load 26 (T 84), none⟩,
  ⟨12, some 86, .fieldAddr 92 (T 5) 1, none⟩,
  ⟨13, some 87, .load 3 (T 86), none⟩,
  ⟨14, some 88, .indexAddr 26 (T 85) (T 87), none⟩,
  ⟨15, some 89, .load 3 (T 88), none⟩,
  ⟨16, some 90, .call ⟨.value (.func 49), #[(T 74), (T 75), (T 77), (T 79), (T 89)], #[25, 55, 3, 3, 3]⟩, none⟩,
  ⟨17, some 73, .move (T 90), none⟩,
  ⟨18, some 91, .extract (T 73) 0, none⟩,
  ⟨19, some 92, .extract (T 73) 1, none⟩,
  ⟨20, some 11, .alloc 55, none⟩,
  ⟨21, none, .store 55 (T 11) (T 91), none⟩,
  ⟨22, some 12, .assign (T 92), none⟩] [(0, 1), (0, 2), (1, 2), (0, 3), (1, 3), (0, 4), (1, 4), (2, 4), (3, 4), (0, 5), (1, 5), (2, 5), (3, 5), (0, 6), (1, 6), (2, 6), (3, 6), (4, 6), (5, 6), (0, 7), (1, 7), (2, 7), (3, 7), (4, 7), (5, 7), (0, 8), (1, 8), (2, 8), (3, 8), (4, 8), (5, 8), (6, 8), (7, 8), (0, 9), (1, 9), (2, 9), (3, 9), (4, 9), (5, 9), (6, 9), (7, 9), (0, 10), (1, 10), (2, 10), (3, 10), (4, 10), (5, 10), (0, 11), (1, 11), (2, 11), (3, 11), (4, 11), (5, 11), (0, 12), (1, 12), (2, 12), (3, 12), (4, 12), (5, 12), (6, 12), (7, 12), (8, 12), (9, 12), (10, 12), (11, 12), (0, 13), (1, 13), (2, 13), (3, 13), (4, 13), (5, 13), (6, 13), (7, 13), (8, 13), (9, 13), (10, 13), (11, 13), (0, 14), (1, 14), (2, 14), (3, 14), (4, 14), (5, 14), (0, 15), (1, 15), (2, 15), (3, 15), (4, 15), (5, 15), (18, 19), (0, 20), (1, 20), (2, 20), (3, 20), (4, 20), (5, 20), (6, 20), (7, 20), (8, 20), (9, 20), (10, 20), (11, 20), (12, 20), (13, 20), (14, 20), (15, 20), (16, 20), (17, 20), (18, 20), (19, 20), (19, 21)]
abbrev b9x8 : BC := .reg [⟨0, some 94, .load 25 (T 3), none⟩,
  ⟨1, some 95, .load 55 (T 7), none⟩,
  ⟨2, some 96, .call ⟨.value (.func 35), #[(T 94), (T 95)], #[25, 55]⟩, none⟩,
  ⟨3, some 93, .move (T 96), none⟩,
  ⟨4, some 97, .extract (T 93) 0, none⟩,
  ⟨5, some 98, .extract (T 93) 1, none⟩,
  ⟨6, some 13, .assign (T 97), none⟩,
  ⟨7, some 14, .assign (T 98), none⟩] []
abbrev b9x9 : BC := .reg [⟨0, some 100, .load 25 (T 3), none⟩,
  ⟨1, some 101, .load 55 (T 4), none⟩,
  ⟨2, some 102, .call ⟨.value (.func 35), #[(T 100), (T 101)], #[25, 55]⟩, none⟩,
  ⟨3, some 99, .move (T 102), none⟩,
  ⟨4, some 103, .extract (T 99) 0, none⟩,
  ⟨5, some 104, .extract (T 99) 1, none⟩,
  ⟨6, some 15, .assign (T 103), none⟩,
  ⟨7, some 16, .assign (T 104), none⟩] []
abbrev b9x10 : BC := .reg [⟨0, some 105, .move (T 12), none⟩,
  ⟨1, some 106, .binOp .eql 38 (T 105) (K 0) 38, none⟩,
  ⟨2, some 107, .move (T 106), none⟩,
  ⟨3, some 108, .move (T 14), some (107, true)⟩,
  ⟨4, some 109, .binOp .eql 38 (T 108) (K 0) 38, some (107, true)⟩,
  ⟨5, some 110, .pick (T 107) (T 109) (.const (.bool false)), none⟩,
  ⟨6, some 111, .move (T 110), none⟩,
  ⟨7, some 112, .move (T 16), some (111, true)⟩,
  ⟨8, some 113, .binOp .eql 38 (T 112) (K 0) 38, some (111, true)⟩,
  ⟨9, some 114, .pick (T 111) (T 113) (.const (.bool false)), none⟩,
  ⟨10, some 115, .move (T 114), none⟩,
  ⟨11, some 116, .load 55 (T 11), some (115, true)⟩,
  ⟨12, some 117, .load 55 (T 4), some (115, true)⟩,
  ⟨13, some 118, .call ⟨.value (.func 41), #[(T 116), (T 117)], #[55, 55]⟩, some (115, true)⟩,
  ⟨14, some 119, .pick (T 115) (T 118) (.const (.bool false)), none⟩,
  ⟨15, some 120, .move (T 119), none⟩,
  ⟨16, some 121, .move (T 13), some (120, true)⟩,
  ⟨17, some 122, .move (T 15), some (120, true)⟩,
  ⟨18, some 123, .call ⟨.value (.func 37), #[(T 121), (T 122)], #[60, 60]⟩, some (120, true)⟩,
  ⟨19, some 124, .pick (T 120) (T 123) (.const (.bool false)), none⟩,
  ⟨20, some 6, .assign (T 124), none⟩] []
abbrev b9x11 : BC := .seq (.seq b9x5 (.cond (T 64) (.seq b9x6 .ret) .skip)) (.seq b9x7 (.seq b9x8 (.seq b9x9 (.seq b9x10 .ret))))
abbrev b9 : BC := .seq b9x0 (.seq (.seq b9x1 (.cond (T 25) (.seq b9x2 .ret) .skip)) (.seq b9x3 (.seq b9x4 b9x11)))
theorem c9 : Tryz.f9.body.bind (compile Tryz.f9.ntmps) = some b9 := by kernel_rfl
theorem ok9 : EntryOK Tryz.prog (9, ⟨125, b9, #[.tmp 6]⟩) := ⟨Tryz.f9, Tryz.func9, c9, Tryz.ntmps9, by kernel_rfl, Tryz.call9⟩
/-! scarfjoint/host.Set -/
abbrev b49x0 : BC := .reg [⟨0, some 5, .box 25 (T 0), none⟩,
  ⟨1, some 6, .box 55 (T 1), none⟩,
  ⟨2, some 10, .alloc 55, none⟩,
  ⟨3, some 11, .assign (K 0), none⟩] []
abbrev b49x1 : BC := .reg [⟨0, some 16, .load 25 (T 5), none⟩,
  ⟨1, some 17, .load 55 (T 6), none⟩,
  ⟨2, some 18, .call ⟨.value (.func 118), #[(T 16), (T 17)], #[25, 55]⟩, none⟩,
  ⟨3, some 12, .assign (T 18), none⟩] []
abbrev b49x2 : BC := .reg [⟨0, some 19, .move (T 12), none⟩,
  ⟨1, some 20, .binOp .neq 38 (T 19) (K 0) 38, none⟩] []
abbrev b49x3 : BC := .reg [⟨0, some 21, .build 55 #[], none⟩,
  ⟨1, some 22, .move (T 12), none⟩,
  ⟨2, none, .store 55 (T 10) (T 21), none⟩,
  ⟨3, some 11, .assign (T 22), none⟩] []
abbrev b49x4 : BC := .reg [⟨0, some 23, .move (T 2), none⟩,
  ⟨1, some 24, .binOp .lss 3 (T 23) (K 0) 3, none⟩,
  ⟨2, some 25, .move (T 24), none⟩,
  ⟨3, some 26, .move (T 2), some (25, false)⟩,
  ⟨4, some 27, .fieldAddr 55 (T 6) 0, some (25, false)⟩,
  ⟨5, some 28, .fieldAddr 29 (T 27) 0, some (25, false)⟩,
  ⟨6, some 29, .load 26 (T 28), some (25, false)⟩,
  ⟨7, some 30, .call ⟨.builtin .len, #[(T 29)], #[26]⟩, some (25, false)⟩,
  ⟨8, some 31, .binOp .geq 3 (T 26) (T 30) 3, some (25, false)⟩,
  ⟨9, some 32, .pick (T 25) (.const (.bool true)) (T 31), none⟩] []
abbrev b49x5 : BC := .reg [⟨0, some 33, .build 55 #[], none⟩,
  ⟨1, none, .store 55 (T 10) (T 33), none⟩,
  ⟨2, some 11, .assign (K 6), none⟩] []
abbrev b49x6 : BC := .reg [⟨0, some 35, .load 25 (T 5), none⟩,
  ⟨1, some 36, .fieldAddr 55 (T 6) 0, none⟩,
  ⟨2, some 37, .fieldAddr 29 (T 36) 0, none⟩,
  ⟨3, some 38, .load 26 (T 37), none⟩,
  ⟨4, some 39, .move (T 2), none⟩,
  ⟨5, some 40, .indexAddr 26 (T 38) (T 39), none⟩,
  ⟨6, some 41, .load 3 (T 40), none⟩,
  ⟨7, some 42, .call ⟨.value (.func 135), #[(T 35), (T 41)], #[25, 3]⟩, none⟩,
  ⟨8, some 34, .move (T 42), none⟩,
  ⟨9, some 43, .extract (T 34) 0, none⟩,
  ⟨10, some 44, .extract (T 34) 1, none⟩,
  ⟨11, some 13, .assign (T 43), none⟩,
  ⟨12, some 14, .assign (T 44), none⟩] [(0, 1), (0, 2), (0, 3), (0, 4), (1, 4), (2, 4), (3, 4), (0, 5), (0, 6), (9, 10), (10, 11)]
abbrev b49x7 : BC := .reg [⟨0, some 45, .move (T 3), none⟩,
  ⟨1, some 46, .binOp .lss 3 (T 45) (K 0) 3, none⟩,
  ⟨2, some 47, .move (T 46), none⟩,
  ⟨3, some 48, .move (T 3), some (47, false)⟩,
  ⟨4, some 49, .move (T 13), some (47, false)⟩,
  ⟨5, some 50, .call ⟨.builtin .len, #[(T 49)], #[155]⟩, some (47, false)⟩,
  ⟨6, some 51, .binOp .geq 3 (T 48) (T 50) 3, some (47, false)⟩,
  ⟨7, some 52, .pick (T 47) (.const (.bool true)) (T 51), none⟩,
  ⟨8, some 53, .move (T 52), none⟩,
  ⟨9, some 54, .move (T 4), some (53, false)⟩,
  ⟨10, some 55, .move (T 13), some (53, false)⟩,
  ⟨11, some 56, .move (T 3), some (53, false)⟩,
  ⟨12, some 57, .indexAddr 155 (T 55) (T 56), some (53, false)⟩,
  ⟨13, some 58, .fieldAddr 160 (T 57) 1, some (53, false)⟩,
  ⟨14, some 59, .load 3 (T 58), some (53, false)⟩,
  ⟨15, some 60, .binOp .lss 3 (T 54) (T 59) 3, some (53, false)⟩,
  ⟨16, some 61, .pick (T 53) (.const (.bool true)) (T 60), none⟩,
  ⟨17, some 62, .move (T 61), none⟩,
  ⟨18, some 63, .move (T 4), some (62, false)⟩,
  ⟨19, some 64, .move (T 13), some (62, false)⟩,
  ⟨20, some 65, .move (T 3), some (62, false)⟩,
  ⟨21, some 66, .indexAddr 155 (T 64) (T 65), some (62, false)⟩,
  ⟨22, some 67, .fieldAddr 160 (T 66) 2, some (62, false)⟩,
  ⟨23, some 68, .load 3 (T 67), some (62, false)⟩,
  ⟨24, some 69, .binOp .gtr 3 (T 63) (T 68) 3, some (62, false)⟩,
  ⟨25, some 70, .pick (T 62) (.const (.bool true)) (T 69), none⟩] []
abbrev b49x8 : BC := .reg [⟨0, some 71, .build 55 #[], none⟩,
  ⟨1, none, .store 55 (T 10) (T 71), none⟩,
  ⟨2, some 11, .assign (K 6), none⟩] []
abbrev b49x9 : BC := .reg [⟨0, some 72, .load 55 (T 6), none⟩,
  ⟨1, some 73, .call ⟨.value (.func 136), #[(T 72)], #[55]⟩, none⟩,
  ⟨2, some 15, .alloc 55, none⟩,
  ⟨3, none, .store 55 (T 15) (T 73), none⟩] []
abbrev b49x10 : BC := .reg [⟨0, some 74, .fieldAddr 55 (T 15) 1, none⟩,
  ⟨1, some 75, .load 53 (T 74), none⟩,
  ⟨2, some 76, .move (T 2), none⟩,
  ⟨3, some 77, .indexAddr 53 (T 75) (T 76), none⟩,
  ⟨4, some 78, .load 26 (T 77), none⟩,
  ⟨5, some 79, .move (T 3), none⟩,
  ⟨6, some 80, .move (T 4), none⟩,
  ⟨7, some 81, .indexAddr 26 (T 78) (T 79), none⟩,
  ⟨8, none, .store 3 (T 81) (T 80), none⟩] []
abbrev b49x11 : BC := .reg [⟨0, some 82, .load 55 (T 15), none⟩,
  ⟨1, none, .store 55 (T 10) (T 82), none⟩,
  ⟨2, some 11, .assign (K 0), none⟩] []
abbrev b49x12 : BC := .seq (.seq b49x7 (.cond (T 70) (.seq b49x8 .ret) .skip)) (.seq b49x9 (.seq b49x10 (.seq b49x11 .ret)))
abbrev b49x13 : BC := .seq (.seq b49x1 (.seq b49x2 (.cond (T 20) (.seq b49x3 .ret) .skip))) (.seq (.seq b49x4 (.cond (T 32) (.seq b49x5 .ret) .skip)) (.seq b49x6 b49x12))
abbrev b49 : BC := .seq b49x0 b49x13
theorem c49 : Tryz.f49.body.bind (compile Tryz.f49.ntmps) = some b49 := by kernel_rfl
theorem ok49 : EntryOK Tryz.prog (49, ⟨83, b49, #[.cell 10 55, .tmp 11]⟩) := ⟨Tryz.f49, Tryz.func49, c49, Tryz.ntmps49, by kernel_rfl, Tryz.call49⟩
/-! scarfjoint/scarfjointref15.Set -/
abbrev b50x0 : BC := .reg [⟨0, some 5, .box 25 (T 0), none⟩,
  ⟨1, some 6, .box 55 (T 1), none⟩,
  ⟨2, some 10, .alloc 55, none⟩,
  ⟨3, some 11, .assign (K 0), none⟩] []
abbrev b50x1 : BC := .reg [⟨0, some 18, .load 25 (T 5), none⟩,
  ⟨1, some 19, .load 55 (T 6), none⟩,
  ⟨2, some 20, .call ⟨.value (.func 34), #[(T 18), (T 19)], #[25, 55]⟩, none⟩,
  ⟨3, some 17, .move (T 20), none⟩,
  ⟨4, some 21, .extract (T 17) 0, none⟩,
  ⟨5, some 22, .extract (T 17) 1, none⟩,
  ⟨6, some 12, .assign (T 21), none⟩,
  ⟨7, some 13, .assign (T 22), none⟩] []
abbrev b50x2 : BC := .reg [⟨0, some 23, .move (T 13), none⟩,
  ⟨1, some 24, .binOp .neq 38 (T 23) (K 0) 38, none⟩] []
abbrev b50x3 : BC := .reg [⟨0, some 25, .build 55 #[], none⟩,
  ⟨1, some 26, .move (T 13), none⟩,
  ⟨2, none, .store 55 (T 10) (T 25), none⟩,
  ⟨3, some 11, .assign (T 26), none⟩] []
abbrev b50x4 : BC := .reg [⟨0, some 27, .move (T 2), none⟩,
  ⟨1, some 28, .binOp .lss 3 (T 27) (K 0) 3, none⟩,
  ⟨2, some 29, .move (T 28), none⟩,
  ⟨3, some 30, .move (T 2), some (29, false)⟩,
  ⟨4, some 31, .fieldAddr 55 (T 6) 0, some (29, false)⟩,
  ⟨5, some 32, .fieldAddr 29 (T 31) 0, some (29, false)⟩,
  ⟨6, some 33, .load 26 (T 32), some (29, false)⟩,
  ⟨7, some 34, .call ⟨.builtin .len, #[(T 33)], #[26]⟩, some (29, false)⟩,
  ⟨8, some 35, .binOp .geq 3 (T 30) (T 34) 3, some (29, false)⟩,
  ⟨9, some 36, .pick (T 29) (.const (.bool true)) (T 35), none⟩,
  ⟨10, some 37, .move (T 36), none⟩,
  ⟨11, some 38, .move (T 3), some (37, false)⟩,
  ⟨12, some 39, .binOp .lss 3 (T 38) (K 0) 3, some (37, false)⟩,
  ⟨13, some 40, .pick (T 37) (.const (.bool true)) (T 39), none⟩,
  ⟨14, some 41, .move (T 40), none⟩,
  ⟨15, some 42, .move (T 3), some (41, false)⟩,
  ⟨16, some 43, .fieldAddr 55 (T 6) 1, some (41, false)⟩,
  ⟨17, some 44, .load 53 (T 43), some (41, false)⟩,
  ⟨18, some 45, .move (T 2), some (41, false)⟩,
  ⟨19, some 46, .indexAddr 53 (T 44) (T 45), some (41, false)⟩,
  ⟨20, some 47, .load 26 (T 46), some (41, false)⟩,
  ⟨21, some 48, .call ⟨.builtin .len, #[(T 47)], #[26]⟩, some (41, false)⟩,
  ⟨22, some 49, .binOp .geq 3 (T 42) (T 48) 3, some (41, false)⟩,
  ⟨23, some 50, .pick (T 41) (.const (.bool true)) (T 49), none⟩] []
abbrev b50x5 : BC := .reg [⟨0, some 51, .build 55 #[], none⟩,
  ⟨1, none, .store 55 (T 10) (T 51), none⟩,
  ⟨2, some 11, .assign (K 6), none⟩] []
abbrev b50x6 : BC := .reg [⟨0, some 53, .load 25 (T 5), none⟩,
  ⟨1, some 54, .fieldAddr 55 (T 6) 0, none⟩,
  ⟨2, some 55, .fieldAddr 29 (T 54) 0, none⟩,
  ⟨3, some 56, .load 26 (T 55), none⟩,
  ⟨4, some 57, .move (T 2), none⟩,
  ⟨5, some 58, .indexAddr 26 (T 56) (T 57), none⟩,
  ⟨6, some 59, .load 3 (T 58), none⟩,
  ⟨7, some 60, .call ⟨.value (.func 130), #[(T 53), (T 59)], #[25, 3]⟩, none⟩,
  ⟨8, some 52, .move (T 60), none⟩,
  ⟨9, some 61, .extract (T 52) 0, none⟩,
  ⟨10, some 62, .extract (T 52) 1, none⟩,
  ⟨11, some 14, .assign (T 61), none⟩,
  ⟨12, some 15, .assign (T 62), none⟩] [(0, 1), (0, 2), (0, 3), (0, 4), (1, 4), (2, 4), (3, 4), (0, 5), (0, 6), (9, 10), (10, 11)]
abbrev b50x7 : BC := .reg [⟨0, some 63, .move (T 4), none⟩,
  ⟨1, some 64, .move (T 14), none⟩,
  ⟨2, some 65, .move (T 3), none⟩,
  ⟨3, some 66, .indexAddr 155 (T 64) (T 65), none⟩,
  ⟨4, some 67, .fieldAddr 160 (T 66) 1, none⟩,
  ⟨5, some 68, .load 3 (T 67), none⟩,
  ⟨6, some 69, .binOp .lss 3 (T 63) (T 68) 3, none⟩,
  ⟨7, some 70, .move (T 69), none⟩,
  ⟨8, some 71, .move (T 4), some (70, false)⟩,
  ⟨9, some 72, .move (T 14), some (70, false)⟩,
  ⟨10, some 73, .move (T 3), some (70, false)⟩,
  ⟨11, some 74, .indexAddr 155 (T 72) (T 73), some (70, false)⟩,
  ⟨12, some 75, .fieldAddr 160 (T 74) 2, some (70, false)⟩,
  ⟨13, some 76, .load 3 (T 75), some (70, false)⟩,
  ⟨14, some 77, .binOp .gtr 3 (T 71) (T 76) 3, some (70, false)⟩,
  ⟨15, some 78, .pick (T 70) (.const (.bool true)) (T 77), none⟩] []
abbrev b50x8 : BC := .reg [⟨0, some 79, .build 55 #[], none⟩,
  ⟨1, none, .store 55 (T 10) (T 79), none⟩,
  ⟨2, some 11, .assign (K 6), none⟩] []
abbrev b50x9 : BC := .reg [⟨0, some 80, .load 55 (T 6), none⟩,
  ⟨1, some 81, .call ⟨.value (.func 33), #[(T 80)], #[55]⟩, none⟩,
  ⟨2, some 16, .alloc 55, none⟩,
  ⟨3, none, .store 55 (T 16) (T 81), none⟩] []
abbrev b50x10 : BC := .reg [⟨0, some 82, .fieldAddr 55 (T 16) 1, none⟩,
  ⟨1, some 83, .load 53 (T 82), none⟩,
  ⟨2, some 84, .move (T 2), none⟩,
  ⟨3, some 85, .indexAddr 53 (T 83) (T 84), none⟩,
  ⟨4, some 86, .load 26 (T 85), none⟩,
  ⟨5, some 87, .move (T 3), none⟩,
  ⟨6, some 88, .move (T 4), none⟩,
  ⟨7, some 89, .indexAddr 26 (T 86) (T 87), none⟩,
  ⟨8, none, .store 3 (T 89) (T 88), none⟩] []
abbrev b50x11 : BC := .reg [⟨0, some 90, .load 55 (T 16), none⟩,
  ⟨1, none, .store 55 (T 10) (T 90), none⟩,
  ⟨2, some 11, .assign (K 0), none⟩] []
abbrev b50x12 : BC := .seq (.seq b50x7 (.cond (T 78) (.seq b50x8 .ret) .skip)) (.seq b50x9 (.seq b50x10 (.seq b50x11 .ret)))
abbrev b50x13 : BC := .seq (.seq b50x1 (.seq b50x2 (.cond (T 24) (.seq b50x3 .ret) .skip))) (.seq (.seq b50x4 (.cond (T 50) (.seq b50x5 .ret) .skip)) (.seq b50x6 b50x12))
abbrev b50 : BC := .seq b50x0 b50x13
theorem c50 : Tryz.f50.body.bind (compile Tryz.f50.ntmps) = some b50 := by kernel_rfl
theorem ok50 : EntryOK Tryz.prog (50, ⟨91, b50, #[.cell 10 55, .tmp 11]⟩) := ⟨Tryz.f50, Tryz.func50, c50, Tryz.ntmps50, by kernel_rfl, Tryz.call50⟩
/-! slices.Clone[[]scarfjoint/api.Edge,scarfjoint/api.Edge] -/
abbrev b106x0 : BC := .reg [⟨0, some 2, .assign (.const (.slice none 0 0)), none⟩] []
abbrev b106x1 : BC := .reg [⟨0, some 3, .move (T 0), none⟩,
  ⟨1, some 4, .binOp .eql 27 (T 3) (.const (.slice none 0 0)) 27, none⟩] []
abbrev b106x2 : BC := .reg [⟨0, some 2, .assign (.const (.slice none 0 0)), none⟩] []
abbrev b106x3 : BC := .reg [⟨0, some 5, .buildSlice 27 0 #[], none⟩,
  ⟨1, some 6, .move (T 0), none⟩,
  ⟨2, some 7, .call ⟨.builtin .append, #[(T 5), (T 6)], #[27, 27]⟩, none⟩,
  ⟨3, some 2, .assign (T 7), none⟩] []
abbrev b106 : BC := .seq b106x0 (.seq (.seq b106x1 (.cond (T 4) (.seq b106x2 .ret) .skip)) (.seq b106x3 .ret))
theorem c106 : Tryz.f106.body.bind (compile Tryz.f106.ntmps) = some b106 := by kernel_rfl
theorem ok106 : EntryOK Tryz.prog (106, ⟨8, b106, #[.tmp 2]⟩) := ⟨Tryz.f106, Tryz.func106, c106, Tryz.ntmps106, by kernel_rfl, Tryz.call106⟩
/-! scarfjoint/host.copied -/
abbrev b136x0 : BC := .reg [⟨0, some 1, .box 55 (T 0), none⟩,
  ⟨1, some 2, .alloc 55, none⟩] []
abbrev b136x1 : BC := .reg [⟨0, some 6, .fieldAddr 55 (T 1) 0, none⟩,
  ⟨1, some 7, .fieldAddr 29 (T 6) 0, none⟩,
  ⟨2, some 8, .load 26 (T 7), none⟩,
  ⟨3, some 9, .call ⟨.value (.func 27), #[(T 8)], #[26]⟩, none⟩,
  ⟨4, some 10, .fieldAddr 55 (T 1) 0, none⟩,
  ⟨5, some 11, .fieldAddr 29 (T 10) 1, none⟩,
  ⟨6, some 12, .load 27 (T 11), none⟩,
  ⟨7, some 13, .call ⟨.value (.func 106), #[(T 12)], #[27]⟩, none⟩,
  ⟨8, some 14, .build 29 #[(0, (T 9)), (1, (T 13))], none⟩,
  ⟨9, some 15, .build 55 #[(0, (T 14))], none⟩,
  ⟨10, some 3, .alloc 55, none⟩,
  ⟨11, none, .store 55 (T 3) (T 15), none⟩] [(0, 4), (1, 4), (2, 4), (3, 4), (0, 5), (1, 5), (2, 5), (3, 5), (0, 6), (1, 6), (2, 6), (3, 6), (0, 10), (1, 10), (2, 10), (3, 10), (4, 10), (5, 10), (6, 10), (7, 10), (8, 10), (9, 10)]
abbrev b136x2 : BC := .reg [⟨0, some 16, .fieldAddr 55 (T 1) 1, none⟩,
  ⟨1, some 17, .load 53 (T 16), none⟩,
  ⟨2, some 18, .call ⟨.builtin .len, #[(T 17)], #[53]⟩, none⟩,
  ⟨3, some 19, .move (K 0), none⟩] []
abbrev b136x3 : BC := .reg [⟨0, some 20, .binOp .lss 3 (T 19) (T 18) 3, none⟩] []
abbrev b136x4 : BC := .reg [⟨0, some 21, .indexAddr 53 (T 17) (T 19), none⟩,
  ⟨1, some 22, .load 26 (T 21), none⟩,
  ⟨2, some 5, .assign (T 22), none⟩] []
abbrev b136x5 : BC := .reg [⟨0, some 23, .fieldAddr 55 (T 3) 1, none⟩,
  ⟨1, some 24, .load 53 (T 23), none⟩,
  ⟨2, some 25, .move (T 5), none⟩,
  ⟨3, some 26, .call ⟨.value (.func 27), #[(T 25)], #[26]⟩, none⟩,
  ⟨4, some 27, .buildSlice 53 1 #[(0, (T 26))], none⟩,
  ⟨5, some 28, .call ⟨.builtin .append, #[(T 24), (T 27)], #[53, 53]⟩, none⟩,
  ⟨6, some 29, .fieldAddr 55 (T 3) 1, none⟩,
  ⟨7, none, .store 53 (T 29) (T 28), none⟩] [(0, 2), (1, 2), (0, 3), (1, 3), (0, 4), (1, 4)]
abbrev b136x6 : BC := .reg [⟨0, some 30, .binOp .add 3 (T 19) (K 1) 3, none⟩,
  ⟨1, some 19, .move (T 30), none⟩] []
abbrev b136x7 : BC := .loop (.seq b136x3 (.seq (.cond (T 20) .skip (.exit 0)) (.seq (.block 1 (.seq b136x4 b136x5)) b136x6)))
abbrev b136x8 : BC := .reg [⟨0, some 31, .load 55 (T 3), none⟩,
  ⟨1, none, .store 55 (T 2) (T 31), none⟩] []
abbrev b136 : BC := .seq b136x0 (.seq b136x1 (.seq (.seq b136x2 (.block 0 b136x7)) (.seq b136x8 .ret)))
theorem c136 : Tryz.f136.body.bind (compile Tryz.f136.ntmps) = some b136 := by kernel_rfl
theorem ok136 : EntryOK Tryz.prog (136, ⟨32, b136, #[.cell 2 55]⟩) := ⟨Tryz.f136, Tryz.func136, c136, Tryz.ntmps136, by kernel_rfl, Tryz.call136⟩
end Go.Av
