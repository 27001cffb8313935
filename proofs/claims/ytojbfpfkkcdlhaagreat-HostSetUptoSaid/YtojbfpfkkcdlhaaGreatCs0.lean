/- Code of functions: what the compiled form of each is. -/
import Derived.Test.YtojbfpfkkcdlhaaGreatAv19
import Derived.KernelRfl
import Derived.Test.YtojbfpfkkcdlhaaGreatProg
namespace Go.Av
set_option linter.unusedVariables false
set_option linter.unusedSimpArgs false
open Go.Proofs
/-! scarfjoint/scarfjointlaw15.HostSameness -/
abbrev b8x0 : BC := .reg [⟨0, some 2, .box 55 (T 0), none⟩,
  ⟨1, some 3, .box 55 (T 1), none⟩,
  ⟨2, some 4, .assign (.const (.bool false)), none⟩] []
abbrev b8x1 : BC := .reg [⟨0, some 5, .call ⟨.value (.func 30), #[], #[]⟩, none⟩,
  ⟨1, some 6, .unOp .not 4 (T 5), none⟩,
  ⟨2, some 7, .move (T 6), none⟩,
  ⟨3, some 8, .load 55 (T 2), some (7, false)⟩,
  ⟨4, some 9, .call ⟨.value (.func 47), #[(T 8)], #[55]⟩, some (7, false)⟩,
  ⟨5, some 10, .unOp .not 4 (T 9), some (7, false)⟩,
  ⟨6, some 11, .pick (T 7) (.const (.bool true)) (T 10), none⟩,
  ⟨7, some 12, .move (T 11), none⟩,
  ⟨8, some 13, .load 55 (T 3), some (12, false)⟩,
  ⟨9, some 14, .call ⟨.value (.func 47), #[(T 13)], #[55]⟩, some (12, false)⟩,
  ⟨10, some 15, .unOp .not 4 (T 14), some (12, false)⟩,
  ⟨11, some 16, .pick (T 12) (.const (.bool true)) (T 15), none⟩] []
abbrev b8x2 : BC := .reg [⟨0, some 17, .call ⟨.value (.func 30), #[], #[]⟩, none⟩,
  ⟨1, some 4, .assign (T 17), none⟩] []
abbrev b8x3 : BC := .reg [⟨0, some 18, .load 55 (T 2), none⟩,
  ⟨1, some 19, .call ⟨.value (.func 33), #[(T 18)], #[55]⟩, none⟩,
  ⟨2, some 20, .load 55 (T 3), none⟩,
  ⟨3, some 21, .call ⟨.value (.func 48), #[(T 19), (T 20)], #[55, 55]⟩, none⟩,
  ⟨4, some 22, .load 55 (T 2), none⟩,
  ⟨5, some 23, .load 55 (T 3), none⟩,
  ⟨6, some 24, .call ⟨.value (.func 41), #[(T 22), (T 23)], #[55, 55]⟩, none⟩,
  ⟨7, some 25, .binOp .eql 4 (T 21) (T 24) 4, none⟩,
  ⟨8, some 26, .move (T 25), none⟩,
  ⟨9, some 27, .load 55 (T 2), some (26, true)⟩,
  ⟨10, some 28, .load 55 (T 2), some (26, true)⟩,
  ⟨11, some 29, .call ⟨.value (.func 33), #[(T 28)], #[55]⟩, some (26, true)⟩,
  ⟨12, some 30, .call ⟨.value (.func 48), #[(T 27), (T 29)], #[55, 55]⟩, some (26, true)⟩,
  ⟨13, some 31, .pick (T 26) (T 30) (.const (.bool false)), none⟩,
  ⟨14, some 4, .assign (T 31), none⟩] [(0, 2), (1, 2), (0, 4), (1, 4), (2, 4), (3, 4), (0, 5), (1, 5), (2, 5), (3, 5), (4, 5), (9, 10), (9, 11)]
abbrev b8 : BC := .seq b8x0 (.seq (.seq b8x1 (.cond (T 16) (.seq b8x2 .ret) .skip)) (.seq b8x3 .ret))
theorem c8 : Tryz.f8.body.bind (compile Tryz.f8.ntmps) = some b8 := by kernel_rfl
theorem ok8 : EntryOK Tryz.prog (8, ⟨32, b8, #[.tmp 4]⟩) := ⟨Tryz.f8, Tryz.func8, c8, Tryz.ntmps8, by kernel_rfl, Tryz.call8⟩
/-! slices.Clone[[]int,int] -/
abbrev b27x0 : BC := .reg [⟨0, some 2, .assign (.const (.slice none 0 0)), none⟩] []
abbrev b27x1 : BC := .reg [⟨0, some 3, .move (T 0), none⟩,
  ⟨1, some 4, .binOp .eql 26 (T 3) (.const (.slice none 0 0)) 26, none⟩] []
abbrev b27x2 : BC := .reg [⟨0, some 2, .assign (.const (.slice none 0 0)), none⟩] []
abbrev b27x3 : BC := .reg [⟨0, some 5, .buildSlice 26 0 #[], none⟩,
  ⟨1, some 6, .move (T 0), none⟩,
  ⟨2, some 7, .call ⟨.builtin .append, #[(T 5), (T 6)], #[26, 26]⟩, none⟩,
  ⟨3, some 2, .assign (T 7), none⟩] []
abbrev b27 : BC := .seq b27x0 (.seq (.seq b27x1 (.cond (T 4) (.seq b27x2 .ret) .skip)) (.seq b27x3 .ret))
theorem c27 : Tryz.f27.body.bind (compile Tryz.f27.ntmps) = some b27 := by kernel_rfl
theorem ok27 : EntryOK Tryz.prog (27, ⟨8, b27, #[.tmp 2]⟩) := ⟨Tryz.f27, Tryz.func27, c27, Tryz.ntmps27, by kernel_rfl, Tryz.call27⟩
/-! scarfjoint/scarfjointlaw15.awake -/
abbrev b30x0 : BC := .reg [⟨0, some 0, .assign (.const (.bool false)), none⟩] []
abbrev b30x1 : BC := .reg [⟨0, some 13, .call ⟨.value (.func 43), #[], #[]⟩, none⟩,
  ⟨1, some 14, .call ⟨.value (.func 111), #[], #[]⟩, none⟩,
  ⟨2, some 1, .alloc 25, none⟩,
  ⟨3, some 2, .alloc 55, none⟩,
  ⟨4, none, .store 25 (T 1) (T 13), none⟩,
  ⟨5, none, .store 55 (T 2) (T 14), none⟩] []
abbrev b30x2 : BC := .reg [⟨0, some 16, .load 25 (T 1), none⟩,
  ⟨1, some 17, .load 55 (T 2), none⟩,
  ⟨2, some 18, .call ⟨.value (.func 32), #[(T 16), (T 17)], #[25, 55]⟩, none⟩,
  ⟨3, some 15, .move (T 18), none⟩,
  ⟨4, some 19, .extract (T 15) 0, none⟩,
  ⟨5, some 20, .extract (T 15) 1, none⟩,
  ⟨6, some 3, .assign (T 19), none⟩,
  ⟨7, some 4, .assign (T 20), none⟩] []
abbrev b30x3 : BC := .reg [⟨0, some 22, .load 25 (T 1), none⟩,
  ⟨1, some 23, .load 55 (T 2), none⟩,
  ⟨2, some 24, .call ⟨.value (.func 35), #[(T 22), (T 23)], #[25, 55]⟩, none⟩,
  ⟨3, some 21, .move (T 24), none⟩,
  ⟨4, some 25, .extract (T 21) 0, none⟩,
  ⟨5, some 26, .extract (T 21) 1, none⟩,
  ⟨6, some 5, .assign (T 25), none⟩,
  ⟨7, some 6, .assign (T 26), none⟩] []
abbrev b30x4 : BC := .reg [⟨0, some 28, .load 25 (T 1), none⟩,
  ⟨1, some 29, .load 55 (T 2), none⟩,
  ⟨2, some 30, .call ⟨.value (.func 39), #[(T 28), (T 29)], #[25, 55]⟩, none⟩,
  ⟨3, some 27, .move (T 30), none⟩,
  ⟨4, some 31, .extract (T 27) 0, none⟩,
  ⟨5, some 32, .extract (T 27) 1, none⟩,
  ⟨6, some 33, .extract (T 27) 2, none⟩,
  ⟨7, some 7, .alloc 55, none⟩,
  ⟨8, some 8, .alloc 68, none⟩,
  ⟨9, none, .store 55 (T 7) (T 31), none⟩,
  ⟨10, none, .store 68 (T 8) (T 32), none⟩,
  ⟨11, some 9, .assign (T 33), none⟩] []
abbrev b30x5 : BC := .reg [⟨0, some 34, .fieldAddr 55 (T 2) 0, none⟩,
  ⟨1, some 35, .fieldAddr 29 (T 34) 1, none⟩,
  ⟨2, some 36, .load 27 (T 35), none⟩,
  ⟨3, some 37, .slice 27 (T 36) none (some (K 1)) none, none⟩,
  ⟨4, some 38, .fieldAddr 55 (T 2) 0, none⟩,
  ⟨5, some 39, .fieldAddr 29 (T 38) 1, none⟩,
  ⟨6, none, .store 27 (T 39) (T 37), none⟩] []
abbrev b30x6 : BC := .reg [⟨0, some 41, .load 25 (T 1), none⟩,
  ⟨1, some 42, .load 55 (T 2), none⟩,
  ⟨2, some 43, .call ⟨.value (.func 35), #[(T 41), (T 42)], #[25, 55]⟩, none⟩,
  ⟨3, some 40, .move (T 43), none⟩,
  ⟨4, some 44, .extract (T 40) 0, none⟩,
  ⟨5, some 45, .extract (T 40) 1, none⟩,
  ⟨6, some 10, .assign (T 44), none⟩,
  ⟨7, some 11, .assign (T 45), none⟩] []
abbrev b30x7 : BC := .reg [⟨0, some 46, .buildSlice 26 3 #[(0, (K 1)), (1, (K 1)), (2, (K 3))], none⟩,
  ⟨1, some 47, .build 84 #[(0, (K 0)), (1, (K 2)), (2, (K 0))], none⟩,
  ⟨2, some 48, .build 84 #[(0, (K 0)), (1, (K 2)), (2, (K 1))], none⟩,
  ⟨3, some 49, .buildSlice 27 2 #[(0, (T 47)), (1, (T 48))], none⟩,
  ⟨4, some 50, .build 29 #[(0, (T 46)), (1, (T 49))], none⟩,
  ⟨5, some 51, .buildSlice 26 1 #[(0, (K 5))], none⟩,
  ⟨6, some 52, .buildSlice 26 1 #[(0, (K 10))], none⟩,
  ⟨7, some 53, .buildSlice 53 3 #[(0, (T 51)), (1, (T 52)), (2, (.const (.slice none 0 0)))], none⟩,
  ⟨8, some 54, .build 55 #[(0, (T 50)), (1, (T 53))], none⟩,
  ⟨9, some 12, .alloc 55, none⟩,
  ⟨10, none, .store 55 (T 12) (T 54), none⟩] []
abbrev b30x8 : BC := .reg [⟨0, some 55, .move (T 3), none⟩,
  ⟨1, some 56, .binOp .eql 3 (T 55) (K (-1)) 3, none⟩,
  ⟨2, some 57, .move (T 56), none⟩,
  ⟨3, some 58, .move (T 4), some (57, true)⟩,
  ⟨4, some 59, .binOp .eql 38 (T 58) (K 0) 38, some (57, true)⟩,
  ⟨5, some 60, .pick (T 57) (T 59) (.const (.bool false)), none⟩,
  ⟨6, some 61, .move (T 60), none⟩,
  ⟨7, some 62, .move (T 6), some (61, true)⟩,
  ⟨8, some 63, .binOp .eql 38 (T 62) (K 0) 38, some (61, true)⟩,
  ⟨9, some 64, .pick (T 61) (T 63) (.const (.bool false)), none⟩,
  ⟨10, some 65, .move (T 64), none⟩,
  ⟨11, some 66, .move (T 9), some (65, true)⟩,
  ⟨12, some 67, .binOp .eql 38 (T 66) (K 0) 38, some (65, true)⟩,
  ⟨13, some 68, .pick (T 65) (T 67) (.const (.bool false)), none⟩,
  ⟨14, some 69, .move (T 68), none⟩,
  ⟨15, some 70, .move (T 11), some (69, true)⟩,
  ⟨16, some 71, .binOp .eql 38 (T 70) (K 0) 38, some (69, true)⟩,
  ⟨17, some 72, .pick (T 69) (T 71) (.const (.bool false)), none⟩,
  ⟨18, some 73, .move (T 72), none⟩,
  ⟨19, some 74, .move (T 5), some (73, true)⟩,
  ⟨20, some 75, .call ⟨.builtin .len, #[(T 74)], #[60]⟩, some (73, true)⟩,
  ⟨21, some 76, .binOp .eql 3 (T 75) (K 0) 3, some (73, true)⟩,
  ⟨22, some 77, .pick (T 73) (T 76) (.const (.bool false)), none⟩,
  ⟨23, some 78, .move (T 77), none⟩,
  ⟨24, some 79, .load 55 (T 7), some (78, true)⟩,
  ⟨25, some 80, .load 55 (T 12), some (78, true)⟩,
  ⟨26, some 81, .call ⟨.value (.func 41), #[(T 79), (T 80)], #[55, 55]⟩, some (78, true)⟩,
  ⟨27, some 82, .pick (T 78) (T 81) (.const (.bool false)), none⟩,
  ⟨28, some 83, .move (T 82), none⟩,
  ⟨29, some 84, .fieldAddr 68 (T 8) 0, some (83, true)⟩,
  ⟨30, some 85, .load 26 (T 84), some (83, true)⟩,
  ⟨31, some 86, .buildSlice 26 3 #[(0, (K 2)), (1, (K 1)), (2, (K 0))], some (83, true)⟩,
  ⟨32, some 87, .call ⟨.value (.func 56), #[(T 85), (T 86)], #[26, 26]⟩, some (83, true)⟩,
  ⟨33, some 88, .pick (T 83) (T 87) (.const (.bool false)), none⟩,
  ⟨34, some 89, .move (T 88), none⟩,
  ⟨35, some 90, .move (T 10), some (89, true)⟩,
  ⟨36, some 91, .build 65 #[(0, (K 0)), (1, (K 2)), (2, (K 0)), (3, (.const (.bool false)))], some (89, true)⟩,
  ⟨37, some 92, .buildSlice 60 1 #[(0, (T 91))], some (89, true)⟩,
  ⟨38, some 93, .call ⟨.value (.func 37), #[(T 90), (T 92)], #[60, 60]⟩, some (89, true)⟩,
  ⟨39, some 94, .pick (T 89) (T 93) (.const (.bool false)), none⟩,
  ⟨40, some 0, .assign (T 94), none⟩] []
abbrev b30x9 : BC := .seq b30x1 (.seq b30x2 (.seq b30x3 (.seq b30x4 (.seq b30x5 (.seq b30x6 (.seq b30x7 (.seq b30x8 .ret)))))))
abbrev b30 : BC := .seq b30x0 b30x9
theorem c30 : Tryz.f30.body.bind (compile Tryz.f30.ntmps) = some b30 := by kernel_rfl
theorem ok30 : EntryOK Tryz.prog (30, ⟨95, b30, #[.tmp 0]⟩) := ⟨Tryz.f30, Tryz.func30, c30, Tryz.ntmps30, by kernel_rfl, Tryz.call30⟩
/-! scarfjoint/host.Valid -/
abbrev b32x0 : BC := .reg [⟨0, some 2, .box 25 (T 0), none⟩,
  ⟨1, some 3, .box 55 (T 1), none⟩,
  ⟨2, some 4, .assign (K 0), none⟩,
  ⟨3, some 5, .assign (K 0), none⟩] []
abbrev b32x1 : BC := .reg [⟨0, some 15, .load 25 (T 2), none⟩,
  ⟨1, some 16, .call ⟨.value (.func 89), #[(T 15)], #[25]⟩, none⟩,
  ⟨2, some 14, .move (T 16), none⟩,
  ⟨3, some 17, .extract (T 14) 0, none⟩,
  ⟨4, some 18, .extract (T 14) 1, none⟩,
  ⟨5, some 6, .assign (T 17), none⟩,
  ⟨6, some 7, .assign (T 18), none⟩] []
abbrev b32x2 : BC := .reg [⟨0, some 19, .move (T 7), none⟩,
  ⟨1, some 20, .binOp .neq 38 (T 19) (K 0) 38, none⟩] []
abbrev b32x3 : BC := .reg [⟨0, some 21, .move (T 7), none⟩,
  ⟨1, some 4, .assign (K (-1)), none⟩,
  ⟨2, some 5, .assign (T 21), none⟩] []
abbrev b32x4 : BC := .reg [⟨0, some 22, .fieldAddr 55 (T 3) 0, none⟩,
  ⟨1, some 23, .load 29 (T 22), none⟩,
  ⟨2, some 24, .call ⟨.value (.func 90), #[(T 23)], #[29]⟩, none⟩,
  ⟨3, some 8, .assign (T 24), none⟩] []
abbrev b32x5 : BC := .reg [⟨0, some 25, .move (T 8), none⟩,
  ⟨1, some 26, .binOp .neq 38 (T 25) (K 0) 38, none⟩] []
abbrev b32x6 : BC := .reg [⟨0, some 27, .move (T 8), none⟩,
  ⟨1, some 4, .assign (K (-1)), none⟩,
  ⟨2, some 5, .assign (T 27), none⟩] []
abbrev b32x7 : BC := .reg [⟨0, some 28, .fieldAddr 55 (T 3) 1, none⟩,
  ⟨1, some 29, .load 53 (T 28), none⟩,
  ⟨2, some 30, .call ⟨.builtin .len, #[(T 29)], #[53]⟩, none⟩,
  ⟨3, some 31, .fieldAddr 55 (T 3) 0, none⟩,
  ⟨4, some 32, .fieldAddr 29 (T 31) 0, none⟩,
  ⟨5, some 33, .load 26 (T 32), none⟩,
  ⟨6, some 34, .call ⟨.builtin .len, #[(T 33)], #[26]⟩, none⟩,
  ⟨7, some 35, .binOp .neq 3 (T 30) (T 34) 3, none⟩] []
abbrev b32x8 : BC := .reg [⟨0, some 4, .assign (K (-1)), none⟩,
  ⟨1, some 5, .assign (K 20), none⟩] []
abbrev b32x9 : BC := .reg [⟨0, some 36, .fieldAddr 55 (T 3) 0, none⟩,
  ⟨1, some 37, .fieldAddr 29 (T 36) 0, none⟩,
  ⟨2, some 38, .load 26 (T 37), none⟩,
  ⟨3, some 39, .call ⟨.builtin .len, #[(T 38)], #[26]⟩, none⟩,
  ⟨4, some 40, .move (K 0), none⟩] []
abbrev b32x10 : BC := .reg [⟨0, some 41, .binOp .lss 3 (T 40) (T 39) 3, none⟩] []
abbrev b32x11 : BC := .reg [⟨0, some 42, .move (T 40), none⟩,
  ⟨1, some 43, .indexAddr 26 (T 38) (T 40), none⟩,
  ⟨2, some 44, .load 3 (T 43), none⟩,
  ⟨3, some 9, .assign (T 42), none⟩,
  ⟨4, some 10, .assign (T 44), none⟩] []
abbrev b32x12 : BC := .reg [⟨0, some 45, .load 25 (T 2), none⟩,
  ⟨1, some 46, .move (T 10), none⟩,
  ⟨2, some 47, .fieldAddr 55 (T 3) 1, none⟩,
  ⟨3, some 48, .load 53 (T 47), none⟩,
  ⟨4, some 49, .move (T 9), none⟩,
  ⟨5, some 50, .indexAddr 53 (T 48) (T 49), none⟩,
  ⟨6, some 51, .load 26 (T 50), none⟩,
  ⟨7, some 52, .call ⟨.value (.func 114), #[(T 45), (T 46), (T 51)], #[25, 3, 26]⟩, none⟩,
  ⟨8, some 11, .assign (T 52), none⟩] [(0, 1), (0, 2), (1, 2), (0, 3), (1, 3), (0, 4), (1, 4), (2, 4), (3, 4), (0, 5), (1, 5), (0, 6), (1, 6)]
abbrev b32x13 : BC := .reg [⟨0, some 53, .move (T 11), none⟩,
  ⟨1, some 54, .binOp .neq 38 (T 53) (K 0) 38, none⟩] []
abbrev b32x14 : BC := .reg [⟨0, some 55, .move (T 9), none⟩,
  ⟨1, some 56, .move (T 11), none⟩,
  ⟨2, some 4, .assign (T 55), none⟩,
  ⟨3, some 5, .assign (T 56), none⟩] []
abbrev b32x15 : BC := .reg [⟨0, some 57, .binOp .add 3 (T 40) (K 1) 3, none⟩,
  ⟨1, some 40, .move (T 57), none⟩] []
abbrev b32x16 : BC := .seq (.block 1 (.seq b32x11 (.seq b32x12 (.seq b32x13 (.cond (T 54) (.seq b32x14 .ret) .skip))))) b32x15
abbrev b32x17 : BC := .loop (.seq b32x10 (.seq (.cond (T 41) .skip (.exit 0)) b32x16))
abbrev b32x18 : BC := .reg [⟨0, some 58, .fieldAddr 55 (T 3) 0, none⟩,
  ⟨1, some 59, .fieldAddr 29 (T 58) 1, none⟩,
  ⟨2, some 60, .load 27 (T 59), none⟩,
  ⟨3, some 61, .call ⟨.builtin .len, #[(T 60)], #[27]⟩, none⟩,
  ⟨4, some 62, .move (K 0), none⟩] []
abbrev b32x19 : BC := .reg [⟨0, some 63, .binOp .lss 3 (T 62) (T 61) 3, none⟩] []
abbrev b32x20 : BC := .reg [⟨0, some 64, .move (T 62), none⟩,
  ⟨1, some 65, .indexAddr 27 (T 60) (T 62), none⟩,
  ⟨2, some 66, .load 84 (T 65), none⟩,
  ⟨3, some 13, .alloc 84, none⟩,
  ⟨4, some 12, .assign (T 64), none⟩,
  ⟨5, none, .store 84 (T 13) (T 66), none⟩] []
abbrev b32x21 : BC := .reg [⟨0, some 67, .fieldAddr 84 (T 13) 0, none⟩,
  ⟨1, some 68, .load 3 (T 67), none⟩,
  ⟨2, some 69, .fieldAddr 25 (T 2) 1, none⟩,
  ⟨3, some 70, .load 23 (T 69), none⟩,
  ⟨4, some 71, .call ⟨.builtin .len, #[(T 70)], #[23]⟩, none⟩,
  ⟨5, some 72, .binOp .geq 3 (T 68) (T 71) 3, none⟩] []
abbrev b32x22 : BC := .reg [⟨0, some 73, .move (T 12), none⟩,
  ⟨1, some 4, .assign (T 73), none⟩,
  ⟨2, some 5, .assign (K 6), none⟩] []
abbrev b32x23 : BC := .reg [⟨0, some 74, .load 25 (T 2), none⟩,
  ⟨1, some 75, .fieldAddr 84 (T 13) 0, none⟩,
  ⟨2, some 76, .load 3 (T 75), none⟩,
  ⟨3, some 77, .fieldAddr 55 (T 3) 0, none⟩,
  ⟨4, some 78, .fieldAddr 29 (T 77) 0, none⟩,
  ⟨5, some 79, .load 26 (T 78), none⟩,
  ⟨6, some 80, .fieldAddr 84 (T 13) 1, none⟩,
  ⟨7, some 81, .load 3 (T 80), none⟩,
  ⟨8, some 82, .indexAddr 26 (T 79) (T 81), none⟩,
  ⟨9, some 83, .load 3 (T 82), none⟩,
  ⟨10, some 84, .fieldAddr 55 (T 3) 0, none⟩,
  ⟨11, some 85, .fieldAddr 29 (T 84) 0, none⟩,
  ⟨12, some 86, .load 26 (T 85), none⟩,
  ⟨13, some 87, .fieldAddr 84 (T 13) 2, none⟩,
  ⟨14, some 88, .load 3 (T 87), none⟩,
  ⟨15, some 89, .indexAddr 26 (T 86) (T 88), none⟩,
  ⟨16, some 90, .load 3 (T 89), none⟩,
  ⟨17, some 91, .call ⟨.value (.func 115), #[(T 74), (T 76), (T 83), (T 90)], #[25, 3, 3, 3]⟩, none⟩,
  ⟨18, some 92, .unOp .not 4 (T 91), none⟩] [(0, 1), (0, 2), (0, 3), (1, 3), (2, 3), (0, 4), (1, 4), (2, 4), (0, 5), (1, 5), (2, 5), (0, 6), (1, 6), (2, 6), (3, 6), (4, 6), (5, 6), (0, 7), (1, 7), (2, 7), (3, 7), (4, 7), (5, 7), (0, 8), (1, 8), (2, 8), (0, 9), (1, 9), (2, 9), (0, 10), (1, 10), (2, 10), (3, 10), (4, 10), (5, 10), (6, 10), (7, 10), (8, 10), (9, 10), (0, 11), (1, 11), (2, 11), (3, 11), (4, 11), (5, 11), (6, 11), (7, 11), (8, 11), (9, 11), (0, 12), (1, 12), (2, 12), (3, 12), (4, 12), (5, 12), (6, 12), (7, 12), (8, 12), (9, 12), (0, 13), (1, 13), (2, 13), (3, 13), (4, 13), (5, 13), (6, 13), (7, 13), (8, 13), (9, 13), (10, 13), (11, 13), (12, 13), (0, 14), (1, 14), (2, 14), (3, 14), (4, 14), (5, 14), (6, 14), (7, 14), (8, 14), (9, 14), (10, 14), (11, 14), (12, 14), (0, 15), (1, 15), (2, 15), (3, 15), (4, 15), (5, 15), (6, 15), (7, 15), (8, 15), (9, 15), (0, 16), (1, 16), (2, 16), (3, 16), (4, 16), (5, 16), (6, 16), (7, 16), (8, 16), (9, 16)]
abbrev b32x24 : BC := .reg [⟨0, some 93, .move (T 12), none⟩,
  ⟨1, some 4, .assign (T 93), none⟩,
  ⟨2, some 5, .assign (K 13), none⟩] []
abbrev b32x25 : BC := .seq (.seq b32x21 (.cond (T 72) (.seq b32x22 .ret) .skip)) (.seq b32x23 (.cond (T 92) (.seq b32x24 .ret) .skip))
abbrev b32x26 : BC := .reg [⟨0, some 94, .binOp .add 3 (T 62) (K 1) 3, none⟩,
  ⟨1, some 62, .move (T 94), none⟩] []
abbrev b32x27 : BC := .loop (.seq b32x19 (.seq (.cond (T 63) .skip (.exit 2)) (.seq (.block 3 (.seq b32x20 b32x25)) b32x26)))
abbrev b32x28 : BC := .reg [⟨0, some 4, .assign (K (-1)), none⟩,
  ⟨1, some 5, .assign (K 0), none⟩] []
abbrev b32x29 : BC := .seq (.seq b32x7 (.cond (T 35) (.seq b32x8 .ret) .skip)) (.seq (.seq b32x9 (.block 0 b32x17)) (.seq (.seq b32x18 (.block 2 b32x27)) (.seq b32x28 .ret)))
abbrev b32x30 : BC := .seq (.seq b32x1 (.seq b32x2 (.cond (T 20) (.seq b32x3 .ret) .skip))) (.seq (.seq b32x4 (.seq b32x5 (.cond (T 26) (.seq b32x6 .ret) .skip))) b32x29)
abbrev b32 : BC := .seq b32x0 b32x30
theorem c32 : Tryz.f32.body.bind (compile Tryz.f32.ntmps) = some b32 := by kernel_rfl
theorem ok32 : EntryOK Tryz.prog (32, ⟨95, b32, #[.tmp 4, .tmp 5]⟩) := ⟨Tryz.f32, Tryz.func32, c32, Tryz.ntmps32, by kernel_rfl, Tryz.call32⟩
/-! scarfjoint/scarfjointref15.Copied -/
abbrev b33x0 : BC := .reg [⟨0, some 1, .box 55 (T 0), none⟩,
  ⟨1, some 2, .alloc 55, none⟩] []
abbrev b33x1 : BC := .reg [⟨0, some 5, .fieldAddr 55 (T 1) 0, none⟩,
  ⟨1, some 6, .load 29 (T 5), none⟩,
  ⟨2, some 7, .call ⟨.value (.func 86), #[(T 6)], #[29]⟩, none⟩,
  ⟨3, some 8, .build 55 #[(0, (T 7))], none⟩,
  ⟨4, some 3, .alloc 55, none⟩,
  ⟨5, none, .store 55 (T 3) (T 8), none⟩] []
abbrev b33x2 : BC := .reg [⟨0, some 4, .assign (K 0), none⟩] []
abbrev b33x3 : BC := .reg [⟨0, some 9, .move (T 4), none⟩,
  ⟨1, some 10, .fieldAddr 55 (T 1) 1, none⟩,
  ⟨2, some 11, .load 53 (T 10), none⟩,
  ⟨3, some 12, .call ⟨.builtin .len, #[(T 11)], #[53]⟩, none⟩,
  ⟨4, some 13, .binOp .lss 3 (T 9) (T 12) 3, none⟩] []
abbrev b33x4 : BC := .reg [⟨0, some 16, .fieldAddr 55 (T 3) 1, none⟩,
  ⟨1, some 17, .load 53 (T 16), none⟩,
  ⟨2, some 18, .buildSlice 26 0 #[], none⟩,
  ⟨3, some 19, .fieldAddr 55 (T 1) 1, none⟩,
  ⟨4, some 20, .load 53 (T 19), none⟩,
  ⟨5, some 21, .move (T 4), none⟩,
  ⟨6, some 22, .indexAddr 53 (T 20) (T 21), none⟩,
  ⟨7, some 23, .load 26 (T 22), none⟩,
  ⟨8, some 24, .call ⟨.builtin .append, #[(T 18), (T 23)], #[26, 26]⟩, none⟩,
  ⟨9, some 25, .buildSlice 53 1 #[(0, (T 24))], none⟩,
  ⟨10, some 26, .call ⟨.builtin .append, #[(T 17), (T 25)], #[53, 53]⟩, none⟩,
  ⟨11, some 27, .fieldAddr 55 (T 3) 1, none⟩,
  ⟨12, none, .store 53 (T 27) (T 26), none⟩] [(0, 2), (1, 2), (0, 3), (1, 3), (2, 3), (0, 4), (1, 4), (2, 4), (0, 5), (1, 5), (2, 5), (3, 5), (4, 5), (0, 6), (1, 6), (2, 6), (0, 7), (1, 7), (2, 7), (0, 8), (1, 8), (0, 9), (1, 9)]
abbrev b33x5 : BC := .reg [⟨0, some 14, .move (T 4), none⟩,
  ⟨1, some 15, .binOp .add 3 (T 14) (K 1) 3, none⟩,
  ⟨2, some 4, .assign (T 15), none⟩] []
abbrev b33x6 : BC := .loop (.seq (.seq b33x3 (.cond (T 13) .skip (.exit 0))) (.seq (.block 1 b33x4) b33x5))
abbrev b33x7 : BC := .reg [⟨0, some 28, .load 55 (T 3), none⟩,
  ⟨1, none, .store 55 (T 2) (T 28), none⟩] []
abbrev b33 : BC := .seq b33x0 (.seq b33x1 (.seq (.seq b33x2 (.block 0 b33x6)) (.seq b33x7 .ret)))
theorem c33 : Tryz.f33.body.bind (compile Tryz.f33.ntmps) = some b33 := by kernel_rfl
theorem ok33 : EntryOK Tryz.prog (33, ⟨29, b33, #[.cell 2 55]⟩) := ⟨Tryz.f33, Tryz.func33, c33, Tryz.ntmps33, by kernel_rfl, Tryz.call33⟩
/-! scarfjoint/host.Excesses -/
abbrev b35x0 : BC := .reg [⟨0, some 2, .box 25 (T 0), none⟩,
  ⟨1, some 3, .box 55 (T 1), none⟩,
  ⟨2, some 4, .assign (.const (.slice none 0 0)), none⟩,
  ⟨3, some 5, .assign (K 0), none⟩] []
abbrev b35x1 : BC := .reg [⟨0, some 10, .load 25 (T 2), none⟩,
  ⟨1, some 11, .load 55 (T 3), none⟩,
  ⟨2, some 12, .call ⟨.value (.func 118), #[(T 10), (T 11)], #[25, 55]⟩, none⟩,
  ⟨3, some 6, .assign (T 12), none⟩] []
abbrev b35x2 : BC := .reg [⟨0, some 13, .move (T 6), none⟩,
  ⟨1, some 14, .binOp .neq 38 (T 13) (K 0) 38, none⟩] []
abbrev b35x3 : BC := .reg [⟨0, some 15, .move (T 6), none⟩,
  ⟨1, some 4, .assign (.const (.slice none 0 0)), none⟩,
  ⟨2, some 5, .assign (T 15), none⟩] []
abbrev b35x4 : BC := .reg [⟨0, some 7, .assign (.const (.slice none 0 0)), none⟩] []
abbrev b35x5 : BC := .reg [⟨0, some 16, .fieldAddr 25 (T 2) 1, none⟩,
  ⟨1, some 17, .load 23 (T 16), none⟩,
  ⟨2, some 18, .call ⟨.builtin .len, #[(T 17)], #[23]⟩, none⟩,
  ⟨3, some 19, .move (K 0), none⟩] []
abbrev b35x6 : BC := .reg [⟨0, some 20, .binOp .lss 3 (T 19) (T 18) 3, none⟩] []
abbrev b35x7 : BC := .reg [⟨0, some 21, .move (T 19), none⟩,
  ⟨1, some 22, .indexAddr 23 (T 17) (T 19), none⟩,
  ⟨2, some 23, .load 81 (T 22), none⟩,
  ⟨3, some 9, .alloc 81, none⟩,
  ⟨4, some 8, .assign (T 21), none⟩,
  ⟨5, none, .store 81 (T 9) (T 23), none⟩] []
abbrev b35x8 : BC := .reg [⟨0, some 24, .move (T 7), none⟩,
  ⟨1, some 25, .load 25 (T 2), none⟩,
  ⟨2, some 26, .load 55 (T 3), none⟩,
  ⟨3, some 27, .move (T 8), none⟩,
  ⟨4, some 28, .fieldAddr 81 (T 9) 1, none⟩,
  ⟨5, some 29, .load 3 (T 28), none⟩,
  ⟨6, some 30, .fieldAddr 81 (T 9) 3, none⟩,
  ⟨7, some 31, .load 3 (T 30), none⟩,
  ⟨8, some 32, .fieldAddr 81 (T 9) 4, none⟩,
  ⟨9, some 33, .load 3 (T 32), none⟩,
  ⟨10, some 34, .call ⟨.value (.func 119), #[(T 25), (T 26), (T 27), (.const (.bool true)), (T 29), (T 31), (T 33)], #[25, 55, 3, 4, 3, 3, 3]⟩, none⟩,
  ⟨11, some 35, .call ⟨.builtin .append, #[(T 24), (T 34)], #[60, 60]⟩, none⟩,
  ⟨12, some 7, .assign (T 35), none⟩] []
abbrev b35x9 : BC := .reg [⟨0, some 36, .move (T 7), none⟩,
  ⟨1, some 37, .load 25 (T 2), none⟩,
  ⟨2, some 38, .load 55 (T 3), none⟩,
  ⟨3, some 39, .move (T 8), none⟩,
  ⟨4, some 40, .fieldAddr 81 (T 9) 2, none⟩,
  ⟨5, some 41, .load 3 (T 40), none⟩,
  ⟨6, some 42, .fieldAddr 81 (T 9) 5, none⟩,
  ⟨7, some 43, .load 3 (T 42), none⟩,
  ⟨8, some 44, .fieldAddr 81 (T 9) 6, none⟩,
  ⟨9, some 45, .load 3 (T 44), none⟩,
  ⟨10, some 46, .call ⟨.value (.func 119), #[(T 37), (T 38), (T 39), (.const (.bool false)), (T 41), (T 43), (T 45)], #[25, 55, 3, 4, 3, 3, 3]⟩, none⟩,
  ⟨11, some 47, .call ⟨.builtin .append, #[(T 36), (T 46)], #[60, 60]⟩, none⟩,
  ⟨12, some 7, .assign (T 47), none⟩] []
abbrev b35x10 : BC := .reg [⟨0, some 48, .binOp .add 3 (T 19) (K 1) 3, none⟩,
  ⟨1, some 19, .move (T 48), none⟩] []
abbrev b35x11 : BC := .seq b35x6 (.seq (.cond (T 20) .skip (.exit 0)) (.seq (.block 1 (.seq b35x7 (.seq b35x8 b35x9))) b35x10))
abbrev b35x12 : BC := .loop b35x11
abbrev b35x13 : BC := .reg [⟨0, some 49, .move (T 7), none⟩,
  ⟨1, some 4, .assign (T 49), none⟩,
  ⟨2, some 5, .assign (K 0), none⟩] []
abbrev b35x14 : BC := .seq (.seq b35x1 (.seq b35x2 (.cond (T 14) (.seq b35x3 .ret) .skip))) (.seq b35x4 (.seq (.seq b35x5 (.block 0 b35x12)) (.seq b35x13 .ret)))
abbrev b35 : BC := .seq b35x0 b35x14
theorem c35 : Tryz.f35.body.bind (compile Tryz.f35.ntmps) = some b35 := by kernel_rfl
theorem ok35 : EntryOK Tryz.prog (35, ⟨50, b35, #[.tmp 4, .tmp 5]⟩) := ⟨Tryz.f35, Tryz.func35, c35, Tryz.ntmps35, by kernel_rfl, Tryz.call35⟩
/-! slices.Equal[[]scarfjoint/api.Excess,scarfjoint/api.Excess] -/
abbrev b37x0 : BC := .reg [⟨0, some 4, .assign (.const (.bool false)), none⟩] []
abbrev b37x1 : BC := .reg [⟨0, some 6, .move (T 0), none⟩,
  ⟨1, some 7, .call ⟨.builtin .len, #[(T 6)], #[60]⟩, none⟩,
  ⟨2, some 8, .move (T 1), none⟩,
  ⟨3, some 9, .call ⟨.builtin .len, #[(T 8)], #[60]⟩, none⟩,
  ⟨4, some 10, .binOp .neq 3 (T 7) (T 9) 3, none⟩] []
abbrev b37x2 : BC := .reg [⟨0, some 4, .assign (.const (.bool false)), none⟩] []
abbrev b37x3 : BC := .reg [⟨0, some 11, .move (T 0), none⟩,
  ⟨1, some 12, .call ⟨.builtin .len, #[(T 11)], #[60]⟩, none⟩,
  ⟨2, some 13, .move (K 0), none⟩] []
abbrev b37x4 : BC := .reg [⟨0, some 14, .binOp .lss 3 (T 13) (T 12) 3, none⟩] []
abbrev b37x5 : BC := .reg [⟨0, some 15, .move (T 13), none⟩,
  ⟨1, some 5, .assign (T 15), none⟩] []
abbrev b37x6 : BC := .reg [⟨0, some 16, .move (T 0), none⟩,
  ⟨1, some 17, .move (T 5), none⟩,
  ⟨2, some 18, .indexAddr 60 (T 16) (T 17), none⟩,
  ⟨3, some 19, .load 65 (T 18), none⟩,
  ⟨4, some 20, .move (T 1), none⟩,
  ⟨5, some 21, .move (T 5), none⟩,
  ⟨6, some 22, .indexAddr 60 (T 20) (T 21), none⟩,
  ⟨7, some 23, .load 65 (T 22), none⟩,
  ⟨8, some 24, .binOp .neq 65 (T 19) (T 23) 65, none⟩] [(0, 1), (0, 4), (1, 4), (2, 4), (3, 4), (0, 5), (1, 5), (2, 5), (3, 5), (4, 5), (0, 6), (1, 6), (2, 6), (3, 6), (0, 7), (1, 7), (2, 7), (3, 7)]
abbrev b37x7 : BC := .reg [⟨0, some 4, .assign (.const (.bool false)), none⟩] []
abbrev b37x8 : BC := .reg [⟨0, some 25, .binOp .add 3 (T 13) (K 1) 3, none⟩,
  ⟨1, some 13, .move (T 25), none⟩] []
abbrev b37x9 : BC := .seq (.cond (T 14) .skip (.exit 0)) (.seq (.block 1 (.seq b37x5 (.seq b37x6 (.cond (T 24) (.seq b37x7 .ret) .skip)))) b37x8)
abbrev b37x10 : BC := .loop (.seq b37x4 b37x9)
abbrev b37x11 : BC := .reg [⟨0, some 4, .assign (.const (.bool true)), none⟩] []
abbrev b37x12 : BC := .seq (.seq b37x1 (.cond (T 10) (.seq b37x2 .ret) .skip)) (.seq (.seq b37x3 (.block 0 b37x10)) (.seq b37x11 .ret))
abbrev b37 : BC := .seq b37x0 b37x12
theorem c37 : Tryz.f37.body.bind (compile Tryz.f37.ntmps) = some b37 := by kernel_rfl
theorem ok37 : EntryOK Tryz.prog (37, ⟨26, b37, #[.tmp 4]⟩) := ⟨Tryz.f37, Tryz.func37, c37, Tryz.ntmps37, by kernel_rfl, Tryz.call37⟩
/-! scarfjoint/host.Canonical -/
abbrev b39x0 : BC := .reg [⟨0, some 2, .box 25 (T 0), none⟩,
  ⟨1, some 3, .box 55 (T 1), none⟩,
  ⟨2, some 4, .alloc 55, none⟩,
  ⟨3, some 5, .alloc 68, none⟩,
  ⟨4, some 6, .assign (K 0), none⟩] []
abbrev b39x1 : BC := .reg [⟨0, some 16, .load 25 (T 2), none⟩,
  ⟨1, some 17, .load 55 (T 3), none⟩,
  ⟨2, some 18, .call ⟨.value (.func 118), #[(T 16), (T 17)], #[25, 55]⟩, none⟩,
  ⟨3, some 7, .assign (T 18), none⟩] []
abbrev b39x2 : BC := .reg [⟨0, some 19, .move (T 7), none⟩,
  ⟨1, some 20, .binOp .neq 38 (T 19) (K 0) 38, none⟩] []
abbrev b39x3 : BC := .reg [⟨0, some 21, .build 55 #[], none⟩,
  ⟨1, some 22, .build 68 #[], none⟩,
  ⟨2, some 23, .move (T 7), none⟩,
  ⟨3, none, .store 55 (T 4) (T 21), none⟩,
  ⟨4, none, .store 68 (T 5) (T 22), none⟩,
  ⟨5, some 6, .assign (T 23), none⟩] []
abbrev b39x4 : BC := .reg [⟨0, some 24, .fieldAddr 55 (T 3) 0, none⟩,
  ⟨1, some 25, .fieldAddr 29 (T 24) 0, none⟩,
  ⟨2, some 26, .load 26 (T 25), none⟩,
  ⟨3, some 27, .call ⟨.builtin .len, #[(T 26)], #[26]⟩, none⟩,
  ⟨4, some 28, .binOp .gtr 3 (T 27) (K 8) 3, none⟩] []
abbrev b39x5 : BC := .reg [⟨0, some 29, .build 55 #[], none⟩,
  ⟨1, some 30, .build 68 #[], none⟩,
  ⟨2, none, .store 55 (T 4) (T 29), none⟩,
  ⟨3, none, .store 68 (T 5) (T 30), none⟩,
  ⟨4, some 6, .assign (K 3), none⟩] []
abbrev b39x6 : BC := .reg [⟨0, some 31, .load 55 (T 3), none⟩,
  ⟨1, some 32, .build 200 #[(0, (T 31))], none⟩,
  ⟨2, some 33, .box 200 (T 32), none⟩,
  ⟨3, some 8, .assign (T 33), none⟩] []
abbrev b39x7 : BC := .reg [⟨0, some 34, .move (T 8), none⟩,
  ⟨1, some 35, .call ⟨.value (.func 122), #[(T 34)], #[198]⟩, none⟩] []
abbrev b39x8 : BC := .reg [⟨0, some 9, .alloc 55, none⟩] []
abbrev b39x9 : BC := .reg [⟨0, some 36, .move (T 8), none⟩,
  ⟨1, some 37, .nilCheck (T 36), none⟩,
  ⟨2, some 38, .fieldAddr 200 (T 37) 3, none⟩,
  ⟨3, some 39, .load 26 (T 38), none⟩,
  ⟨4, some 40, .call ⟨.builtin .len, #[(T 39)], #[26]⟩, none⟩,
  ⟨5, some 41, .makeSlice 26 (T 40) (T 40), none⟩,
  ⟨6, some 42, .fieldAddr 55 (T 3) 0, none⟩,
  ⟨7, some 43, .fieldAddr 29 (T 42) 1, none⟩,
  ⟨8, some 44, .load 27 (T 43), none⟩,
  ⟨9, some 45, .call ⟨.builtin .len, #[(T 44)], #[27]⟩, none⟩,
  ⟨10, some 46, .makeSlice 26 (T 45) (T 45), none⟩,
  ⟨11, some 47, .build 68 #[(0, (T 41)), (1, (T 46))], none⟩,
  ⟨12, some 10, .alloc 68, none⟩,
  ⟨13, none, .store 68 (T 10) (T 47), none⟩] [(0, 6), (1, 6), (2, 6), (3, 6), (4, 6), (5, 6), (0, 7), (1, 7), (2, 7), (3, 7), (4, 7), (5, 7), (0, 8), (1, 8), (2, 8), (3, 8), (4, 8), (5, 8), (0, 9), (1, 9), (2, 9), (3, 9), (4, 9), (5, 9), (0, 10), (1, 10), (2, 10), (3, 10), (4, 10), (5, 10), (0, 12), (1, 12), (2, 12), (3, 12), (4, 12), (5, 12), (6, 12), (7, 12), (8, 12), (9, 12), (10, 12), (11, 12)]
abbrev b39x10 : BC := .reg [⟨0, some 48, .move (T 8), none⟩,
  ⟨1, some 49, .nilCheck (T 48), none⟩,
  ⟨2, some 50, .fieldAddr 200 (T 49) 3, none⟩,
  ⟨3, some 51, .load 26 (T 50), none⟩,
  ⟨4, some 52, .call ⟨.builtin .len, #[(T 51)], #[26]⟩, none⟩,
  ⟨5, some 53, .move (K 0), none⟩] []
abbrev b39x11 : BC := .reg [⟨0, some 54, .binOp .lss 3 (T 53) (T 52) 3, none⟩] []
abbrev b39x12 : BC := .reg [⟨0, some 55, .move (T 53), none⟩,
  ⟨1, some 56, .indexAddr 26 (T 51) (T 53), none⟩,
  ⟨2, some 57, .load 3 (T 56), none⟩,
  ⟨3, some 11, .assign (T 55), none⟩,
  ⟨4, some 12, .assign (T 57), none⟩] []
abbrev b39x13 : BC := .reg [⟨0, some 58, .fieldAddr 68 (T 10) 0, none⟩,
  ⟨1, some 59, .load 26 (T 58), none⟩,
  ⟨2, some 60, .move (T 12), none⟩,
  ⟨3, some 61, .move (T 11), none⟩,
  ⟨4, some 62, .indexAddr 26 (T 59) (T 60), none⟩,
  ⟨5, none, .store 3 (T 62) (T 61), none⟩] []
abbrev b39x14 : BC := .reg [⟨0, some 63, .fieldAddr 55 (T 9) 0, none⟩,
  ⟨1, some 64, .fieldAddr 29 (T 63) 0, none⟩,
  ⟨2, some 65, .load 26 (T 64), none⟩,
  ⟨3, some 66, .fieldAddr 55 (T 3) 0, none⟩,
  ⟨4, some 67, .fieldAddr 29 (T 66) 0, none⟩,
  ⟨5, some 68, .load 26 (T 67), none⟩,
  ⟨6, some 69, .move (T 12), none⟩,
  ⟨7, some 70, .indexAddr 26 (T 68) (T 69), none⟩,
  ⟨8, some 71, .load 3 (T 70), none⟩,
  ⟨9, some 72, .buildSlice 26 1 #[(0, (T 71))], none⟩,
  ⟨10, some 73, .call ⟨.builtin .append, #[(T 65), (T 72)], #[26, 26]⟩, none⟩,
  ⟨11, some 74, .fieldAddr 55 (T 9) 0, none⟩,
  ⟨12, some 75, .fieldAddr 29 (T 74) 0, none⟩,
  ⟨13, none, .store 26 (T 75) (T 73), none⟩] [(0, 3), (1, 3), (2, 3), (0, 4), (1, 4), (2, 4), (0, 5), (1, 5), (2, 5), (0, 6), (1, 6), (2, 6), (3, 6), (4, 6), (5, 6), (0, 7), (1, 7), (2, 7), (0, 8), (1, 8), (2, 8), (0, 9), (1, 9), (2, 9)]
abbrev b39x15 : BC := .reg [⟨0, some 76, .fieldAddr 55 (T 9) 1, none⟩,
  ⟨1, some 77, .load 53 (T 76), none⟩,
  ⟨2, some 78, .fieldAddr 55 (T 3) 1, none⟩,
  ⟨3, some 79, .load 53 (T 78), none⟩,
  ⟨4, some 80, .move (T 12), none⟩,
  ⟨5, some 81, .indexAddr 53 (T 79) (T 80), none⟩,
  ⟨6, some 82, .load 26 (T 81), none⟩,
  ⟨7, some 83, .call ⟨.value (.func 27), #[(T 82)], #[26]⟩, none⟩,
  ⟨8, some 84, .buildSlice 53 1 #[(0, (T 83))], none⟩,
  ⟨9, some 85, .call ⟨.builtin .append, #[(T 77), (T 84)], #[53, 53]⟩, none⟩,
  ⟨10, some 86, .fieldAddr 55 (T 9) 1, none⟩,
  ⟨11, none, .store 53 (T 86) (T 85), none⟩] [(0, 2), (1, 2), (0, 3), (1, 3), (0, 4), (1, 4), (2, 4), (3, 4), (0, 5), (1, 5), (0, 6), (1, 6), (0, 7), (1, 7), (0, 8), (1, 8)]
abbrev b39x16 : BC := .reg [⟨0, some 87, .binOp .add 3 (T 53) (K 1) 3, none⟩,
  ⟨1, some 53, .move (T 87), none⟩] []
abbrev b39x17 : BC := .seq (.cond (T 54) .skip (.exit 0)) (.seq (.block 1 (.seq b39x12 (.seq b39x13 (.seq b39x14 b39x15)))) b39x16)
abbrev b39x18 : BC := .loop (.seq b39x11 b39x17)
abbrev b39x19 : BC := .reg [⟨0, some 88, .fieldAddr 55 (T 3) 0, none⟩,
  ⟨1, some 89, .load 29 (T 88), none⟩,
  ⟨2, some 90, .fieldAddr 68 (T 10) 0, none⟩,
  ⟨3, some 91, .load 26 (T 90), none⟩,
  ⟨4, some 92, .call ⟨.value (.func 123), #[(T 89), (T 91)], #[29, 26]⟩, none⟩,
  ⟨5, some 93, .call ⟨.builtin .len, #[(T 92)], #[26]⟩, none⟩,
  ⟨6, some 94, .move (K 0), none⟩] []
abbrev b39x20 : BC := .reg [⟨0, some 95, .binOp .lss 3 (T 94) (T 93) 3, none⟩] []
abbrev b39x21 : BC := .reg [⟨0, some 96, .move (T 94), none⟩,
  ⟨1, some 97, .indexAddr 26 (T 92) (T 94), none⟩,
  ⟨2, some 98, .load 3 (T 97), none⟩,
  ⟨3, some 13, .assign (T 96), none⟩,
  ⟨4, some 14, .assign (T 98), none⟩] []
abbrev b39x22 : BC := .reg [⟨0, some 99, .fieldAddr 55 (T 3) 0, none⟩,
  ⟨1, some 100, .fieldAddr 29 (T 99) 1, none⟩,
  ⟨2, some 101, .load 27 (T 100), none⟩,
  ⟨3, some 102, .move (T 14), none⟩,
  ⟨4, some 103, .indexAddr 27 (T 101) (T 102), none⟩,
  ⟨5, some 104, .load 84 (T 103), none⟩,
  ⟨6, some 15, .alloc 84, none⟩,
  ⟨7, none, .store 84 (T 15) (T 104), none⟩] []
abbrev b39x23 : BC := .reg [⟨0, some 105, .fieldAddr 68 (T 10) 1, none⟩,
  ⟨1, some 106, .load 26 (T 105), none⟩,
  ⟨2, some 107, .move (T 14), none⟩,
  ⟨3, some 108, .move (T 13), none⟩,
  ⟨4, some 109, .indexAddr 26 (T 106) (T 107), none⟩,
  ⟨5, none, .store 3 (T 109) (T 108), none⟩] []
abbrev b39x24 : BC := .reg [⟨0, some 110, .fieldAddr 55 (T 9) 0, none⟩,
  ⟨1, some 111, .fieldAddr 29 (T 110) 1, none⟩,
  ⟨2, some 112, .load 27 (T 111), none⟩,
  ⟨3, some 113, .fieldAddr 84 (T 15) 0, none⟩,
  ⟨4, some 114, .load 3 (T 113), none⟩,
  ⟨5, some 115, .fieldAddr 68 (T 10) 0, none⟩,
  ⟨6, some 116, .load 26 (T 115), none⟩,
  ⟨7, some 117, .fieldAddr 84 (T 15) 1, none⟩,
  ⟨8, some 118, .load 3 (T 117), none⟩,
  ⟨9, some 119, .indexAddr 26 (T 116) (T 118), none⟩,
  ⟨10, some 120, .load 3 (T 119), none⟩,
  ⟨11, some 121, .fieldAddr 68 (T 10) 0, none⟩,
  ⟨12, some 122, .load 26 (T 121), none⟩,
  ⟨13, some 123, .fieldAddr 84 (T 15) 2, none⟩,
  ⟨14, some 124, .load 3 (T 123), none⟩,
  ⟨15, some 125, .indexAddr 26 (T 122) (T 124), none⟩,
  ⟨16, some 126, .load 3 (T 125), none⟩,
  ⟨17, some 127, .build 84 #[(0, (T 114)), (1, (T 120)), (2, (T 126))], none⟩,
  ⟨18, some 128, .buildSlice 27 1 #[(0, (T 127))], none⟩,
  ⟨19, some 129, .call ⟨.builtin .append, #[(T 112), (T 128)], #[27, 27]⟩, none⟩,
  ⟨20, some 130, .fieldAddr 55 (T 9) 0, none⟩,
  ⟨21, some 131, .fieldAddr 29 (T 130) 1, none⟩,
  ⟨22, none, .store 27 (T 131) (T 129), none⟩] [(0, 3), (1, 3), (2, 3), (0, 4), (1, 4), (2, 4), (0, 5), (1, 5), (2, 5), (3, 5), (4, 5), (0, 6), (1, 6), (2, 6), (3, 6), (4, 6), (0, 7), (1, 7), (2, 7), (3, 7), (4, 7), (5, 7), (6, 7), (0, 8), (1, 8), (2, 8), (3, 8), (4, 8), (5, 8), (6, 8), (0, 9), (1, 9), (2, 9), (3, 9), (4, 9), (0, 10), (1, 10), (2, 10), (3, 10), (4, 10), (0, 11), (1, 11), (2, 11), (3, 11), (4, 11), (5, 11), (6, 11), (7, 11), (8, 11), (9, 11), (10, 11), (0, 12), (1, 12), (2, 12), (3, 12), (4, 12), (5, 12), (6, 12), (7, 12), (8, 12), (9, 12), (10, 12), (0, 13), (1, 13), (2, 13), (3, 13), (4, 13), (5, 13), (6, 13), (7, 13), (8, 13), (9, 13), (10, 13), (11, 13), (12, 13), (0, 14), (1, 14), (2, 14), (3, 14), (4, 14), (5, 14), (6, 14), (7, 14), (8, 14), (9, 14), (10, 14), (11, 14), (12, 14), (0, 15), (1, 15), (2, 15), (3, 15), (4, 15), (5, 15), (6, 15), (7, 15), (8, 15), (9, 15), (10, 15), (0, 16), (1, 16), (2, 16), (3, 16), (4, 16), (5, 16), (6, 16), (7, 16), (8, 16), (9, 16), (10, 16), (0, 17), (1, 17), (2, 17), (0, 18), (1, 18), (2, 18)]
abbrev b39x25 : BC := .reg [⟨0, some 132, .binOp .add 3 (T 94) (K 1) 3, none⟩,
  ⟨1, some 94, .move (T 132), none⟩] []
abbrev b39x26 : BC := .seq (.cond (T 95) .skip (.exit 2)) (.seq (.block 3 (.seq b39x21 (.seq b39x22 (.seq b39x23 b39x24)))) b39x25)
abbrev b39x27 : BC := .loop (.seq b39x20 b39x26)
abbrev b39x28 : BC := .reg [⟨0, some 133, .load 55 (T 9), none⟩,
  ⟨1, some 134, .load 68 (T 10), none⟩,
  ⟨2, none, .store 55 (T 4) (T 133), none⟩,
  ⟨3, none, .store 68 (T 5) (T 134), none⟩,
  ⟨4, some 6, .assign (K 0), none⟩] [(0, 1), (1, 2)]
abbrev b39x29 : BC := .seq b39x9 (.seq (.seq b39x10 (.block 0 b39x18)) (.seq (.seq b39x19 (.block 2 b39x27)) (.seq b39x28 .ret)))
abbrev b39x30 : BC := .seq (.seq b39x4 (.cond (T 28) (.seq b39x5 .ret) .skip)) (.seq b39x6 (.seq b39x7 (.seq b39x8 b39x29)))
abbrev b39 : BC := .seq b39x0 (.seq (.seq b39x1 (.seq b39x2 (.cond (T 20) (.seq b39x3 .ret) .skip))) b39x30)
theorem c39 : Tryz.f39.body.bind (compile Tryz.f39.ntmps) = some b39 := by kernel_rfl
theorem ok39 : EntryOK Tryz.prog (39, ⟨135, b39, #[.cell 4 55, .cell 5 68, .tmp 6]⟩) := ⟨Tryz.f39, Tryz.func39, c39, Tryz.ntmps39, by kernel_rfl, Tryz.call39⟩
/-! scarfjoint/scarfjointref15.Same -/
abbrev b41x0 : BC := .reg [⟨0, some 2, .box 55 (T 0), none⟩,
  ⟨1, some 3, .box 55 (T 1), none⟩,
  ⟨2, some 4, .assign (.const (.bool false)), none⟩] []
abbrev b41x1 : BC := .reg [⟨0, some 6, .fieldAddr 55 (T 2) 0, none⟩,
  ⟨1, some 7, .load 29 (T 6), none⟩,
  ⟨2, some 8, .fieldAddr 55 (T 3) 0, none⟩,
  ⟨3, some 9, .load 29 (T 8), none⟩,
  ⟨4, some 10, .call ⟨.value (.func 110), #[(T 7), (T 9)], #[29, 29]⟩, none⟩,
  ⟨5, some 11, .unOp .not 4 (T 10), none⟩,
  ⟨6, some 12, .move (T 11), none⟩,
  ⟨7, some 13, .fieldAddr 55 (T 2) 1, some (12, false)⟩,
  ⟨8, some 14, .load 53 (T 13), some (12, false)⟩,
  ⟨9, some 15, .call ⟨.builtin .len, #[(T 14)], #[53]⟩, some (12, false)⟩,
  ⟨10, some 16, .fieldAddr 55 (T 3) 1, some (12, false)⟩,
  ⟨11, some 17, .load 53 (T 16), some (12, false)⟩,
  ⟨12, some 18, .call ⟨.builtin .len, #[(T 17)], #[53]⟩, some (12, false)⟩,
  ⟨13, some 19, .binOp .neq 3 (T 15) (T 18) 3, some (12, false)⟩,
  ⟨14, some 20, .pick (T 12) (.const (.bool true)) (T 19), none⟩] []
abbrev b41x2 : BC := .reg [⟨0, some 4, .assign (.const (.bool false)), none⟩] []
abbrev b41x3 : BC := .reg [⟨0, some 5, .assign (K 0), none⟩] []
abbrev b41x4 : BC := .reg [⟨0, some 21, .move (T 5), none⟩,
  ⟨1, some 22, .fieldAddr 55 (T 2) 1, none⟩,
  ⟨2, some 23, .load 53 (T 22), none⟩,
  ⟨3, some 24, .call ⟨.builtin .len, #[(T 23)], #[53]⟩, none⟩,
  ⟨4, some 25, .binOp .lss 3 (T 21) (T 24) 3, none⟩] []
abbrev b41x5 : BC := .reg [⟨0, some 28, .fieldAddr 55 (T 2) 1, none⟩,
  ⟨1, some 29, .load 53 (T 28), none⟩,
  ⟨2, some 30, .move (T 5), none⟩,
  ⟨3, some 31, .indexAddr 53 (T 29) (T 30), none⟩,
  ⟨4, some 32, .load 26 (T 31), none⟩,
  ⟨5, some 33, .fieldAddr 55 (T 3) 1, none⟩,
  ⟨6, some 34, .load 53 (T 33), none⟩,
  ⟨7, some 35, .move (T 5), none⟩,
  ⟨8, some 36, .indexAddr 53 (T 34) (T 35), none⟩,
  ⟨9, some 37, .load 26 (T 36), none⟩,
  ⟨10, some 38, .call ⟨.value (.func 127), #[(T 32), (T 37)], #[26, 26]⟩, none⟩,
  ⟨11, some 39, .binOp .neq 3 (T 38) (K 0) 3, none⟩] [(0, 2), (1, 2), (0, 5), (1, 5), (2, 5), (3, 5), (4, 5), (0, 6), (1, 6), (2, 6), (3, 6), (4, 6), (0, 7), (1, 7), (2, 7), (3, 7), (4, 7), (5, 7), (6, 7), (0, 8), (1, 8), (2, 8), (3, 8), (4, 8), (0, 9), (1, 9), (2, 9), (3, 9), (4, 9)]
abbrev b41x6 : BC := .reg [⟨0, some 4, .assign (.const (.bool false)), none⟩] []
abbrev b41x7 : BC := .reg [⟨0, some 26, .move (T 5), none⟩,
  ⟨1, some 27, .binOp .add 3 (T 26) (K 1) 3, none⟩,
  ⟨2, some 5, .assign (T 27), none⟩] []
abbrev b41x8 : BC := .seq (.seq b41x4 (.cond (T 25) .skip (.exit 0))) (.seq (.block 1 (.seq b41x5 (.cond (T 39) (.seq b41x6 .ret) .skip))) b41x7)
abbrev b41x9 : BC := .loop b41x8
abbrev b41x10 : BC := .reg [⟨0, some 4, .assign (.const (.bool true)), none⟩] []
abbrev b41x11 : BC := .seq (.seq b41x1 (.cond (T 20) (.seq b41x2 .ret) .skip)) (.seq (.seq b41x3 (.block 0 b41x9)) (.seq b41x10 .ret))
abbrev b41 : BC := .seq b41x0 b41x11
theorem c41 : Tryz.f41.body.bind (compile Tryz.f41.ntmps) = some b41 := by kernel_rfl
theorem ok41 : EntryOK Tryz.prog (41, ⟨40, b41, #[.tmp 4]⟩) := ⟨Tryz.f41, Tryz.func41, c41, Tryz.ntmps41, by kernel_rfl, Tryz.call41⟩
/-! scarfjoint/scarfjointref04.Example -/
abbrev b43x0 : BC := .reg [⟨0, some 0, .alloc 25, none⟩] []
abbrev b43x1 : BC := .reg [⟨0, some 1, .build 160 #[(0, (.const (.string ⟨#[98, 97, 108, 97, 110, 99, 101]⟩))), (1, (K (-1000))), (2, (K 1000))], none⟩,
  ⟨1, some 2, .buildSlice 155 1 #[(0, (T 1))], none⟩,
  ⟨2, some 3, .build 157 #[(0, (.const (.string ⟨#[65, 99, 99, 111, 117, 110, 116]⟩))), (1, (K (-1))), (2, (.const (.bool true))), (3, (T 2))], none⟩,
  ⟨3, some 4, .build 157 #[(0, (.const (.string ⟨#[67, 97, 115, 104]⟩))), (1, (K 0))], none⟩,
  ⟨4, some 5, .buildSlice 158 2 #[(0, (.const (.string ⟨#[111, 112, 101, 110]⟩))), (1, (.const (.string ⟨#[99, 108, 111, 115, 101, 100]⟩)))], none⟩,
  ⟨5, some 6, .build 160 #[(0, (.const (.string ⟨#[115, 116, 97, 116, 101]⟩))), (2, (K 1)), (3, (T 5))], none⟩,
  ⟨6, some 7, .buildSlice 155 1 #[(0, (T 6))], none⟩,
  ⟨7, some 8, .build 157 #[(0, (.const (.string ⟨#[76, 111, 97, 110]⟩))), (1, (K 0)), (3, (T 7))], none⟩,
  ⟨8, some 9, .build 157 #[(0, (.const (.string ⟨#[80, 101, 114, 115, 111, 110]⟩))), (1, (K (-1)))], none⟩,
  ⟨9, some 10, .buildSlice 22 4 #[(0, (T 3)), (1, (T 4)), (2, (T 8)), (3, (T 9))], none⟩,
  ⟨10, some 11, .build 81 #[(0, (.const (.string ⟨#[111, 119, 110, 115]⟩))), (1, (K 3)), (2, (K 0)), (4, (K (-1))), (5, (K 1)), (6, (K 1))], none⟩,
  ⟨11, some 12, .build 81 #[(0, (.const (.string ⟨#[112, 97, 121, 115]⟩))), (1, (K 1)), (2, (K 1)), (4, (K (-1))), (6, (K (-1)))], none⟩,
  ⟨12, some 13, .buildSlice 23 2 #[(0, (T 11)), (1, (T 12))], none⟩,
  ⟨13, some 14, .build 25 #[(0, (T 10)), (1, (T 13))], none⟩,
  ⟨14, none, .store 25 (T 0) (T 14), none⟩] []
abbrev b43 : BC := .seq b43x0 (.seq b43x1 .ret)
theorem c43 : Tryz.f43.body.bind (compile Tryz.f43.ntmps) = some b43 := by kernel_rfl
theorem ok43 : EntryOK Tryz.prog (43, ⟨15, b43, #[.cell 0 25]⟩) := ⟨Tryz.f43, Tryz.func43, c43, Tryz.ntmps43, by kernel_rfl, Tryz.call43⟩
/-! scarfjoint/scarfjointref15.Few -/
abbrev b47x0 : BC := .reg [⟨0, some 1, .box 55 (T 0), none⟩,
  ⟨1, some 2, .assign (.const (.bool false)), none⟩] []
abbrev b47x1 : BC := .reg [⟨0, some 4, .fieldAddr 55 (T 1) 0, none⟩,
  ⟨1, some 5, .load 29 (T 4), none⟩,
  ⟨2, some 6, .call ⟨.value (.func 83), #[(T 5)], #[29]⟩, none⟩,
  ⟨3, some 7, .unOp .not 4 (T 6), none⟩,
  ⟨4, some 8, .move (T 7), none⟩,
  ⟨5, some 9, .fieldAddr 55 (T 1) 1, some (8, false)⟩,
  ⟨6, some 10, .load 53 (T 9), some (8, false)⟩,
  ⟨7, some 11, .call ⟨.builtin .len, #[(T 10)], #[53]⟩, some (8, false)⟩,
  ⟨8, some 12, .binOp .gtr 3 (T 11) (K 45) 3, some (8, false)⟩,
  ⟨9, some 13, .pick (T 8) (.const (.bool true)) (T 12), none⟩] []
abbrev b47x2 : BC := .reg [⟨0, some 2, .assign (.const (.bool false)), none⟩] []
abbrev b47x3 : BC := .reg [⟨0, some 3, .assign (K 0), none⟩] []
abbrev b47x4 : BC := .reg [⟨0, some 14, .move (T 3), none⟩,
  ⟨1, some 15, .fieldAddr 55 (T 1) 1, none⟩,
  ⟨2, some 16, .load 53 (T 15), none⟩,
  ⟨3, some 17, .call ⟨.builtin .len, #[(T 16)], #[53]⟩, none⟩,
  ⟨4, some 18, .binOp .lss 3 (T 14) (T 17) 3, none⟩] []
abbrev b47x5 : BC := .reg [⟨0, some 21, .fieldAddr 55 (T 1) 1, none⟩,
  ⟨1, some 22, .load 53 (T 21), none⟩,
  ⟨2, some 23, .move (T 3), none⟩,
  ⟨3, some 24, .indexAddr 53 (T 22) (T 23), none⟩,
  ⟨4, some 25, .load 26 (T 24), none⟩,
  ⟨5, some 26, .call ⟨.builtin .len, #[(T 25)], #[26]⟩, none⟩,
  ⟨6, some 27, .binOp .gtr 3 (T 26) (K 12) 3, none⟩] []
abbrev b47x6 : BC := .reg [⟨0, some 2, .assign (.const (.bool false)), none⟩] []
abbrev b47x7 : BC := .reg [⟨0, some 19, .move (T 3), none⟩,
  ⟨1, some 20, .binOp .add 3 (T 19) (K 1) 3, none⟩,
  ⟨2, some 3, .assign (T 20), none⟩] []
abbrev b47x8 : BC := .seq (.seq b47x4 (.cond (T 18) .skip (.exit 0))) (.seq (.block 1 (.seq b47x5 (.cond (T 27) (.seq b47x6 .ret) .skip))) b47x7)
abbrev b47x9 : BC := .loop b47x8
abbrev b47x10 : BC := .reg [⟨0, some 2, .assign (.const (.bool true)), none⟩] []
abbrev b47x11 : BC := .seq (.seq b47x1 (.cond (T 13) (.seq b47x2 .ret) .skip)) (.seq (.seq b47x3 (.block 0 b47x9)) (.seq b47x10 .ret))
abbrev b47 : BC := .seq b47x0 b47x11
theorem c47 : Tryz.f47.body.bind (compile Tryz.f47.ntmps) = some b47 := by kernel_rfl
theorem ok47 : EntryOK Tryz.prog (47, ⟨28, b47, #[.tmp 2]⟩) := ⟨Tryz.f47, Tryz.func47, c47, Tryz.ntmps47, by kernel_rfl, Tryz.call47⟩
/-! scarfjoint/host.Same -/
abbrev b48x0 : BC := .reg [⟨0, some 2, .box 55 (T 0), none⟩,
  ⟨1, some 3, .box 55 (T 1), none⟩,
  ⟨2, some 4, .assign (.const (.bool false)), none⟩] []
abbrev b48x1 : BC := .reg [⟨0, some 5, .fieldAddr 55 (T 2) 0, none⟩,
  ⟨1, some 6, .fieldAddr 29 (T 5) 0, none⟩,
  ⟨2, some 7, .load 26 (T 6), none⟩,
  ⟨3, some 8, .fieldAddr 55 (T 3) 0, none⟩,
  ⟨4, some 9, .fieldAddr 29 (T 8) 0, none⟩,
  ⟨5, some 10, .load 26 (T 9), none⟩,
  ⟨6, some 11, .call ⟨.value (.func 56), #[(T 7), (T 10)], #[26, 26]⟩, none⟩,
  ⟨7, some 12, .move (T 11), none⟩,
  ⟨8, some 13, .fieldAddr 55 (T 2) 0, some (12, true)⟩,
  ⟨9, some 14, .fieldAddr 29 (T 13) 1, some (12, true)⟩,
  ⟨10, some 15, .load 27 (T 14), some (12, true)⟩,
  ⟨11, some 16, .fieldAddr 55 (T 3) 0, some (12, true)⟩,
  ⟨12, some 17, .fieldAddr 29 (T 16) 1, some (12, true)⟩,
  ⟨13, some 18, .load 27 (T 17), some (12, true)⟩,
  ⟨14, some 19, .call ⟨.value (.func 133), #[(T 15), (T 18)], #[27, 27]⟩, some (12, true)⟩,
  ⟨15, some 20, .pick (T 12) (T 19) (.const (.bool false)), none⟩,
  ⟨16, some 21, .move (T 20), none⟩,
  ⟨17, some 22, .fieldAddr 55 (T 2) 1, some (21, true)⟩,
  ⟨18, some 23, .load 53 (T 22), some (21, true)⟩,
  ⟨19, some 24, .fieldAddr 55 (T 3) 1, some (21, true)⟩,
  ⟨20, some 25, .load 53 (T 24), some (21, true)⟩,
  ⟨21, some 26, .call ⟨.value (.func 134), #[(T 23), (T 25), (.func 56)], #[53, 53, 106]⟩, some (21, true)⟩,
  ⟨22, some 27, .pick (T 21) (T 26) (.const (.bool false)), none⟩,
  ⟨23, some 4, .assign (T 27), none⟩] []
abbrev b48 : BC := .seq b48x0 (.seq b48x1 .ret)
theorem c48 : Tryz.f48.body.bind (compile Tryz.f48.ntmps) = some b48 := by kernel_rfl
theorem ok48 : EntryOK Tryz.prog (48, ⟨28, b48, #[.tmp 4]⟩) := ⟨Tryz.f48, Tryz.func48, c48, Tryz.ntmps48, by kernel_rfl, Tryz.call48⟩
/-! slices.Equal[[]int,int] -/
abbrev b56x0 : BC := .reg [⟨0, some 4, .assign (.const (.bool false)), none⟩] []
abbrev b56x1 : BC := .reg [⟨0, some 6, .move (T 0), none⟩,
  ⟨1, some 7, .call ⟨.builtin .len, #[(T 6)], #[26]⟩, none⟩,
  ⟨2, some 8, .move (T 1), none⟩,
  ⟨3, some 9, .call ⟨.builtin .len, #[(T 8)], #[26]⟩, none⟩,
  ⟨4, some 10, .binOp .neq 3 (T 7) (T 9) 3, none⟩] []
abbrev b56x2 : BC := .reg [⟨0, some 4, .assign (.const (.bool false)), none⟩] []
abbrev b56x3 : BC := .reg [⟨0, some 11, .move (T 0), none⟩,
  ⟨1, some 12, .call ⟨.builtin .len, #[(T 11)], #[26]⟩, none⟩,
  ⟨2, some 13, .move (K 0), none⟩] []
abbrev b56x4 : BC := .reg [⟨0, some 14, .binOp .lss 3 (T 13) (T 12) 3, none⟩] []
abbrev b56x5 : BC := .reg [⟨0, some 15, .move (T 13), none⟩,
  ⟨1, some 5, .assign (T 15), none⟩] []
abbrev b56x6 : BC := .reg [⟨0, some 16, .move (T 0), none⟩,
  ⟨1, some 17, .move (T 5), none⟩,
  ⟨2, some 18, .indexAddr 26 (T 16) (T 17), none⟩,
  ⟨3, some 19, .load 3 (T 18), none⟩,
  ⟨4, some 20, .move (T 1), none⟩,
  ⟨5, some 21, .move (T 5), none⟩,
  ⟨6, some 22, .indexAddr 26 (T 20) (T 21), none⟩,
  ⟨7, some 23, .load 3 (T 22), none⟩,
  ⟨8, some 24, .binOp .neq 3 (T 19) (T 23) 3, none⟩] [(0, 1), (0, 4), (1, 4), (2, 4), (3, 4), (0, 5), (1, 5), (2, 5), (3, 5), (4, 5), (0, 6), (1, 6), (2, 6), (3, 6), (0, 7), (1, 7), (2, 7), (3, 7)]
abbrev b56x7 : BC := .reg [⟨0, some 4, .assign (.const (.bool false)), none⟩] []
abbrev b56x8 : BC := .reg [⟨0, some 25, .binOp .add 3 (T 13) (K 1) 3, none⟩,
  ⟨1, some 13, .move (T 25), none⟩] []
abbrev b56x9 : BC := .seq (.cond (T 14) .skip (.exit 0)) (.seq (.block 1 (.seq b56x5 (.seq b56x6 (.cond (T 24) (.seq b56x7 .ret) .skip)))) b56x8)
abbrev b56x10 : BC := .loop (.seq b56x4 b56x9)
abbrev b56x11 : BC := .reg [⟨0, some 4, .assign (.const (.bool true)), none⟩] []
abbrev b56x12 : BC := .seq (.seq b56x1 (.cond (T 10) (.seq b56x2 .ret) .skip)) (.seq (.seq b56x3 (.block 0 b56x10)) (.seq b56x11 .ret))
abbrev b56 : BC := .seq b56x0 b56x12
theorem c56 : Tryz.f56.body.bind (compile Tryz.f56.ntmps) = some b56 := by kernel_rfl
theorem ok56 : EntryOK Tryz.prog (56, ⟨26, b56, #[.tmp 4]⟩) := ⟨Tryz.f56, Tryz.func56, c56, Tryz.ntmps56, by kernel_rfl, Tryz.call56⟩
/-! scarfjoint/scarfjointref05.Few -/
abbrev b83x0 : BC := .reg [⟨0, some 1, .box 29 (T 0), none⟩,
  ⟨1, some 2, .assign (.const (.bool false)), none⟩] []
abbrev b83x1 : BC := .reg [⟨0, some 3, .fieldAddr 29 (T 1) 0, none⟩,
  ⟨1, some 4, .load 26 (T 3), none⟩,
  ⟨2, some 5, .call ⟨.builtin .len, #[(T 4)], #[26]⟩, none⟩,
  ⟨3, some 6, .binOp .leq 3 (T 5) (K 45) 3, none⟩,
  ⟨4, some 7, .move (T 6), none⟩,
  ⟨5, some 8, .fieldAddr 29 (T 1) 1, some (7, true)⟩,
  ⟨6, some 9, .load 27 (T 8), some (7, true)⟩,
  ⟨7, some 10, .call ⟨.builtin .len, #[(T 9)], #[27]⟩, some (7, true)⟩,
  ⟨8, some 11, .binOp .leq 3 (T 10) (K 90) 3, some (7, true)⟩,
  ⟨9, some 12, .pick (T 7) (T 11) (.const (.bool false)), none⟩,
  ⟨10, some 2, .assign (T 12), none⟩] []
abbrev b83 : BC := .seq b83x0 (.seq b83x1 .ret)
theorem c83 : Tryz.f83.body.bind (compile Tryz.f83.ntmps) = some b83 := by kernel_rfl
theorem ok83 : EntryOK Tryz.prog (83, ⟨13, b83, #[.tmp 2]⟩) := ⟨Tryz.f83, Tryz.func83, c83, Tryz.ntmps83, by kernel_rfl, Tryz.call83⟩
/-! scarfjoint/scarfjointref05.Copied -/
abbrev b86x0 : BC := .reg [⟨0, some 1, .box 29 (T 0), none⟩,
  ⟨1, some 2, .alloc 29, none⟩] []
abbrev b86x1 : BC := .reg [⟨0, some 3, .buildSlice 26 0 #[], none⟩,
  ⟨1, some 4, .fieldAddr 29 (T 1) 0, none⟩,
  ⟨2, some 5, .load 26 (T 4), none⟩,
  ⟨3, some 6, .call ⟨.builtin .append, #[(T 3), (T 5)], #[26, 26]⟩, none⟩,
  ⟨4, some 7, .buildSlice 27 0 #[], none⟩,
  ⟨5, some 8, .fieldAddr 29 (T 1) 1, none⟩,
  ⟨6, some 9, .load 27 (T 8), none⟩,
  ⟨7, some 10, .call ⟨.builtin .append, #[(T 7), (T 9)], #[27, 27]⟩, none⟩,
  ⟨8, some 11, .build 29 #[(0, (T 6)), (1, (T 10))], none⟩,
  ⟨9, none, .store 29 (T 2) (T 11), none⟩] [(0, 1), (0, 2), (0, 4), (1, 4), (2, 4), (3, 4), (0, 5), (1, 5), (2, 5), (3, 5), (4, 5), (0, 6), (1, 6), (2, 6), (3, 6), (4, 6)]
abbrev b86 : BC := .seq b86x0 (.seq b86x1 .ret)
theorem c86 : Tryz.f86.body.bind (compile Tryz.f86.ntmps) = some b86 := by kernel_rfl
theorem ok86 : EntryOK Tryz.prog (86, ⟨12, b86, #[.cell 2 29]⟩) := ⟨Tryz.f86, Tryz.func86, c86, Tryz.ntmps86, by kernel_rfl, Tryz.call86⟩
/-! scarfjoint/types.Valid -/
abbrev b89x0 : BC := .reg [⟨0, some 1, .box 25 (T 0), none⟩,
  ⟨1, some 2, .assign (.const (.string ⟨#[]⟩)), none⟩,
  ⟨2, some 3, .assign (K 0), none⟩] []
abbrev b89x1 : BC := .reg [⟨0, some 11, .fieldAddr 25 (T 1) 0, none⟩,
  ⟨1, some 12, .load 22 (T 11), none⟩,
  ⟨2, some 13, .call ⟨.builtin .len, #[(T 12)], #[22]⟩, none⟩,
  ⟨3, some 14, .binOp .eql 3 (T 13) (K 0) 3, none⟩,
  ⟨4, some 10, .assign (T 14), none⟩] []
abbrev b89x2 : BC := .reg [⟨0, some 2, .assign (.const (.string ⟨#[]⟩)), none⟩,
  ⟨1, some 3, .assign (K 7), none⟩] []
abbrev b89x3 : BC := .reg [⟨0, some 16, .fieldAddr 25 (T 1) 0, none⟩,
  ⟨1, some 17, .load 22 (T 16), none⟩,
  ⟨2, some 18, .call ⟨.builtin .len, #[(T 17)], #[22]⟩, none⟩,
  ⟨3, some 19, .binOp .gtr 3 (T 18) (K 12) 3, none⟩,
  ⟨4, some 20, .move (T 19), none⟩,
  ⟨5, some 21, .fieldAddr 25 (T 1) 1, some (20, false)⟩,
  ⟨6, some 22, .load 23 (T 21), some (20, false)⟩,
  ⟨7, some 23, .call ⟨.builtin .len, #[(T 22)], #[23]⟩, some (20, false)⟩,
  ⟨8, some 24, .binOp .gtr 3 (T 23) (K 20) 3, some (20, false)⟩,
  ⟨9, some 25, .pick (T 20) (.const (.bool true)) (T 24), none⟩,
  ⟨10, some 15, .assign (T 25), none⟩] []
abbrev b89x4 : BC := .reg [⟨0, some 2, .assign (.const (.string ⟨#[]⟩)), none⟩,
  ⟨1, some 3, .assign (K 3), none⟩] []
abbrev b89x5 : BC := .block 0 (.seq b89x1 (.cond (T 10) (.seq b89x2 .ret) (.seq b89x3 (.cond (T 15) (.seq b89x4 .ret) .skip))))
abbrev b89x6 : BC := .reg [⟨0, some 26, .fieldAddr 25 (T 1) 0, none⟩,
  ⟨1, some 27, .load 22 (T 26), none⟩,
  ⟨2, some 28, .call ⟨.builtin .len, #[(T 27)], #[22]⟩, none⟩,
  ⟨3, some 29, .move (K 0), none⟩] []
abbrev b89x7 : BC := .reg [⟨0, some 30, .binOp .lss 3 (T 29) (T 28) 3, none⟩] []
abbrev b89x8 : BC := .reg [⟨0, some 31, .move (T 29), none⟩,
  ⟨1, some 32, .indexAddr 22 (T 27) (T 29), none⟩,
  ⟨2, some 33, .load 157 (T 32), none⟩,
  ⟨3, some 5, .alloc 157, none⟩,
  ⟨4, some 4, .assign (T 31), none⟩,
  ⟨5, none, .store 157 (T 5) (T 33), none⟩] []
abbrev b89x9 : BC := .reg [⟨0, some 34, .load 25 (T 1), none⟩,
  ⟨1, some 35, .move (T 4), none⟩,
  ⟨2, some 36, .call ⟨.value (.func 194), #[(T 34), (T 35)], #[25, 3]⟩, none⟩,
  ⟨3, some 6, .assign (T 36), none⟩] []
abbrev b89x10 : BC := .reg [⟨0, some 37, .move (T 6), none⟩,
  ⟨1, some 38, .binOp .neq 38 (T 37) (K 0) 38, none⟩] []
abbrev b89x11 : BC := .reg [⟨0, some 39, .fieldAddr 157 (T 5) 0, none⟩,
  ⟨1, some 40, .load 9 (T 39), none⟩,
  ⟨2, some 41, .move (T 6), none⟩,
  ⟨3, some 2, .assign (T 40), none⟩,
  ⟨4, some 3, .assign (T 41), none⟩] []
abbrev b89x12 : BC := .reg [⟨0, some 42, .binOp .add 3 (T 29) (K 1) 3, none⟩,
  ⟨1, some 29, .move (T 42), none⟩] []
abbrev b89x13 : BC := .seq (.block 2 (.seq b89x8 (.seq b89x9 (.seq b89x10 (.cond (T 38) (.seq b89x11 .ret) .skip))))) b89x12
abbrev b89x14 : BC := .loop (.seq b89x7 (.seq (.cond (T 30) .skip (.exit 1)) b89x13))
abbrev b89x15 : BC := .reg [⟨0, some 43, .fieldAddr 25 (T 1) 1, none⟩,
  ⟨1, some 44, .load 23 (T 43), none⟩,
  ⟨2, some 45, .call ⟨.builtin .len, #[(T 44)], #[23]⟩, none⟩,
  ⟨3, some 46, .move (K 0), none⟩] []
abbrev b89x16 : BC := .reg [⟨0, some 47, .binOp .lss 3 (T 46) (T 45) 3, none⟩] []
abbrev b89x17 : BC := .reg [⟨0, some 48, .move (T 46), none⟩,
  ⟨1, some 49, .indexAddr 23 (T 44) (T 46), none⟩,
  ⟨2, some 50, .load 81 (T 49), none⟩,
  ⟨3, some 8, .alloc 81, none⟩,
  ⟨4, some 7, .assign (T 48), none⟩,
  ⟨5, none, .store 81 (T 8) (T 50), none⟩] []
abbrev b89x18 : BC := .reg [⟨0, some 51, .load 25 (T 1), none⟩,
  ⟨1, some 52, .move (T 7), none⟩,
  ⟨2, some 53, .call ⟨.value (.func 195), #[(T 51), (T 52)], #[25, 3]⟩, none⟩,
  ⟨3, some 9, .assign (T 53), none⟩] []
abbrev b89x19 : BC := .reg [⟨0, some 54, .move (T 9), none⟩,
  ⟨1, some 55, .binOp .neq 38 (T 54) (K 0) 38, none⟩] []
abbrev b89x20 : BC := .reg [⟨0, some 56, .fieldAddr 81 (T 8) 0, none⟩,
  ⟨1, some 57, .load 9 (T 56), none⟩,
  ⟨2, some 58, .move (T 9), none⟩,
  ⟨3, some 2, .assign (T 57), none⟩,
  ⟨4, some 3, .assign (T 58), none⟩] []
abbrev b89x21 : BC := .reg [⟨0, some 59, .binOp .add 3 (T 46) (K 1) 3, none⟩,
  ⟨1, some 46, .move (T 59), none⟩] []
abbrev b89x22 : BC := .seq (.block 4 (.seq b89x17 (.seq b89x18 (.seq b89x19 (.cond (T 55) (.seq b89x20 .ret) .skip))))) b89x21
abbrev b89x23 : BC := .loop (.seq b89x16 (.seq (.cond (T 47) .skip (.exit 3)) b89x22))
abbrev b89x24 : BC := .reg [⟨0, some 2, .assign (.const (.string ⟨#[]⟩)), none⟩,
  ⟨1, some 3, .assign (K 0), none⟩] []
abbrev b89x25 : BC := .seq b89x5 (.seq (.seq b89x6 (.block 1 b89x14)) (.seq (.seq b89x15 (.block 3 b89x23)) (.seq b89x24 .ret)))
abbrev b89 : BC := .seq b89x0 b89x25
theorem c89 : Tryz.f89.body.bind (compile Tryz.f89.ntmps) = some b89 := by kernel_rfl
theorem ok89 : EntryOK Tryz.prog (89, ⟨60, b89, #[.tmp 2, .tmp 3]⟩) := ⟨Tryz.f89, Tryz.func89, c89, Tryz.ntmps89, by kernel_rfl, Tryz.call89⟩
/-! scarfjoint/graph.Valid -/
abbrev b90x0 : BC := .reg [⟨0, some 1, .box 29 (T 0), none⟩,
  ⟨1, some 2, .assign (K 0), none⟩] []
abbrev b90x1 : BC := .reg [⟨0, some 3, .fieldAddr 29 (T 1) 0, none⟩,
  ⟨1, some 4, .load 26 (T 3), none⟩,
  ⟨2, some 5, .call ⟨.builtin .len, #[(T 4)], #[26]⟩, none⟩,
  ⟨3, some 6, .binOp .gtr 3 (T 5) (K 40) 3, none⟩,
  ⟨4, some 7, .move (T 6), none⟩,
  ⟨5, some 8, .fieldAddr 29 (T 1) 1, some (7, false)⟩,
  ⟨6, some 9, .load 27 (T 8), some (7, false)⟩,
  ⟨7, some 10, .call ⟨.builtin .len, #[(T 9)], #[27]⟩, some (7, false)⟩,
  ⟨8, some 11, .binOp .gtr 3 (T 10) (K 80) 3, some (7, false)⟩,
  ⟨9, some 12, .pick (T 7) (.const (.bool true)) (T 11), none⟩] []
abbrev b90x2 : BC := .reg [⟨0, some 2, .assign (K 3), none⟩] []
abbrev b90x3 : BC := .reg [⟨0, some 13, .fieldAddr 29 (T 1) 0, none⟩,
  ⟨1, some 14, .load 26 (T 13), none⟩,
  ⟨2, some 15, .call ⟨.value (.func 91), #[(T 14), (.func 196)], #[26, 169]⟩, none⟩] []
abbrev b90x4 : BC := .reg [⟨0, some 2, .assign (K 6), none⟩] []
abbrev b90x5 : BC := .reg [⟨0, some 16, .fieldAddr 29 (T 1) 1, none⟩,
  ⟨1, some 17, .load 27 (T 16), none⟩,
  ⟨2, some 18, .makeFunc (.func 198) #[] #[(T 1)], none⟩,
  ⟨3, some 19, .call ⟨.value (.func 93), #[(T 17), (T 18)], #[27, 171]⟩, none⟩] []
abbrev b90x6 : BC := .reg [⟨0, some 2, .assign (K 6), none⟩] []
abbrev b90x7 : BC := .reg [⟨0, some 2, .assign (K 0), none⟩] []
abbrev b90x8 : BC := .seq (.seq b90x3 (.cond (T 15) (.seq b90x4 .ret) .skip)) (.seq (.seq b90x5 (.cond (T 19) (.seq b90x6 .ret) .skip)) (.seq b90x7 .ret))
abbrev b90 : BC := .seq b90x0 (.seq (.seq b90x1 (.cond (T 12) (.seq b90x2 .ret) .skip)) b90x8)
theorem c90 : Tryz.f90.body.bind (compile Tryz.f90.ntmps) = some b90 := by kernel_rfl
theorem ok90 : EntryOK Tryz.prog (90, ⟨20, b90, #[.tmp 2]⟩) := ⟨Tryz.f90, Tryz.func90, c90, Tryz.ntmps90, by kernel_rfl, Tryz.call90⟩
/-! slices.ContainsFunc[[]int,int] -/
abbrev b91x0 : BC := .reg [⟨0, some 4, .assign (.const (.bool false)), none⟩] []
abbrev b91x1 : BC := .reg [⟨0, some 5, .move (T 0), none⟩,
  ⟨1, some 6, .move (T 1), none⟩,
  ⟨2, some 7, .call ⟨.value (.func 200), #[(T 5), (T 6)], #[26, 169]⟩, none⟩,
  ⟨3, some 8, .binOp .geq 3 (T 7) (K 0) 3, none⟩,
  ⟨4, some 4, .assign (T 8), none⟩] []
abbrev b91 : BC := .seq b91x0 (.seq b91x1 .ret)
theorem c91 : Tryz.f91.body.bind (compile Tryz.f91.ntmps) = some b91 := by kernel_rfl
theorem ok91 : EntryOK Tryz.prog (91, ⟨9, b91, #[.tmp 4]⟩) := ⟨Tryz.f91, Tryz.func91, c91, Tryz.ntmps91, by kernel_rfl, Tryz.call91⟩
/-! slices.ContainsFunc[[]scarfjoint/api.Edge,scarfjoint/api.Edge] -/
abbrev b93x0 : BC := .reg [⟨0, some 4, .assign (.const (.bool false)), none⟩] []
abbrev b93x1 : BC := .reg [⟨0, some 5, .move (T 0), none⟩,
  ⟨1, some 6, .move (T 1), none⟩,
  ⟨2, some 7, .call ⟨.value (.func 201), #[(T 5), (T 6)], #[27, 171]⟩, none⟩,
  ⟨3, some 8, .binOp .geq 3 (T 7) (K 0) 3, none⟩,
  ⟨4, some 4, .assign (T 8), none⟩] []
abbrev b93 : BC := .seq b93x0 (.seq b93x1 .ret)
theorem c93 : Tryz.f93.body.bind (compile Tryz.f93.ntmps) = some b93 := by kernel_rfl
theorem ok93 : EntryOK Tryz.prog (93, ⟨9, b93, #[.tmp 4]⟩) := ⟨Tryz.f93, Tryz.func93, c93, Tryz.ntmps93, by kernel_rfl, Tryz.call93⟩
/-! scarfjoint/scarfjointref05.Same -/
abbrev b110x0 : BC := .reg [⟨0, some 2, .box 29 (T 0), none⟩,
  ⟨1, some 3, .box 29 (T 1), none⟩,
  ⟨2, some 4, .assign (.const (.bool false)), none⟩] []
abbrev b110x1 : BC := .reg [⟨0, some 6, .fieldAddr 29 (T 2) 0, none⟩,
  ⟨1, some 7, .load 26 (T 6), none⟩,
  ⟨2, some 8, .fieldAddr 29 (T 3) 0, none⟩,
  ⟨3, some 9, .load 26 (T 8), none⟩,
  ⟨4, some 10, .call ⟨.value (.func 211), #[(T 7), (T 9)], #[26, 26]⟩, none⟩,
  ⟨5, some 11, .unOp .not 4 (T 10), none⟩,
  ⟨6, some 12, .move (T 11), none⟩,
  ⟨7, some 13, .fieldAddr 29 (T 2) 1, some (12, false)⟩,
  ⟨8, some 14, .load 27 (T 13), some (12, false)⟩,
  ⟨9, some 15, .call ⟨.builtin .len, #[(T 14)], #[27]⟩, some (12, false)⟩,
  ⟨10, some 16, .fieldAddr 29 (T 3) 1, some (12, false)⟩,
  ⟨11, some 17, .load 27 (T 16), some (12, false)⟩,
  ⟨12, some 18, .call ⟨.builtin .len, #[(T 17)], #[27]⟩, some (12, false)⟩,
  ⟨13, some 19, .binOp .neq 3 (T 15) (T 18) 3, some (12, false)⟩,
  ⟨14, some 20, .pick (T 12) (.const (.bool true)) (T 19), none⟩] []
abbrev b110x2 : BC := .reg [⟨0, some 4, .assign (.const (.bool false)), none⟩] []
abbrev b110x3 : BC := .reg [⟨0, some 5, .assign (K 0), none⟩] []
abbrev b110x4 : BC := .reg [⟨0, some 21, .move (T 5), none⟩,
  ⟨1, some 22, .fieldAddr 29 (T 2) 1, none⟩,
  ⟨2, some 23, .load 27 (T 22), none⟩,
  ⟨3, some 24, .call ⟨.builtin .len, #[(T 23)], #[27]⟩, none⟩,
  ⟨4, some 25, .binOp .lss 3 (T 21) (T 24) 3, none⟩] []
abbrev b110x5 : BC := .reg [⟨0, some 28, .fieldAddr 29 (T 2) 1, none⟩,
  ⟨1, some 29, .load 27 (T 28), none⟩,
  ⟨2, some 30, .move (T 5), none⟩,
  ⟨3, some 31, .indexAddr 27 (T 29) (T 30), none⟩,
  ⟨4, some 32, .load 84 (T 31), none⟩,
  ⟨5, some 33, .fieldAddr 29 (T 3) 1, none⟩,
  ⟨6, some 34, .load 27 (T 33), none⟩,
  ⟨7, some 35, .move (T 5), none⟩,
  ⟨8, some 36, .indexAddr 27 (T 34) (T 35), none⟩,
  ⟨9, some 37, .load 84 (T 36), none⟩,
  ⟨10, some 38, .binOp .neq 84 (T 32) (T 37) 84, none⟩] [(0, 2), (1, 2), (0, 5), (1, 5), (2, 5), (3, 5), (4, 5), (0, 6), (1, 6), (2, 6), (3, 6), (4, 6), (0, 7), (1, 7), (2, 7), (3, 7), (4, 7), (5, 7), (6, 7), (0, 8), (1, 8), (2, 8), (3, 8), (4, 8), (0, 9), (1, 9), (2, 9), (3, 9), (4, 9)]
abbrev b110x6 : BC := .reg [⟨0, some 4, .assign (.const (.bool false)), none⟩] []
abbrev b110x7 : BC := .reg [⟨0, some 26, .move (T 5), none⟩,
  ⟨1, some 27, .binOp .add 3 (T 26) (K 1) 3, none⟩,
  ⟨2, some 5, .assign (T 27), none⟩] []
abbrev b110x8 : BC := .seq (.seq b110x4 (.cond (T 25) .skip (.exit 0))) (.seq (.block 1 (.seq b110x5 (.cond (T 38) (.seq b110x6 .ret) .skip))) b110x7)
abbrev b110x9 : BC := .loop b110x8
abbrev b110x10 : BC := .reg [⟨0, some 4, .assign (.const (.bool true)), none⟩] []
abbrev b110x11 : BC := .seq (.seq b110x1 (.cond (T 20) (.seq b110x2 .ret) .skip)) (.seq (.seq b110x3 (.block 0 b110x9)) (.seq b110x10 .ret))
abbrev b110 : BC := .seq b110x0 b110x11
theorem c110 : Tryz.f110.body.bind (compile Tryz.f110.ntmps) = some b110 := by kernel_rfl
theorem ok110 : EntryOK Tryz.prog (110, ⟨39, b110, #[.tmp 4]⟩) := ⟨Tryz.f110, Tryz.func110, c110, Tryz.ntmps110, by kernel_rfl, Tryz.call110⟩
/-! scarfjoint/scarfjointlaw15.example -/
abbrev b111x0 : BC := .reg [⟨0, some 0, .alloc 55, none⟩] []
abbrev b111x1 : BC := .reg [⟨0, some 1, .buildSlice 26 3 #[(0, (K 3)), (1, (K 1)), (2, (K 1))], none⟩,
  ⟨1, some 2, .build 84 #[(0, (K 0)), (1, (K 0)), (2, (K 1))], none⟩,
  ⟨2, some 3, .build 84 #[(0, (K 0)), (1, (K 0)), (2, (K 2))], none⟩,
  ⟨3, some 4, .buildSlice 27 2 #[(0, (T 2)), (1, (T 3))], none⟩,
  ⟨4, some 5, .build 29 #[(0, (T 1)), (1, (T 4))], none⟩,
  ⟨5, some 6, .buildSlice 26 1 #[(0, (K 10))], none⟩,
  ⟨6, some 7, .buildSlice 26 1 #[(0, (K 5))], none⟩,
  ⟨7, some 8, .buildSlice 53 3 #[(0, (.const (.slice none 0 0))), (1, (T 6)), (2, (T 7))], none⟩,
  ⟨8, some 9, .build 55 #[(0, (T 5)), (1, (T 8))], none⟩,
  ⟨9, none, .store 55 (T 0) (T 9), none⟩] []
abbrev b111 : BC := .seq b111x0 (.seq b111x1 .ret)
theorem c111 : Tryz.f111.body.bind (compile Tryz.f111.ntmps) = some b111 := by kernel_rfl
theorem ok111 : EntryOK Tryz.prog (111, ⟨10, b111, #[.cell 0 55]⟩) := ⟨Tryz.f111, Tryz.func111, c111, Tryz.ntmps111, by kernel_rfl, Tryz.call111⟩
/-! scarfjoint/host.node -/
abbrev b114x0 : BC := .reg [⟨0, some 3, .box 25 (T 0), none⟩,
  ⟨1, some 6, .assign (K 0), none⟩] []
abbrev b114x1 : BC := .reg [⟨0, some 11, .move (T 1), none⟩,
  ⟨1, some 12, .fieldAddr 25 (T 3) 0, none⟩,
  ⟨2, some 13, .load 22 (T 12), none⟩,
  ⟨3, some 14, .call ⟨.builtin .len, #[(T 13)], #[22]⟩, none⟩,
  ⟨4, some 15, .binOp .geq 3 (T 11) (T 14) 3, none⟩] []
abbrev b114x2 : BC := .reg [⟨0, some 6, .assign (K 6), none⟩] []
abbrev b114x3 : BC := .reg [⟨0, some 16, .fieldAddr 25 (T 3) 0, none⟩,
  ⟨1, some 17, .load 22 (T 16), none⟩,
  ⟨2, some 18, .move (T 1), none⟩,
  ⟨3, some 19, .indexAddr 22 (T 17) (T 18), none⟩,
  ⟨4, some 20, .fieldAddr 157 (T 19) 2, none⟩,
  ⟨5, some 21, .load 4 (T 20), none⟩] []
abbrev b114x4 : BC := .reg [⟨0, some 6, .assign (K 13), none⟩] []
abbrev b114x5 : BC := .reg [⟨0, some 23, .load 25 (T 3), none⟩,
  ⟨1, some 24, .move (T 1), none⟩,
  ⟨2, some 25, .call ⟨.value (.func 135), #[(T 23), (T 24)], #[25, 3]⟩, none⟩,
  ⟨3, some 22, .move (T 25), none⟩,
  ⟨4, some 26, .extract (T 22) 0, none⟩,
  ⟨5, some 27, .extract (T 22) 1, none⟩,
  ⟨6, some 7, .assign (T 26), none⟩,
  ⟨7, some 8, .assign (T 27), none⟩] []
abbrev b114x6 : BC := .reg [⟨0, some 28, .move (T 2), none⟩,
  ⟨1, some 29, .call ⟨.builtin .len, #[(T 28)], #[26]⟩, none⟩,
  ⟨2, some 30, .move (T 7), none⟩,
  ⟨3, some 31, .call ⟨.builtin .len, #[(T 30)], #[155]⟩, none⟩,
  ⟨4, some 32, .binOp .neq 3 (T 29) (T 31) 3, none⟩] []
abbrev b114x7 : BC := .reg [⟨0, some 6, .assign (K 20), none⟩] []
abbrev b114x8 : BC := .reg [⟨0, some 33, .move (T 7), none⟩,
  ⟨1, some 34, .call ⟨.builtin .len, #[(T 33)], #[155]⟩, none⟩,
  ⟨2, some 35, .move (K 0), none⟩] []
abbrev b114x9 : BC := .reg [⟨0, some 36, .binOp .lss 3 (T 35) (T 34) 3, none⟩] []
abbrev b114x10 : BC := .reg [⟨0, some 37, .move (T 35), none⟩,
  ⟨1, some 38, .indexAddr 155 (T 33) (T 35), none⟩,
  ⟨2, some 39, .load 160 (T 38), none⟩,
  ⟨3, some 10, .alloc 160, none⟩,
  ⟨4, some 9, .assign (T 37), none⟩,
  ⟨5, none, .store 160 (T 10) (T 39), none⟩] []
abbrev b114x11 : BC := .reg [⟨0, some 40, .move (T 2), none⟩,
  ⟨1, some 41, .move (T 9), none⟩,
  ⟨2, some 42, .indexAddr 26 (T 40) (T 41), none⟩,
  ⟨3, some 43, .load 3 (T 42), none⟩,
  ⟨4, some 44, .fieldAddr 160 (T 10) 1, none⟩,
  ⟨5, some 45, .load 3 (T 44), none⟩,
  ⟨6, some 46, .binOp .lss 3 (T 43) (T 45) 3, none⟩,
  ⟨7, some 47, .move (T 46), none⟩,
  ⟨8, some 48, .move (T 2), some (47, false)⟩,
  ⟨9, some 49, .move (T 9), some (47, false)⟩,
  ⟨10, some 50, .indexAddr 26 (T 48) (T 49), some (47, false)⟩,
  ⟨11, some 51, .load 3 (T 50), some (47, false)⟩,
  ⟨12, some 52, .fieldAddr 160 (T 10) 2, some (47, false)⟩,
  ⟨13, some 53, .load 3 (T 52), some (47, false)⟩,
  ⟨14, some 54, .binOp .gtr 3 (T 51) (T 53) 3, some (47, false)⟩,
  ⟨15, some 55, .pick (T 47) (.const (.bool true)) (T 54), none⟩] [(0, 1), (0, 4), (1, 4), (2, 4), (3, 4), (0, 5), (1, 5), (2, 5), (3, 5), (8, 9), (8, 12), (9, 12), (10, 12), (11, 12), (8, 13), (9, 13), (10, 13), (11, 13)]
abbrev b114x12 : BC := .reg [⟨0, some 6, .assign (K 6), none⟩] []
abbrev b114x13 : BC := .reg [⟨0, some 56, .binOp .add 3 (T 35) (K 1) 3, none⟩,
  ⟨1, some 35, .move (T 56), none⟩] []
abbrev b114x14 : BC := .seq (.cond (T 36) .skip (.exit 0)) (.seq (.block 1 (.seq b114x10 (.seq b114x11 (.cond (T 55) (.seq b114x12 .ret) .skip)))) b114x13)
abbrev b114x15 : BC := .loop (.seq b114x9 b114x14)
abbrev b114x16 : BC := .reg [⟨0, some 6, .assign (K 0), none⟩] []
abbrev b114x17 : BC := .seq (.seq b114x6 (.cond (T 32) (.seq b114x7 .ret) .skip)) (.seq (.seq b114x8 (.block 0 b114x15)) (.seq b114x16 .ret))
abbrev b114x18 : BC := .seq (.seq b114x1 (.cond (T 15) (.seq b114x2 .ret) .skip)) (.seq (.seq b114x3 (.cond (T 21) (.seq b114x4 .ret) .skip)) (.seq b114x5 b114x17))
abbrev b114 : BC := .seq b114x0 b114x18
theorem c114 : Tryz.f114.body.bind (compile Tryz.f114.ntmps) = some b114 := by kernel_rfl
theorem ok114 : EntryOK Tryz.prog (114, ⟨57, b114, #[.tmp 6]⟩) := ⟨Tryz.f114, Tryz.func114, c114, Tryz.ntmps114, by kernel_rfl, Tryz.call114⟩
/-! scarfjoint/types.Fits -/
abbrev b115x0 : BC := .reg [⟨0, some 4, .box 25 (T 0), none⟩,
  ⟨1, some 8, .assign (.const (.bool false)), none⟩] []
abbrev b115x1 : BC := .reg [⟨0, some 9, .load 25 (T 4), none⟩,
  ⟨1, some 10, .move (T 2), none⟩,
  ⟨2, some 11, .move (T 3), none⟩,
  ⟨3, some 12, .buildSlice 26 2 #[(0, (T 10)), (1, (T 11))], none⟩,
  ⟨4, some 13, .call ⟨.value (.func 213), #[(T 9), (T 12)], #[25, 26]⟩, none⟩,
  ⟨5, some 14, .binOp .neq 38 (T 13) (K 0) 38, none⟩,
  ⟨6, some 15, .move (T 14), none⟩,
  ⟨7, some 16, .move (T 1), some (15, false)⟩,
  ⟨8, some 17, .binOp .lss 3 (T 16) (K 0) 3, some (15, false)⟩,
  ⟨9, some 18, .pick (T 15) (.const (.bool true)) (T 17), none⟩,
  ⟨10, some 19, .move (T 18), none⟩,
  ⟨11, some 20, .move (T 1), some (19, false)⟩,
  ⟨12, some 21, .fieldAddr 25 (T 4) 1, some (19, false)⟩,
  ⟨13, some 22, .load 23 (T 21), some (19, false)⟩,
  ⟨14, some 23, .call ⟨.builtin .len, #[(T 22)], #[23]⟩, some (19, false)⟩,
  ⟨15, some 24, .binOp .geq 3 (T 20) (T 23) 3, some (19, false)⟩,
  ⟨16, some 25, .pick (T 19) (.const (.bool true)) (T 24), none⟩] []
abbrev b115x2 : BC := .reg [⟨0, some 8, .assign (.const (.bool false)), none⟩] []
abbrev b115x3 : BC := .reg [⟨0, some 26, .load 25 (T 4), none⟩,
  ⟨1, some 27, .move (T 2), none⟩,
  ⟨2, some 28, .fieldAddr 25 (T 4) 1, none⟩,
  ⟨3, some 29, .load 23 (T 28), none⟩,
  ⟨4, some 30, .move (T 1), none⟩,
  ⟨5, some 31, .indexAddr 23 (T 29) (T 30), none⟩,
  ⟨6, some 32, .fieldAddr 81 (T 31) 1, none⟩,
  ⟨7, some 33, .load 3 (T 32), none⟩,
  ⟨8, some 34, .call ⟨.value (.func 214), #[(T 26), (T 27), (T 33)], #[25, 3, 3]⟩, none⟩,
  ⟨9, some 35, .move (T 34), none⟩,
  ⟨10, some 36, .load 25 (T 4), some (35, true)⟩,
  ⟨11, some 37, .move (T 3), some (35, true)⟩,
  ⟨12, some 38, .fieldAddr 25 (T 4) 1, some (35, true)⟩,
  ⟨13, some 39, .load 23 (T 38), some (35, true)⟩,
  ⟨14, some 40, .move (T 1), some (35, true)⟩,
  ⟨15, some 41, .indexAddr 23 (T 39) (T 40), some (35, true)⟩,
  ⟨16, some 42, .fieldAddr 81 (T 41) 2, some (35, true)⟩,
  ⟨17, some 43, .load 3 (T 42), some (35, true)⟩,
  ⟨18, some 44, .call ⟨.value (.func 214), #[(T 36), (T 37), (T 43)], #[25, 3, 3]⟩, some (35, true)⟩,
  ⟨19, some 45, .pick (T 35) (T 44) (.const (.bool false)), none⟩,
  ⟨20, some 8, .assign (T 45), none⟩] [(0, 1), (0, 2), (1, 2), (0, 3), (1, 3), (0, 4), (1, 4), (2, 4), (3, 4), (0, 5), (1, 5), (0, 6), (1, 6), (0, 7), (1, 7), (10, 11), (10, 12), (11, 12), (10, 13), (11, 13), (10, 14), (11, 14), (12, 14), (13, 14), (10, 15), (11, 15), (10, 16), (11, 16), (10, 17), (11, 17)]
abbrev b115 : BC := .seq b115x0 (.seq (.seq b115x1 (.cond (T 25) (.seq b115x2 .ret) .skip)) (.seq b115x3 .ret))
theorem c115 : Tryz.f115.body.bind (compile Tryz.f115.ntmps) = some b115 := by kernel_rfl
theorem ok115 : EntryOK Tryz.prog (115, ⟨46, b115, #[.tmp 8]⟩) := ⟨Tryz.f115, Tryz.func115, c115, Tryz.ntmps115, by kernel_rfl, Tryz.call115⟩
/-! scarfjoint/host.valid -/
abbrev b118x0 : BC := .reg [⟨0, some 2, .box 25 (T 0), none⟩,
  ⟨1, some 3, .box 55 (T 1), none⟩,
  ⟨2, some 4, .assign (K 0), none⟩] []
abbrev b118x1 : BC := .reg [⟨0, some 8, .load 25 (T 2), none⟩,
  ⟨1, some 9, .load 55 (T 3), none⟩,
  ⟨2, some 10, .call ⟨.value (.func 32), #[(T 8), (T 9)], #[25, 55]⟩, none⟩,
  ⟨3, some 7, .move (T 10), none⟩,
  ⟨4, some 11, .extract (T 7) 0, none⟩,
  ⟨5, some 12, .extract (T 7) 1, none⟩,
  ⟨6, some 5, .assign (T 11), none⟩,
  ⟨7, some 6, .assign (T 12), none⟩] []
abbrev b118x2 : BC := .reg [⟨0, some 13, .move (T 6), none⟩,
  ⟨1, some 4, .assign (T 13), none⟩] []
abbrev b118 : BC := .seq b118x0 (.seq b118x1 (.seq b118x2 .ret))
theorem c118 : Tryz.f118.body.bind (compile Tryz.f118.ntmps) = some b118 := by kernel_rfl
theorem ok118 : EntryOK Tryz.prog (118, ⟨14, b118, #[.tmp 4]⟩) := ⟨Tryz.f118, Tryz.func118, c118, Tryz.ntmps118, by kernel_rfl, Tryz.call118⟩
/-! scarfjoint/host.excesses -/
abbrev b119x0 : BC := .reg [⟨0, some 7, .box 25 (T 0), none⟩,
  ⟨1, some 8, .box 55 (T 1), none⟩,
  ⟨2, some 14, .assign (.const (.slice none 0 0)), none⟩] []
abbrev b119x1 : BC := .reg [⟨0, some 15, .assign (.const (.slice none 0 0)), none⟩] []
abbrev b119x2 : BC := .reg [⟨0, some 21, .fieldAddr 55 (T 8) 0, none⟩,
  ⟨1, some 22, .fieldAddr 29 (T 21) 0, none⟩,
  ⟨2, some 23, .load 26 (T 22), none⟩,
  ⟨3, some 24, .call ⟨.builtin .len, #[(T 23)], #[26]⟩, none⟩,
  ⟨4, some 25, .move (K 0), none⟩] []
abbrev b119x3 : BC := .reg [⟨0, some 26, .binOp .lss 3 (T 25) (T 24) 3, none⟩] []
abbrev b119x4 : BC := .reg [⟨0, some 27, .move (T 25), none⟩,
  ⟨1, some 28, .indexAddr 26 (T 23) (T 25), none⟩,
  ⟨2, some 29, .load 3 (T 28), none⟩,
  ⟨3, some 16, .assign (T 27), none⟩,
  ⟨4, some 17, .assign (T 29), none⟩] []
abbrev b119x5 : BC := .reg [⟨0, some 30, .load 25 (T 7), none⟩,
  ⟨1, some 31, .move (T 17), none⟩,
  ⟨2, some 32, .move (T 4), none⟩,
  ⟨3, some 33, .call ⟨.value (.func 217), #[(T 30), (T 31), (T 32)], #[25, 3, 3]⟩, none⟩,
  ⟨4, some 34, .unOp .not 4 (T 33), none⟩] []
abbrev b119x6 : BC := .reg [⟨0, some 18, .assign (K 0), none⟩] []
abbrev b119x7 : BC := .reg [⟨0, some 35, .fieldAddr 55 (T 8) 0, none⟩,
  ⟨1, some 36, .fieldAddr 29 (T 35) 1, none⟩,
  ⟨2, some 37, .load 27 (T 36), none⟩,
  ⟨3, some 38, .call ⟨.builtin .len, #[(T 37)], #[27]⟩, none⟩,
  ⟨4, some 39, .move (K 0), none⟩] []
abbrev b119x8 : BC := .reg [⟨0, some 40, .binOp .lss 3 (T 39) (T 38) 3, none⟩] []
abbrev b119x9 : BC := .reg [⟨0, some 41, .indexAddr 27 (T 37) (T 39), none⟩,
  ⟨1, some 42, .load 84 (T 41), none⟩,
  ⟨2, some 20, .alloc 84, none⟩,
  ⟨3, none, .store 84 (T 20) (T 42), none⟩] []
abbrev b119x10 : BC := .reg [⟨0, some 43, .fieldAddr 84 (T 20) 0, none⟩,
  ⟨1, some 44, .load 3 (T 43), none⟩,
  ⟨2, some 45, .move (T 2), none⟩,
  ⟨3, some 46, .binOp .eql 3 (T 44) (T 45) 3, none⟩,
  ⟨4, some 47, .move (T 46), none⟩,
  ⟨5, some 48, .move (T 3), some (47, true)⟩,
  ⟨6, some 49, .move (T 48), some (47, true)⟩,
  ⟨7, some 50, .fieldAddr 84 (T 20) 1, some (49, true)⟩,
  ⟨8, some 51, .load 3 (T 50), some (49, true)⟩,
  ⟨9, some 52, .move (T 16), some (49, true)⟩,
  ⟨10, some 53, .binOp .eql 3 (T 51) (T 52) 3, some (49, true)⟩,
  ⟨11, some 54, .pick (T 49) (T 53) (.const (.bool false)), some (47, true)⟩,
  ⟨12, some 55, .move (T 54), some (47, true)⟩,
  ⟨13, some 56, .move (T 3), some (55, false)⟩,
  ⟨14, some 57, .unOp .not 4 (T 56), some (55, false)⟩,
  ⟨15, some 58, .move (T 57), some (55, false)⟩,
  ⟨16, some 59, .fieldAddr 84 (T 20) 2, some (58, true)⟩,
  ⟨17, some 60, .load 3 (T 59), some (58, true)⟩,
  ⟨18, some 61, .move (T 16), some (58, true)⟩,
  ⟨19, some 62, .binOp .eql 3 (T 60) (T 61) 3, some (58, true)⟩,
  ⟨20, some 63, .pick (T 58) (T 62) (.const (.bool false)), some (55, false)⟩,
  ⟨21, some 64, .pick (T 55) (.const (.bool true)) (T 63), some (47, true)⟩,
  ⟨22, some 65, .pick (T 47) (T 64) (.const (.bool false)), none⟩] []
abbrev b119x11 : BC := .reg [⟨0, some 66, .move (T 18), none⟩,
  ⟨1, some 67, .binOp .add 3 (T 66) (K 1) 3, none⟩,
  ⟨2, some 18, .assign (T 67), none⟩] []
abbrev b119x12 : BC := .reg [⟨0, some 68, .binOp .add 3 (T 39) (K 1) 3, none⟩,
  ⟨1, some 39, .move (T 68), none⟩] []
abbrev b119x13 : BC := .seq (.cond (T 40) .skip (.exit 2)) (.seq (.block 3 (.seq b119x9 (.seq b119x10 (.cond (T 65) b119x11 .skip)))) b119x12)
abbrev b119x14 : BC := .loop (.seq b119x8 b119x13)
abbrev b119x15 : BC := .reg [⟨0, some 69, .move (T 18), none⟩,
  ⟨1, some 70, .move (T 5), none⟩,
  ⟨2, some 71, .binOp .lss 3 (T 69) (T 70) 3, none⟩,
  ⟨3, some 72, .move (T 71), none⟩,
  ⟨4, some 73, .move (T 6), some (72, false)⟩,
  ⟨5, some 74, .binOp .geq 3 (T 73) (K 0) 3, some (72, false)⟩,
  ⟨6, some 75, .move (T 74), some (72, false)⟩,
  ⟨7, some 76, .move (T 18), some (75, true)⟩,
  ⟨8, some 77, .move (T 6), some (75, true)⟩,
  ⟨9, some 78, .binOp .gtr 3 (T 76) (T 77) 3, some (75, true)⟩,
  ⟨10, some 79, .pick (T 75) (T 78) (.const (.bool false)), some (72, false)⟩,
  ⟨11, some 80, .pick (T 72) (.const (.bool true)) (T 79), none⟩] []
abbrev b119x16 : BC := .reg [⟨0, some 81, .move (T 15), none⟩,
  ⟨1, some 82, .move (T 2), none⟩,
  ⟨2, some 83, .move (T 16), none⟩,
  ⟨3, some 84, .move (T 18), none⟩,
  ⟨4, some 85, .move (T 3), none⟩,
  ⟨5, some 86, .build 65 #[(0, (T 82)), (1, (T 83)), (2, (T 84)), (3, (T 85))], none⟩,
  ⟨6, some 87, .buildSlice 60 1 #[(0, (T 86))], none⟩,
  ⟨7, some 88, .call ⟨.builtin .append, #[(T 81), (T 87)], #[60, 60]⟩, none⟩,
  ⟨8, some 15, .assign (T 88), none⟩] []
abbrev b119x17 : BC := .seq (.seq b119x5 (.cond (T 34) (.exit 1) .skip)) (.seq b119x6 (.seq (.seq b119x7 (.block 2 b119x14)) (.seq b119x15 (.cond (T 80) b119x16 .skip))))
abbrev b119x18 : BC := .reg [⟨0, some 89, .binOp .add 3 (T 25) (K 1) 3, none⟩,
  ⟨1, some 25, .move (T 89), none⟩] []
abbrev b119x19 : BC := .loop (.seq b119x3 (.seq (.cond (T 26) .skip (.exit 0)) (.seq (.block 1 (.seq b119x4 b119x17)) b119x18)))
abbrev b119x20 : BC := .reg [⟨0, some 90, .move (T 15), none⟩,
  ⟨1, some 14, .assign (T 90), none⟩] []
abbrev b119 : BC := .seq b119x0 (.seq b119x1 (.seq (.seq b119x2 (.block 0 b119x19)) (.seq b119x20 .ret)))
theorem c119 : Tryz.f119.body.bind (compile Tryz.f119.ntmps) = some b119 := by kernel_rfl
theorem ok119 : EntryOK Tryz.prog (119, ⟨91, b119, #[.tmp 14]⟩) := ⟨Tryz.f119, Tryz.func119, c119, Tryz.ntmps119, by kernel_rfl, Tryz.call119⟩
/-! (*scarfjoint/host.canon).search -/
abbrev b122x0 : BC := .reg [⟨0, some 5, .move (T 0), none⟩,
  ⟨1, some 6, .nilCheck (T 5), none⟩,
  ⟨2, some 7, .fieldAddr 200 (T 6) 1, none⟩,
  ⟨3, some 8, .load 26 (T 7), none⟩,
  ⟨4, some 9, .call ⟨.builtin .len, #[(T 8)], #[26]⟩, none⟩,
  ⟨5, some 10, .move (T 0), none⟩,
  ⟨6, some 11, .nilCheck (T 10), none⟩,
  ⟨7, some 12, .fieldAddr 200 (T 11) 0, none⟩,
  ⟨8, some 13, .fieldAddr 55 (T 12) 0, none⟩,
  ⟨9, some 14, .fieldAddr 29 (T 13) 0, none⟩,
  ⟨10, some 15, .load 26 (T 14), none⟩,
  ⟨11, some 16, .call ⟨.builtin .len, #[(T 15)], #[26]⟩, none⟩,
  ⟨12, some 17, .binOp .eql 3 (T 9) (T 16) 3, none⟩] [(0, 5), (1, 5), (2, 5), (3, 5), (4, 5), (0, 6), (1, 6), (2, 6), (3, 6), (4, 6), (0, 7), (1, 7), (2, 7), (3, 7), (4, 7), (0, 8), (1, 8), (2, 8), (3, 8), (4, 8), (0, 9), (1, 9), (2, 9), (3, 9), (4, 9), (0, 10), (1, 10), (2, 10), (3, 10), (4, 10), (0, 11), (1, 11), (2, 11), (3, 11), (4, 11)]
abbrev b122x1 : BC := .reg [⟨0, some 18, .move (T 0), none⟩,
  ⟨1, some 19, .nilCheck (T 18), none⟩,
  ⟨2, some 20, .fieldAddr 200 (T 19) 5, none⟩,
  ⟨3, some 21, .load 4 (T 20), none⟩,
  ⟨4, some 22, .unOp .not 4 (T 21), none⟩,
  ⟨5, some 23, .move (T 22), none⟩,
  ⟨6, some 24, .move (T 0), some (23, false)⟩,
  ⟨7, some 25, .nilCheck (T 24), some (23, false)⟩,
  ⟨8, some 26, .fieldAddr 200 (T 25) 2, some (23, false)⟩,
  ⟨9, some 27, .load 26 (T 26), some (23, false)⟩,
  ⟨10, some 28, .move (T 0), some (23, false)⟩,
  ⟨11, some 29, .nilCheck (T 28), some (23, false)⟩,
  ⟨12, some 30, .fieldAddr 200 (T 29) 4, some (23, false)⟩,
  ⟨13, some 31, .load 26 (T 30), some (23, false)⟩,
  ⟨14, some 32, .call ⟨.value (.func 218), #[(T 27), (T 31)], #[26, 26]⟩, some (23, false)⟩,
  ⟨15, some 33, .binOp .lss 3 (T 32) (K 0) 3, some (23, false)⟩,
  ⟨16, some 34, .pick (T 23) (.const (.bool true)) (T 33), none⟩] [(6, 10), (7, 10), (8, 10), (9, 10), (6, 11), (7, 11), (8, 11), (9, 11), (6, 12), (7, 12), (8, 12), (9, 12), (6, 13), (7, 13), (8, 13), (9, 13)]
abbrev b122x2 : BC := .reg [⟨0, some 35, .move (T 0), none⟩,
  ⟨1, some 36, .move (T 0), none⟩,
  ⟨2, some 37, .move (T 0), none⟩,
  ⟨3, some 38, .move (T 0), none⟩,
  ⟨4, some 39, .nilCheck (T 38), none⟩,
  ⟨5, some 40, .fieldAddr 200 (T 39) 1, none⟩,
  ⟨6, some 41, .load 26 (T 40), none⟩,
  ⟨7, some 42, .call ⟨.value (.func 27), #[(T 41)], #[26]⟩, none⟩,
  ⟨8, some 43, .move (T 0), none⟩,
  ⟨9, some 44, .nilCheck (T 43), none⟩,
  ⟨10, some 45, .fieldAddr 200 (T 44) 2, none⟩,
  ⟨11, some 46, .load 26 (T 45), none⟩,
  ⟨12, some 47, .call ⟨.value (.func 27), #[(T 46)], #[26]⟩, none⟩,
  ⟨13, some 48, .nilCheck (T 35), none⟩,
  ⟨14, some 49, .fieldAddr 200 (T 48) 3, none⟩,
  ⟨15, none, .store 26 (T 49) (T 42), none⟩,
  ⟨16, some 50, .nilCheck (T 36), none⟩,
  ⟨17, some 51, .fieldAddr 200 (T 50) 4, none⟩,
  ⟨18, none, .store 26 (T 51) (T 47), none⟩,
  ⟨19, some 52, .nilCheck (T 37), none⟩,
  ⟨20, some 53, .fieldAddr 200 (T 52) 5, none⟩,
  ⟨21, none, .store 4 (T 53) (.const (.bool true)), none⟩] [(0, 1), (0, 2), (1, 2), (0, 3), (1, 3), (2, 3), (0, 4), (1, 4), (2, 4), (0, 5), (1, 5), (2, 5), (0, 6), (1, 6), (2, 6), (0, 7), (1, 7), (2, 7), (0, 8), (1, 8), (2, 8), (3, 8), (4, 8), (5, 8), (6, 8), (7, 8), (0, 9), (1, 9), (2, 9), (3, 9), (4, 9), (5, 9), (6, 9), (7, 9), (0, 10), (1, 10), (2, 10), (3, 10), (4, 10), (5, 10), (6, 10), (7, 10), (0, 11), (1, 11), (2, 11), (3, 11), (4, 11), (5, 11), (6, 11), (7, 11), (0, 12), (1, 12), (2, 12), (1, 13), (2, 13), (1, 14), (2, 14), (1, 15), (2, 15), (2, 16), (2, 17), (2, 18)]
abbrev b122x3 : BC := .reg [⟨0, some 54, .move (T 0), none⟩,
  ⟨1, some 55, .nilCheck (T 54), none⟩,
  ⟨2, some 56, .fieldAddr 200 (T 55) 0, none⟩,
  ⟨3, some 57, .fieldAddr 55 (T 56) 0, none⟩,
  ⟨4, some 58, .fieldAddr 29 (T 57) 0, none⟩,
  ⟨5, some 59, .load 26 (T 58), none⟩,
  ⟨6, some 60, .call ⟨.builtin .len, #[(T 59)], #[26]⟩, none⟩,
  ⟨7, some 61, .move (K 0), none⟩] []
abbrev b122x4 : BC := .reg [⟨0, some 62, .binOp .lss 3 (T 61) (T 60) 3, none⟩] []
abbrev b122x5 : BC := .reg [⟨0, some 63, .move (T 61), none⟩,
  ⟨1, some 2, .assign (T 63), none⟩] []
abbrev b122x6 : BC := .reg [⟨0, some 64, .move (T 0), none⟩,
  ⟨1, some 65, .nilCheck (T 64), none⟩,
  ⟨2, some 66, .fieldAddr 200 (T 65) 1, none⟩,
  ⟨3, some 67, .load 26 (T 66), none⟩,
  ⟨4, some 68, .move (T 2), none⟩,
  ⟨5, some 69, .call ⟨.value (.func 138), #[(T 67), (T 68)], #[26, 3]⟩, none⟩] []
abbrev b122x7 : BC := .reg [⟨0, some 70, .move (T 0), none⟩,
  ⟨1, some 71, .nilCheck (T 70), none⟩,
  ⟨2, some 72, .fieldAddr 200 (T 71) 1, none⟩,
  ⟨3, some 73, .load 26 (T 72), none⟩,
  ⟨4, some 74, .move (T 0), none⟩,
  ⟨5, some 75, .nilCheck (T 74), none⟩,
  ⟨6, some 76, .fieldAddr 200 (T 75) 2, none⟩,
  ⟨7, some 77, .load 26 (T 76), none⟩,
  ⟨8, some 3, .assign (T 73), none⟩,
  ⟨9, some 4, .assign (T 77), none⟩] [(0, 4), (1, 4), (2, 4), (3, 4), (0, 5), (1, 5), (2, 5), (3, 5), (0, 6), (1, 6), (2, 6), (3, 6), (0, 7), (1, 7), (2, 7), (3, 7), (4, 8), (5, 8), (6, 8), (7, 8)]
abbrev b122x8 : BC := .reg [⟨0, some 78, .move (T 0), none⟩,
  ⟨1, some 79, .move (T 3), none⟩,
  ⟨2, some 80, .call ⟨.value (.func 27), #[(T 79)], #[26]⟩, none⟩,
  ⟨3, some 81, .move (T 2), none⟩,
  ⟨4, some 82, .buildSlice 26 1 #[(0, (T 81))], none⟩,
  ⟨5, some 83, .call ⟨.builtin .append, #[(T 80), (T 82)], #[26, 26]⟩, none⟩,
  ⟨6, some 84, .nilCheck (T 78), none⟩,
  ⟨7, some 85, .fieldAddr 200 (T 84) 1, none⟩,
  ⟨8, none, .store 26 (T 85) (T 83), none⟩] []
abbrev b122x9 : BC := .reg [⟨0, some 86, .move (T 0), none⟩,
  ⟨1, some 87, .move (T 4), none⟩,
  ⟨2, some 88, .call ⟨.value (.func 27), #[(T 87)], #[26]⟩, none⟩,
  ⟨3, some 89, .move (T 0), none⟩,
  ⟨4, some 90, .nilCheck (T 89), none⟩,
  ⟨5, some 91, .fieldAddr 200 (T 90) 0, none⟩,
  ⟨6, some 92, .load 55 (T 91), none⟩,
  ⟨7, some 93, .move (T 0), none⟩,
  ⟨8, some 94, .nilCheck (T 93), none⟩,
  ⟨9, some 95, .fieldAddr 200 (T 94) 1, none⟩,
  ⟨10, some 96, .load 26 (T 95), none⟩,
  ⟨11, some 97, .call ⟨.value (.func 219), #[(T 92), (T 96)], #[55, 26]⟩, none⟩,
  ⟨12, some 98, .call ⟨.builtin .append, #[(T 88), (T 97)], #[26, 26]⟩, none⟩,
  ⟨13, some 99, .nilCheck (T 86), none⟩,
  ⟨14, some 100, .fieldAddr 200 (T 99) 2, none⟩,
  ⟨15, none, .store 26 (T 100) (T 98), none⟩] [(0, 1), (0, 2), (0, 3), (1, 3), (2, 3), (0, 4), (1, 4), (2, 4), (0, 5), (1, 5), (2, 5), (0, 6), (1, 6), (2, 6), (0, 7), (1, 7), (2, 7), (3, 7), (4, 7), (5, 7), (6, 7), (0, 8), (1, 8), (2, 8), (3, 8), (4, 8), (5, 8), (6, 8), (0, 9), (1, 9), (2, 9), (3, 9), (4, 9), (5, 9), (6, 9), (0, 10), (1, 10), (2, 10), (3, 10), (4, 10), (5, 10), (6, 10), (0, 11), (0, 12)]
abbrev b122x10 : BC := .reg [⟨0, some 101, .move (T 0), none⟩,
  ⟨1, some 102, .nilCheck (T 101), none⟩,
  ⟨2, some 103, .fieldAddr 200 (T 102) 5, none⟩,
  ⟨3, some 104, .load 4 (T 103), none⟩,
  ⟨4, some 105, .unOp .not 4 (T 104), none⟩,
  ⟨5, some 106, .move (T 105), none⟩,
  ⟨6, some 107, .move (T 0), some (106, false)⟩,
  ⟨7, some 108, .nilCheck (T 107), some (106, false)⟩,
  ⟨8, some 109, .fieldAddr 200 (T 108) 2, some (106, false)⟩,
  ⟨9, some 110, .load 26 (T 109), some (106, false)⟩,
  ⟨10, some 111, .move (T 0), some (106, false)⟩,
  ⟨11, some 112, .nilCheck (T 111), some (106, false)⟩,
  ⟨12, some 113, .fieldAddr 200 (T 112) 4, some (106, false)⟩,
  ⟨13, some 114, .load 26 (T 113), some (106, false)⟩,
  ⟨14, some 115, .move (T 0), some (106, false)⟩,
  ⟨15, some 116, .nilCheck (T 115), some (106, false)⟩,
  ⟨16, some 117, .fieldAddr 200 (T 116) 2, some (106, false)⟩,
  ⟨17, some 118, .load 26 (T 117), some (106, false)⟩,
  ⟨18, some 119, .call ⟨.builtin .len, #[(T 118)], #[26]⟩, some (106, false)⟩,
  ⟨19, some 120, .move (T 0), some (106, false)⟩,
  ⟨20, some 121, .nilCheck (T 120), some (106, false)⟩,
  ⟨21, some 122, .fieldAddr 200 (T 121) 4, some (106, false)⟩,
  ⟨22, some 123, .load 26 (T 122), some (106, false)⟩,
  ⟨23, some 124, .call ⟨.builtin .len, #[(T 123)], #[26]⟩, some (106, false)⟩,
  ⟨24, some 125, .call ⟨.builtin .min, #[(T 119), (T 124)], #[3, 3]⟩, some (106, false)⟩,
  ⟨25, some 126, .slice 26 (T 114) none (some (T 125)) none, some (106, false)⟩,
  ⟨26, some 127, .call ⟨.value (.func 218), #[(T 110), (T 126)], #[26, 26]⟩, some (106, false)⟩,
  ⟨27, some 128, .binOp .leq 3 (T 127) (K 0) 3, some (106, false)⟩,
  ⟨28, some 129, .pick (T 106) (.const (.bool true)) (T 128), none⟩] [(6, 10), (7, 10), (8, 10), (9, 10), (6, 11), (7, 11), (8, 11), (9, 11), (6, 12), (7, 12), (8, 12), (9, 12), (6, 13), (7, 13), (8, 13), (9, 13), (6, 14), (7, 14), (8, 14), (9, 14), (10, 14), (11, 14), (12, 14), (13, 14), (6, 15), (7, 15), (8, 15), (9, 15), (10, 15), (11, 15), (12, 15), (13, 15), (6, 16), (7, 16), (8, 16), (9, 16), (10, 16), (11, 16), (12, 16), (13, 16), (6, 17), (7, 17), (8, 17), (9, 17), (10, 17), (11, 17), (12, 17), (13, 17), (6, 18), (7, 18), (8, 18), (9, 18), (10, 18), (11, 18), (12, 18), (13, 18), (6, 19), (7, 19), (8, 19), (9, 19), (10, 19), (11, 19), (12, 19), (13, 19), (14, 19), (15, 19), (16, 19), (17, 19), (18, 19), (6, 20), (7, 20), (8, 20), (9, 20), (10, 20), (11, 20), (12, 20), (13, 20), (14, 20), (15, 20), (16, 20), (17, 20), (18, 20), (6, 21), (7, 21), (8, 21), (9, 21), (10, 21), (11, 21), (12, 21), (13, 21), (14, 21), (15, 21), (16, 21), (17, 21), (18, 21), (6, 22), (7, 22), (8, 22), (9, 22), (10, 22), (11, 22), (12, 22), (13, 22), (14, 22), (15, 22), (16, 22), (17, 22), (18, 22), (6, 23), (7, 23), (8, 23), (9, 23), (10, 23), (11, 23), (12, 23), (13, 23), (14, 23), (15, 23), (16, 23), (17, 23), (18, 23), (6, 24), (7, 24), (8, 24), (9, 24), (10, 24), (11, 24), (12, 24), (13, 24), (6, 25), (7, 25), (8, 25), (9, 25)]
abbrev b122x11 : BC := .reg [⟨0, some 130, .move (T 0), none⟩,
  ⟨1, some 131, .call ⟨.value (.func 122), #[(T 130)], #[198]⟩, none⟩] []
abbrev b122x12 : BC := .reg [⟨0, some 132, .move (T 0), none⟩,
  ⟨1, some 133, .move (T 0), none⟩,
  ⟨2, some 134, .move (T 3), none⟩,
  ⟨3, some 135, .move (T 4), none⟩,
  ⟨4, some 136, .nilCheck (T 132), none⟩,
  ⟨5, some 137, .fieldAddr 200 (T 136) 1, none⟩,
  ⟨6, none, .store 26 (T 137) (T 134), none⟩,
  ⟨7, some 138, .nilCheck (T 133), none⟩,
  ⟨8, some 139, .fieldAddr 200 (T 138) 2, none⟩,
  ⟨9, none, .store 26 (T 139) (T 135), none⟩] []
abbrev b122x13 : BC := .seq (.seq b122x6 (.cond (T 69) (.exit 1) .skip)) (.seq b122x7 (.seq b122x8 (.seq b122x9 (.seq (.seq b122x10 (.cond (T 129) b122x11 .skip)) b122x12))))
abbrev b122x14 : BC := .reg [⟨0, some 140, .binOp .add 3 (T 61) (K 1) 3, none⟩,
  ⟨1, some 61, .move (T 140), none⟩] []
abbrev b122x15 : BC := .loop (.seq b122x4 (.seq (.cond (T 62) .skip (.exit 0)) (.seq (.block 1 (.seq b122x5 b122x13)) b122x14)))
abbrev b122x16 : BC := .seq (.seq b122x0 (.cond (T 17) (.seq (.seq b122x1 (.cond (T 34) b122x2 .skip)) .ret) .skip)) (.seq b122x3 (.block 0 b122x15))
abbrev b122 : BC := b122x16
theorem c122 : Tryz.f122.body.bind (compile Tryz.f122.ntmps) = some b122 := by kernel_rfl
theorem ok122 : EntryOK Tryz.prog (122, ⟨141, b122, #[]⟩) := ⟨Tryz.f122, Tryz.func122, c122, Tryz.ntmps122, by kernel_rfl, Tryz.call122⟩
/-! scarfjoint/host.listedEdges -/
abbrev b123x0 : BC := .reg [⟨0, some 2, .box 29 (T 0), none⟩,
  ⟨1, some 3, .box 26 (T 1), none⟩,
  ⟨2, some 4, .assign (.const (.slice none 0 0)), none⟩] []
abbrev b123x1 : BC := .reg [⟨0, some 5, .assign (.const (.slice none 0 0)), none⟩] []
abbrev b123x2 : BC := .reg [⟨0, some 8, .fieldAddr 29 (T 2) 1, none⟩,
  ⟨1, some 9, .load 27 (T 8), none⟩,
  ⟨2, some 10, .call ⟨.builtin .len, #[(T 9)], #[27]⟩, none⟩,
  ⟨3, some 11, .move (K 0), none⟩] []
abbrev b123x3 : BC := .reg [⟨0, some 12, .binOp .lss 3 (T 11) (T 10) 3, none⟩] []
abbrev b123x4 : BC := .reg [⟨0, some 13, .move (T 11), none⟩,
  ⟨1, some 6, .assign (T 13), none⟩] []
abbrev b123x5 : BC := .reg [⟨0, some 14, .move (T 5), none⟩,
  ⟨1, some 15, .move (T 6), none⟩,
  ⟨2, some 16, .buildSlice 26 1 #[(0, (T 15))], none⟩,
  ⟨3, some 17, .call ⟨.builtin .append, #[(T 14), (T 16)], #[26, 26]⟩, none⟩,
  ⟨4, some 5, .assign (T 17), none⟩] []
abbrev b123x6 : BC := .reg [⟨0, some 18, .binOp .add 3 (T 11) (K 1) 3, none⟩,
  ⟨1, some 11, .move (T 18), none⟩] []
abbrev b123x7 : BC := .loop (.seq b123x3 (.seq (.cond (T 12) .skip (.exit 0)) (.seq (.block 1 (.seq b123x4 b123x5)) b123x6)))
abbrev b123x8 : BC := .reg [⟨0, some 19, .makeFunc (.func 220) #[] #[(T 2), (T 3)], none⟩,
  ⟨1, some 7, .alloc 288, none⟩,
  ⟨2, none, .store 288 (T 7) (T 19), none⟩] []
abbrev b123x9 : BC := .reg [⟨0, some 20, .move (T 5), none⟩,
  ⟨1, some 21, .makeFunc (.func 222) #[] #[(T 7)], none⟩,
  ⟨2, some 22, .call ⟨.value (.func 221), #[(T 20), (T 21)], #[26, 292]⟩, none⟩] []
abbrev b123x10 : BC := .reg [⟨0, some 23, .move (T 5), none⟩,
  ⟨1, some 4, .assign (T 23), none⟩] []
abbrev b123x11 : BC := .seq b123x0 (.seq b123x1 (.seq (.seq b123x2 (.block 0 b123x7)) (.seq b123x8 (.seq b123x9 (.seq b123x10 .ret)))))
abbrev b123 : BC := b123x11
theorem c123 : Tryz.f123.body.bind (compile Tryz.f123.ntmps) = some b123 := by kernel_rfl
theorem ok123 : EntryOK Tryz.prog (123, ⟨24, b123, #[.tmp 4]⟩) := ⟨Tryz.f123, Tryz.func123, c123, Tryz.ntmps123, by kernel_rfl, Tryz.call123⟩
/-! scarfjoint/scarfjointref15.compare -/
abbrev b127x0 : BC := .reg [⟨0, some 4, .assign (K 0), none⟩] []
abbrev b127x1 : BC := .reg [⟨0, some 5, .assign (K 0), none⟩] []
abbrev b127x2 : BC := .reg [⟨0, some 6, .move (T 5), none⟩,
  ⟨1, some 7, .move (T 0), none⟩,
  ⟨2, some 8, .call ⟨.builtin .len, #[(T 7)], #[26]⟩, none⟩,
  ⟨3, some 9, .binOp .lss 3 (T 6) (T 8) 3, none⟩,
  ⟨4, some 10, .move (T 9), none⟩,
  ⟨5, some 11, .move (T 5), some (10, true)⟩,
  ⟨6, some 12, .move (T 1), some (10, true)⟩,
  ⟨7, some 13, .call ⟨.builtin .len, #[(T 12)], #[26]⟩, some (10, true)⟩,
  ⟨8, some 14, .binOp .lss 3 (T 11) (T 13) 3, some (10, true)⟩,
  ⟨9, some 15, .pick (T 10) (T 14) (.const (.bool false)), none⟩] []
abbrev b127x3 : BC := .reg [⟨0, some 18, .move (T 0), none⟩,
  ⟨1, some 19, .move (T 5), none⟩,
  ⟨2, some 20, .indexAddr 26 (T 18) (T 19), none⟩,
  ⟨3, some 21, .load 3 (T 20), none⟩,
  ⟨4, some 22, .move (T 1), none⟩,
  ⟨5, some 23, .move (T 5), none⟩,
  ⟨6, some 24, .indexAddr 26 (T 22) (T 23), none⟩,
  ⟨7, some 25, .load 3 (T 24), none⟩,
  ⟨8, some 26, .binOp .neq 3 (T 21) (T 25) 3, none⟩] [(0, 1), (0, 4), (1, 4), (2, 4), (3, 4), (0, 5), (1, 5), (2, 5), (3, 5), (4, 5), (0, 6), (1, 6), (2, 6), (3, 6), (0, 7), (1, 7), (2, 7), (3, 7)]
abbrev b127x4 : BC := .reg [⟨0, some 27, .move (T 0), none⟩,
  ⟨1, some 28, .move (T 5), none⟩,
  ⟨2, some 29, .indexAddr 26 (T 27) (T 28), none⟩,
  ⟨3, some 30, .load 3 (T 29), none⟩,
  ⟨4, some 31, .move (T 1), none⟩,
  ⟨5, some 32, .move (T 5), none⟩,
  ⟨6, some 33, .indexAddr 26 (T 31) (T 32), none⟩,
  ⟨7, some 34, .load 3 (T 33), none⟩,
  ⟨8, some 35, .binOp .sub 3 (T 30) (T 34) 3, none⟩,
  ⟨9, some 4, .assign (T 35), none⟩] [(0, 1), (0, 4), (1, 4), (2, 4), (3, 4), (0, 5), (1, 5), (2, 5), (3, 5), (4, 5), (0, 6), (1, 6), (2, 6), (3, 6), (0, 7), (1, 7), (2, 7), (3, 7)]
abbrev b127x5 : BC := .reg [⟨0, some 16, .move (T 5), none⟩,
  ⟨1, some 17, .binOp .add 3 (T 16) (K 1) 3, none⟩,
  ⟨2, some 5, .assign (T 17), none⟩] []
abbrev b127x6 : BC := .seq (.seq b127x2 (.cond (T 15) .skip (.exit 0))) (.seq (.block 1 (.seq b127x3 (.cond (T 26) (.seq b127x4 .ret) .skip))) b127x5)
abbrev b127x7 : BC := .loop b127x6
abbrev b127x8 : BC := .reg [⟨0, some 36, .move (T 0), none⟩,
  ⟨1, some 37, .call ⟨.builtin .len, #[(T 36)], #[26]⟩, none⟩,
  ⟨2, some 38, .move (T 1), none⟩,
  ⟨3, some 39, .call ⟨.builtin .len, #[(T 38)], #[26]⟩, none⟩,
  ⟨4, some 40, .binOp .sub 3 (T 37) (T 39) 3, none⟩,
  ⟨5, some 4, .assign (T 40), none⟩] []
abbrev b127 : BC := .seq b127x0 (.seq (.seq b127x1 (.block 0 b127x7)) (.seq b127x8 .ret))
theorem c127 : Tryz.f127.body.bind (compile Tryz.f127.ntmps) = some b127 := by kernel_rfl
theorem ok127 : EntryOK Tryz.prog (127, ⟨41, b127, #[.tmp 4]⟩) := ⟨Tryz.f127, Tryz.func127, c127, Tryz.ntmps127, by kernel_rfl, Tryz.call127⟩
/-! slices.Equal[[]scarfjoint/api.Edge,scarfjoint/api.Edge] -/
abbrev b133x0 : BC := .reg [⟨0, some 4, .assign (.const (.bool false)), none⟩] []
abbrev b133x1 : BC := .reg [⟨0, some 6, .move (T 0), none⟩,
  ⟨1, some 7, .call ⟨.builtin .len, #[(T 6)], #[27]⟩, none⟩,
  ⟨2, some 8, .move (T 1), none⟩,
  ⟨3, some 9, .call ⟨.builtin .len, #[(T 8)], #[27]⟩, none⟩,
  ⟨4, some 10, .binOp .neq 3 (T 7) (T 9) 3, none⟩] []
abbrev b133x2 : BC := .reg [⟨0, some 4, .assign (.const (.bool false)), none⟩] []
abbrev b133x3 : BC := .reg [⟨0, some 11, .move (T 0), none⟩,
  ⟨1, some 12, .call ⟨.builtin .len, #[(T 11)], #[27]⟩, none⟩,
  ⟨2, some 13, .move (K 0), none⟩] []
abbrev b133x4 : BC := .reg [⟨0, some 14, .binOp .lss 3 (T 13) (T 12) 3, none⟩] []
abbrev b133x5 : BC := .reg [⟨0, some 15, .move (T 13), none⟩,
  ⟨1, some 5, .assign (T 15), none⟩] []
abbrev b133x6 : BC := .reg [⟨0, some 16, .move (T 0), none⟩,
  ⟨1, some 17, .move (T 5), none⟩,
  ⟨2, some 18, .indexAddr 27 (T 16) (T 17), none⟩,
  ⟨3, some 19, .load 84 (T 18), none⟩,
  ⟨4, some 20, .move (T 1), none⟩,
  ⟨5, some 21, .move (T 5), none⟩,
  ⟨6, some 22, .indexAddr 27 (T 20) (T 21), none⟩,
  ⟨7, some 23, .load 84 (T 22), none⟩,
  ⟨8, some 24, .binOp .neq 84 (T 19) (T 23) 84, none⟩] [(0, 1), (0, 4), (1, 4), (2, 4), (3, 4), (0, 5), (1, 5), (2, 5), (3, 5), (4, 5), (0, 6), (1, 6), (2, 6), (3, 6), (0, 7), (1, 7), (2, 7), (3, 7)]
abbrev b133x7 : BC := .reg [⟨0, some 4, .assign (.const (.bool false)), none⟩] []
abbrev b133x8 : BC := .reg [⟨0, some 25, .binOp .add 3 (T 13) (K 1) 3, none⟩,
  ⟨1, some 13, .move (T 25), none⟩] []
abbrev b133x9 : BC := .seq (.cond (T 14) .skip (.exit 0)) (.seq (.block 1 (.seq b133x5 (.seq b133x6 (.cond (T 24) (.seq b133x7 .ret) .skip)))) b133x8)
abbrev b133x10 : BC := .loop (.seq b133x4 b133x9)
abbrev b133x11 : BC := .reg [⟨0, some 4, .assign (.const (.bool true)), none⟩] []
abbrev b133x12 : BC := .seq (.seq b133x1 (.cond (T 10) (.seq b133x2 .ret) .skip)) (.seq (.seq b133x3 (.block 0 b133x10)) (.seq b133x11 .ret))
abbrev b133 : BC := .seq b133x0 b133x12
theorem c133 : Tryz.f133.body.bind (compile Tryz.f133.ntmps) = some b133 := by kernel_rfl
theorem ok133 : EntryOK Tryz.prog (133, ⟨26, b133, #[.tmp 4]⟩) := ⟨Tryz.f133, Tryz.func133, c133, Tryz.ntmps133, by kernel_rfl, Tryz.call133⟩
/-! slices.EqualFunc[[][]int,[][]int,[]int,[]int] -/
abbrev b134x0 : BC := .reg [⟨0, some 6, .assign (.const (.bool false)), none⟩] []
abbrev b134x1 : BC := .reg [⟨0, some 10, .move (T 0), none⟩,
  ⟨1, some 11, .call ⟨.builtin .len, #[(T 10)], #[53]⟩, none⟩,
  ⟨2, some 12, .move (T 1), none⟩,
  ⟨3, some 13, .call ⟨.builtin .len, #[(T 12)], #[53]⟩, none⟩,
  ⟨4, some 14, .binOp .neq 3 (T 11) (T 13) 3, none⟩] []
abbrev b134x2 : BC := .reg [⟨0, some 6, .assign (.const (.bool false)), none⟩] []
abbrev b134x3 : BC := .reg [⟨0, some 15, .move (T 0), none⟩,
  ⟨1, some 16, .call ⟨.builtin .len, #[(T 15)], #[53]⟩, none⟩,
  ⟨2, some 17, .move (K 0), none⟩] []
abbrev b134x4 : BC := .reg [⟨0, some 18, .binOp .lss 3 (T 17) (T 16) 3, none⟩] []
abbrev b134x5 : BC := .reg [⟨0, some 19, .move (T 17), none⟩,
  ⟨1, some 20, .indexAddr 53 (T 15) (T 17), none⟩,
  ⟨2, some 21, .load 26 (T 20), none⟩,
  ⟨3, some 7, .assign (T 19), none⟩,
  ⟨4, some 8, .assign (T 21), none⟩] []
abbrev b134x6 : BC := .reg [⟨0, some 22, .move (T 1), none⟩,
  ⟨1, some 23, .move (T 7), none⟩,
  ⟨2, some 24, .indexAddr 53 (T 22) (T 23), none⟩,
  ⟨3, some 25, .load 26 (T 24), none⟩,
  ⟨4, some 9, .assign (T 25), none⟩] []
abbrev b134x7 : BC := .reg [⟨0, some 26, .move (T 2), none⟩,
  ⟨1, some 27, .move (T 8), none⟩,
  ⟨2, some 28, .move (T 9), none⟩,
  ⟨3, some 29, .call ⟨.value (T 26), #[(T 27), (T 28)], #[26, 26]⟩, none⟩,
  ⟨4, some 30, .unOp .not 4 (T 29), none⟩] []
abbrev b134x8 : BC := .reg [⟨0, some 6, .assign (.const (.bool false)), none⟩] []
abbrev b134x9 : BC := .reg [⟨0, some 31, .binOp .add 3 (T 17) (K 1) 3, none⟩,
  ⟨1, some 17, .move (T 31), none⟩] []
abbrev b134x10 : BC := .seq (.block 1 (.seq b134x5 (.seq b134x6 (.seq b134x7 (.cond (T 30) (.seq b134x8 .ret) .skip))))) b134x9
abbrev b134x11 : BC := .loop (.seq b134x4 (.seq (.cond (T 18) .skip (.exit 0)) b134x10))
abbrev b134x12 : BC := .reg [⟨0, some 6, .assign (.const (.bool true)), none⟩] []
abbrev b134x13 : BC := .seq (.seq b134x1 (.cond (T 14) (.seq b134x2 .ret) .skip)) (.seq (.seq b134x3 (.block 0 b134x11)) (.seq b134x12 .ret))
abbrev b134 : BC := .seq b134x0 b134x13
theorem c134 : Tryz.f134.body.bind (compile Tryz.f134.ntmps) = some b134 := by kernel_rfl
theorem ok134 : EntryOK Tryz.prog (134, ⟨32, b134, #[.tmp 6]⟩) := ⟨Tryz.f134, Tryz.func134, c134, Tryz.ntmps134, by kernel_rfl, Tryz.call134⟩
/-! scarfjoint/types.Attrs -/
abbrev b135x0 : BC := .reg [⟨0, some 2, .box 25 (T 0), none⟩,
  ⟨1, some 4, .assign (.const (.slice none 0 0)), none⟩,
  ⟨2, some 5, .assign (K 0), none⟩] []
abbrev b135x1 : BC := .reg [⟨0, some 9, .load 25 (T 2), none⟩,
  ⟨1, some 10, .move (T 1), none⟩,
  ⟨2, some 11, .buildSlice 26 1 #[(0, (T 10))], none⟩,
  ⟨3, some 12, .call ⟨.value (.func 213), #[(T 9), (T 11)], #[25, 26]⟩, none⟩,
  ⟨4, some 6, .assign (T 12), none⟩] []
abbrev b135x2 : BC := .reg [⟨0, some 13, .move (T 6), none⟩,
  ⟨1, some 14, .binOp .neq 38 (T 13) (K 0) 38, none⟩] []
abbrev b135x3 : BC := .reg [⟨0, some 15, .move (T 6), none⟩,
  ⟨1, some 4, .assign (.const (.slice none 0 0)), none⟩,
  ⟨2, some 5, .assign (T 15), none⟩] []
abbrev b135x4 : BC := .reg [⟨0, some 16, .load 25 (T 2), none⟩,
  ⟨1, some 17, .move (T 1), none⟩,
  ⟨2, some 18, .call ⟨.value (.func 228), #[(T 16), (T 17)], #[25, 3]⟩, none⟩,
  ⟨3, some 7, .assign (T 18), none⟩] []
abbrev b135x5 : BC := .reg [⟨0, some 19, .move (T 7), none⟩,
  ⟨1, some 20, .call ⟨.builtin .len, #[(T 19)], #[155]⟩, none⟩,
  ⟨2, some 21, .move (K 0), none⟩] []
abbrev b135x6 : BC := .reg [⟨0, some 22, .binOp .lss 3 (T 21) (T 20) 3, none⟩] []
abbrev b135x7 : BC := .reg [⟨0, some 23, .move (T 21), none⟩,
  ⟨1, some 8, .assign (T 23), none⟩] []
abbrev b135x8 : BC := .reg [⟨0, some 24, .move (T 7), none⟩,
  ⟨1, some 25, .move (T 8), none⟩,
  ⟨2, some 26, .move (T 7), none⟩,
  ⟨3, some 27, .move (T 8), none⟩,
  ⟨4, some 28, .indexAddr 155 (T 26) (T 27), none⟩,
  ⟨5, some 29, .fieldAddr 160 (T 28) 3, none⟩,
  ⟨6, some 30, .load 158 (T 29), none⟩,
  ⟨7, some 31, .call ⟨.value (.func 229), #[(T 30)], #[158]⟩, none⟩,
  ⟨8, some 32, .indexAddr 155 (T 24) (T 25), none⟩,
  ⟨9, some 33, .fieldAddr 160 (T 32) 3, none⟩,
  ⟨10, none, .store 158 (T 33) (T 31), none⟩] []
abbrev b135x9 : BC := .reg [⟨0, some 34, .binOp .add 3 (T 21) (K 1) 3, none⟩,
  ⟨1, some 21, .move (T 34), none⟩] []
abbrev b135x10 : BC := .loop (.seq b135x6 (.seq (.cond (T 22) .skip (.exit 0)) (.seq (.block 1 (.seq b135x7 b135x8)) b135x9)))
abbrev b135x11 : BC := .reg [⟨0, some 35, .move (T 7), none⟩,
  ⟨1, some 4, .assign (T 35), none⟩,
  ⟨2, some 5, .assign (K 0), none⟩] []
abbrev b135x12 : BC := .seq (.seq b135x1 (.seq b135x2 (.cond (T 14) (.seq b135x3 .ret) .skip))) (.seq b135x4 (.seq (.seq b135x5 (.block 0 b135x10)) (.seq b135x11 .ret)))
abbrev b135 : BC := .seq b135x0 b135x12
theorem c135 : Tryz.f135.body.bind (compile Tryz.f135.ntmps) = some b135 := by kernel_rfl
theorem ok135 : EntryOK Tryz.prog (135, ⟨36, b135, #[.tmp 4, .tmp 5]⟩) := ⟨Tryz.f135, Tryz.func135, c135, Tryz.ntmps135, by kernel_rfl, Tryz.call135⟩
/-! slices.Contains[[]int,int] -/
abbrev b138x0 : BC := .reg [⟨0, some 4, .assign (.const (.bool false)), none⟩] []
abbrev b138x1 : BC := .reg [⟨0, some 5, .move (T 0), none⟩,
  ⟨1, some 6, .move (T 1), none⟩,
  ⟨2, some 7, .call ⟨.value (.func 231), #[(T 5), (T 6)], #[26, 3]⟩, none⟩,
  ⟨3, some 8, .binOp .geq 3 (T 7) (K 0) 3, none⟩,
  ⟨4, some 4, .assign (T 8), none⟩] []
abbrev b138 : BC := .seq b138x0 (.seq b138x1 .ret)
theorem c138 : Tryz.f138.body.bind (compile Tryz.f138.ntmps) = some b138 := by kernel_rfl
theorem ok138 : EntryOK Tryz.prog (138, ⟨9, b138, #[.tmp 4]⟩) := ⟨Tryz.f138, Tryz.func138, c138, Tryz.ntmps138, by kernel_rfl, Tryz.call138⟩
/-! scarfjoint/token.IsName -/
abbrev b148x0 : BC := .reg [⟨0, some 2, .assign (.const (.bool false)), none⟩] []
abbrev b148x1 : BC := .reg [⟨0, some 6, .move (T 0), none⟩,
  ⟨1, some 7, .build 305 #[(0, (K 1)), (1, (T 6))], none⟩,
  ⟨2, some 8, .call ⟨.value (.func 240), #[(T 7)], #[305]⟩, none⟩,
  ⟨3, some 5, .move (T 8), none⟩,
  ⟨4, some 9, .extract (T 5) 0, none⟩,
  ⟨5, some 10, .extract (T 5) 1, none⟩,
  ⟨6, some 3, .assign (T 9), none⟩,
  ⟨7, some 4, .assign (T 10), none⟩] []
abbrev b148x2 : BC := .reg [⟨0, some 11, .move (T 4), none⟩,
  ⟨1, some 2, .assign (T 11), none⟩] []
abbrev b148 : BC := .seq b148x0 (.seq b148x1 (.seq b148x2 .ret))
theorem c148 : Tryz.f148.body.bind (compile Tryz.f148.ntmps) = some b148 := by kernel_rfl
theorem ok148 : EntryOK Tryz.prog (148, ⟨12, b148, #[.tmp 2]⟩) := ⟨Tryz.f148, Tryz.func148, c148, Tryz.ntmps148, by kernel_rfl, Tryz.call148⟩
/-! slices.Sort[[]int,int] -/
abbrev b178x0 : BC := .reg [⟨0, some 3, .move (T 0), none⟩,
  ⟨1, some 4, .call ⟨.builtin .len, #[(T 3)], #[26]⟩, none⟩,
  ⟨2, some 2, .assign (T 4), none⟩] []
abbrev b178x1 : BC := .reg [⟨0, some 5, .move (T 0), none⟩,
  ⟨1, some 6, .move (T 2), none⟩,
  ⟨2, some 7, .move (T 2), none⟩,
  ⟨3, some 8, .convert 3 321 (T 7), none⟩,
  ⟨4, some 9, .call ⟨.value (.func 264), #[(T 8)], #[321]⟩, none⟩,
  ⟨5, some 10, .call ⟨.value (.func 263), #[(T 5), (K 0), (T 6), (T 9)], #[26, 3, 3, 3]⟩, none⟩] []
abbrev b178 : BC := .seq b178x0 b178x1
theorem c178 : Tryz.f178.body.bind (compile Tryz.f178.ntmps) = some b178 := by kernel_rfl
theorem ok178 : EntryOK Tryz.prog (178, ⟨11, b178, #[]⟩) := ⟨Tryz.f178, Tryz.func178, c178, Tryz.ntmps178, by kernel_rfl, Tryz.call178⟩
/-! scarfjoint/types.node -/
abbrev b194x0 : BC := .reg [⟨0, some 2, .box 25 (T 0), none⟩,
  ⟨1, some 4, .assign (K 0), none⟩] []
abbrev b194x1 : BC := .reg [⟨0, some 9, .fieldAddr 25 (T 2) 0, none⟩,
  ⟨1, some 10, .load 22 (T 9), none⟩,
  ⟨2, some 11, .move (T 1), none⟩,
  ⟨3, some 12, .indexAddr 22 (T 10) (T 11), none⟩,
  ⟨4, some 13, .load 157 (T 12), none⟩,
  ⟨5, some 5, .alloc 157, none⟩,
  ⟨6, none, .store 157 (T 5) (T 13), none⟩] []
abbrev b194x2 : BC := .reg [⟨0, some 15, .fieldAddr 157 (T 5) 0, none⟩,
  ⟨1, some 16, .load 9 (T 15), none⟩,
  ⟨2, some 17, .call ⟨.value (.func 148), #[(T 16)], #[9]⟩, none⟩,
  ⟨3, some 18, .unOp .not 4 (T 17), none⟩,
  ⟨4, some 14, .assign (T 18), none⟩] []
abbrev b194x3 : BC := .reg [⟨0, some 4, .assign (K 2), none⟩] []
abbrev b194x4 : BC := .reg [⟨0, some 20, .fieldAddr 25 (T 2) 0, none⟩,
  ⟨1, some 21, .load 22 (T 20), none⟩,
  ⟨2, some 22, .move (T 1), none⟩,
  ⟨3, some 23, .slice 22 (T 21) none (some (T 22)) none, none⟩,
  ⟨4, some 24, .makeFunc (.func 270) #[] #[(T 5)], none⟩,
  ⟨5, some 25, .call ⟨.value (.func 269), #[(T 23), (T 24)], #[22, 326]⟩, none⟩,
  ⟨6, some 19, .assign (T 25), none⟩] []
abbrev b194x5 : BC := .reg [⟨0, some 4, .assign (K 5), none⟩] []
abbrev b194x6 : BC := .reg [⟨0, some 27, .fieldAddr 157 (T 5) 1, none⟩,
  ⟨1, some 28, .load 3 (T 27), none⟩,
  ⟨2, some 29, .binOp .lss 3 (T 28) (K (-1)) 3, none⟩,
  ⟨3, some 30, .move (T 29), none⟩,
  ⟨4, some 31, .fieldAddr 157 (T 5) 1, some (30, false)⟩,
  ⟨5, some 32, .load 3 (T 31), some (30, false)⟩,
  ⟨6, some 33, .move (T 1), some (30, false)⟩,
  ⟨7, some 34, .binOp .geq 3 (T 32) (T 33) 3, some (30, false)⟩,
  ⟨8, some 35, .pick (T 30) (.const (.bool true)) (T 34), none⟩,
  ⟨9, some 26, .assign (T 35), none⟩] []
abbrev b194x7 : BC := .reg [⟨0, some 4, .assign (K 6), none⟩] []
abbrev b194x8 : BC := .reg [⟨0, some 37, .fieldAddr 157 (T 5) 3, none⟩,
  ⟨1, some 38, .load 155 (T 37), none⟩,
  ⟨2, some 39, .call ⟨.builtin .len, #[(T 38)], #[155]⟩, none⟩,
  ⟨3, some 40, .binOp .gtr 3 (T 39) (K 4) 3, none⟩,
  ⟨4, some 36, .assign (T 40), none⟩] []
abbrev b194x9 : BC := .reg [⟨0, some 4, .assign (K 3), none⟩] []
abbrev b194x10 : BC := .cond (T 19) (.seq b194x5 .ret) (.seq b194x6 (.cond (T 26) (.seq b194x7 .ret) (.seq b194x8 (.cond (T 36) (.seq b194x9 .ret) .skip))))
abbrev b194x11 : BC := .reg [⟨0, some 41, .load 25 (T 2), none⟩,
  ⟨1, some 42, .move (T 1), none⟩,
  ⟨2, some 43, .call ⟨.value (.func 228), #[(T 41), (T 42)], #[25, 3]⟩, none⟩,
  ⟨3, some 6, .assign (T 43), none⟩] []
abbrev b194x12 : BC := .reg [⟨0, some 44, .move (T 6), none⟩,
  ⟨1, some 45, .call ⟨.builtin .len, #[(T 44)], #[155]⟩, none⟩,
  ⟨2, some 46, .binOp .gtr 3 (T 45) (K 8) 3, none⟩] []
abbrev b194x13 : BC := .reg [⟨0, some 4, .assign (K 3), none⟩] []
abbrev b194x14 : BC := .reg [⟨0, some 47, .move (T 6), none⟩,
  ⟨1, some 48, .call ⟨.builtin .len, #[(T 47)], #[155]⟩, none⟩,
  ⟨2, some 49, .fieldAddr 157 (T 5) 3, none⟩,
  ⟨3, some 50, .load 155 (T 49), none⟩,
  ⟨4, some 51, .call ⟨.builtin .len, #[(T 50)], #[155]⟩, none⟩,
  ⟨5, some 52, .binOp .sub 3 (T 48) (T 51) 3, none⟩,
  ⟨6, some 7, .assign (T 52), none⟩] []
abbrev b194x15 : BC := .reg [⟨0, some 53, .move (T 7), none⟩,
  ⟨1, some 54, .move (T 6), none⟩,
  ⟨2, some 55, .call ⟨.builtin .len, #[(T 54)], #[155]⟩, none⟩,
  ⟨3, some 56, .binOp .lss 3 (T 53) (T 55) 3, none⟩] []
abbrev b194x16 : BC := .reg [⟨0, some 59, .move (T 6), none⟩,
  ⟨1, some 60, .move (T 7), none⟩,
  ⟨2, some 61, .indexAddr 155 (T 59) (T 60), none⟩,
  ⟨3, some 62, .load 160 (T 61), none⟩,
  ⟨4, some 63, .move (T 6), none⟩,
  ⟨5, some 64, .move (T 7), none⟩,
  ⟨6, some 65, .slice 155 (T 63) none (some (T 64)) none, none⟩,
  ⟨7, some 66, .call ⟨.value (.func 271), #[(T 62), (T 65)], #[160, 155]⟩, none⟩,
  ⟨8, some 8, .assign (T 66), none⟩] [(0, 1), (0, 4), (1, 4), (2, 4), (3, 4), (0, 5), (1, 5), (2, 5), (3, 5), (4, 5), (0, 6), (1, 6), (2, 6), (3, 6)]
abbrev b194x17 : BC := .reg [⟨0, some 67, .move (T 8), none⟩,
  ⟨1, some 68, .binOp .neq 38 (T 67) (K 0) 38, none⟩] []
abbrev b194x18 : BC := .reg [⟨0, some 69, .move (T 8), none⟩,
  ⟨1, some 4, .assign (T 69), none⟩] []
abbrev b194x19 : BC := .reg [⟨0, some 57, .move (T 7), none⟩,
  ⟨1, some 58, .binOp .add 3 (T 57) (K 1) 3, none⟩,
  ⟨2, some 7, .assign (T 58), none⟩] []
abbrev b194x20 : BC := .seq (.seq b194x15 (.cond (T 56) .skip (.exit 1))) (.seq (.block 2 (.seq b194x16 (.seq b194x17 (.cond (T 68) (.seq b194x18 .ret) .skip)))) b194x19)
abbrev b194x21 : BC := .loop b194x20
abbrev b194x22 : BC := .reg [⟨0, some 4, .assign (K 0), none⟩] []
abbrev b194x23 : BC := .seq (.seq b194x12 (.cond (T 46) (.seq b194x13 .ret) .skip)) (.seq (.seq b194x14 (.block 1 b194x21)) (.seq b194x22 .ret))
abbrev b194x24 : BC := .seq (.block 0 (.seq b194x2 (.cond (T 14) (.seq b194x3 .ret) (.seq b194x4 b194x10)))) (.seq b194x11 b194x23)
abbrev b194 : BC := .seq b194x0 (.seq b194x1 b194x24)
theorem c194 : Tryz.f194.body.bind (compile Tryz.f194.ntmps) = some b194 := by kernel_rfl
theorem ok194 : EntryOK Tryz.prog (194, ⟨70, b194, #[.tmp 4]⟩) := ⟨Tryz.f194, Tryz.func194, c194, Tryz.ntmps194, by kernel_rfl, Tryz.call194⟩
/-! scarfjoint/types.edge -/
abbrev b195x0 : BC := .reg [⟨0, some 2, .box 25 (T 0), none⟩,
  ⟨1, some 4, .assign (K 0), none⟩] []
abbrev b195x1 : BC := .reg [⟨0, some 7, .fieldAddr 25 (T 2) 1, none⟩,
  ⟨1, some 8, .load 23 (T 7), none⟩,
  ⟨2, some 9, .move (T 1), none⟩,
  ⟨3, some 10, .indexAddr 23 (T 8) (T 9), none⟩,
  ⟨4, some 11, .load 81 (T 10), none⟩,
  ⟨5, some 5, .alloc 81, none⟩,
  ⟨6, none, .store 81 (T 5) (T 11), none⟩] []
abbrev b195x2 : BC := .reg [⟨0, some 12, .makeFunc (.func 272) #[] #[(T 2)], none⟩,
  ⟨1, some 6, .assign (T 12), none⟩] []
abbrev b195x3 : BC := .reg [⟨0, some 14, .fieldAddr 81 (T 5) 0, none⟩,
  ⟨1, some 15, .load 9 (T 14), none⟩,
  ⟨2, some 16, .call ⟨.value (.func 148), #[(T 15)], #[9]⟩, none⟩,
  ⟨3, some 17, .unOp .not 4 (T 16), none⟩,
  ⟨4, some 13, .assign (T 17), none⟩] []
abbrev b195x4 : BC := .reg [⟨0, some 4, .assign (K 2), none⟩] []
abbrev b195x5 : BC := .reg [⟨0, some 19, .fieldAddr 25 (T 2) 1, none⟩,
  ⟨1, some 20, .load 23 (T 19), none⟩,
  ⟨2, some 21, .move (T 1), none⟩,
  ⟨3, some 22, .slice 23 (T 20) none (some (T 21)) none, none⟩,
  ⟨4, some 23, .makeFunc (.func 274) #[] #[(T 5)], none⟩,
  ⟨5, some 24, .call ⟨.value (.func 273), #[(T 22), (T 23)], #[23, 329]⟩, none⟩,
  ⟨6, some 18, .assign (T 24), none⟩] []
abbrev b195x6 : BC := .reg [⟨0, some 4, .assign (K 5), none⟩] []
abbrev b195x7 : BC := .reg [⟨0, some 26, .move (T 6), none⟩,
  ⟨1, some 27, .fieldAddr 81 (T 5) 1, none⟩,
  ⟨2, some 28, .load 3 (T 27), none⟩,
  ⟨3, some 29, .call ⟨.value (T 26), #[(T 28)], #[3]⟩, none⟩,
  ⟨4, some 30, .unOp .not 4 (T 29), none⟩,
  ⟨5, some 31, .move (T 30), none⟩,
  ⟨6, some 32, .move (T 6), some (31, false)⟩,
  ⟨7, some 33, .fieldAddr 81 (T 5) 2, some (31, false)⟩,
  ⟨8, some 34, .load 3 (T 33), some (31, false)⟩,
  ⟨9, some 35, .call ⟨.value (T 32), #[(T 34)], #[3]⟩, some (31, false)⟩,
  ⟨10, some 36, .unOp .not 4 (T 35), some (31, false)⟩,
  ⟨11, some 37, .pick (T 31) (.const (.bool true)) (T 36), none⟩,
  ⟨12, some 25, .assign (T 37), none⟩] []
abbrev b195x8 : BC := .reg [⟨0, some 38, .fieldAddr 81 (T 5) 3, none⟩,
  ⟨1, some 39, .load 3 (T 38), none⟩,
  ⟨2, some 40, .fieldAddr 81 (T 5) 4, none⟩,
  ⟨3, some 41, .load 3 (T 40), none⟩,
  ⟨4, some 42, .call ⟨.value (.func 275), #[(T 39), (T 41)], #[3, 3]⟩, none⟩,
  ⟨5, some 43, .unOp .not 4 (T 42), none⟩,
  ⟨6, some 44, .move (T 43), none⟩,
  ⟨7, some 45, .fieldAddr 81 (T 5) 5, some (44, false)⟩,
  ⟨8, some 46, .load 3 (T 45), some (44, false)⟩,
  ⟨9, some 47, .fieldAddr 81 (T 5) 6, some (44, false)⟩,
  ⟨10, some 48, .load 3 (T 47), some (44, false)⟩,
  ⟨11, some 49, .call ⟨.value (.func 275), #[(T 46), (T 48)], #[3, 3]⟩, some (44, false)⟩,
  ⟨12, some 50, .unOp .not 4 (T 49), some (44, false)⟩,
  ⟨13, some 51, .pick (T 44) (.const (.bool true)) (T 50), none⟩,
  ⟨14, some 25, .assign (T 51), none⟩] []
abbrev b195x9 : BC := .reg [⟨0, some 4, .assign (K 6), none⟩] []
abbrev b195x10 : BC := .cond (T 18) (.seq b195x6 .ret) (.seq (.seq b195x7 (.cond (T 25) .skip b195x8)) (.cond (T 25) (.seq b195x9 .ret) .skip))
abbrev b195x11 : BC := .reg [⟨0, some 4, .assign (K 0), none⟩] []
abbrev b195x12 : BC := .seq (.block 0 (.seq b195x3 (.cond (T 13) (.seq b195x4 .ret) (.seq b195x5 b195x10)))) (.seq b195x11 .ret)
abbrev b195 : BC := .seq b195x0 (.seq b195x1 (.seq b195x2 b195x12))
theorem c195 : Tryz.f195.body.bind (compile Tryz.f195.ntmps) = some b195 := by kernel_rfl
theorem ok195 : EntryOK Tryz.prog (195, ⟨52, b195, #[.tmp 4]⟩) := ⟨Tryz.f195, Tryz.func195, c195, Tryz.ntmps195, by kernel_rfl, Tryz.call195⟩
/-! scarfjoint/graph.Valid$1 -/
abbrev b196x0 : BC := .reg [⟨0, some 2, .assign (.const (.bool false)), none⟩] []
abbrev b196x1 : BC := .reg [⟨0, some 3, .move (T 0), none⟩,
  ⟨1, some 4, .call ⟨.value (.func 197), #[(T 3), (K 99)], #[3, 3]⟩, none⟩,
  ⟨2, some 5, .unOp .not 4 (T 4), none⟩,
  ⟨3, some 2, .assign (T 5), none⟩] []
abbrev b196 : BC := .seq b196x0 (.seq b196x1 .ret)
theorem c196 : Tryz.f196.body.bind (compile Tryz.f196.ntmps) = some b196 := by kernel_rfl
theorem ok196 : EntryOK Tryz.prog (196, ⟨6, b196, #[.tmp 2]⟩) := ⟨Tryz.f196, Tryz.func196, c196, Tryz.ntmps196, by kernel_rfl, Tryz.call196⟩
/-! scarfjoint/graph.within -/
abbrev b197x0 : BC := .reg [⟨0, some 4, .assign (.const (.bool false)), none⟩] []
abbrev b197x1 : BC := .reg [⟨0, some 5, .move (T 0), none⟩,
  ⟨1, some 6, .binOp .geq 3 (T 5) (K 0) 3, none⟩,
  ⟨2, some 7, .move (T 6), none⟩,
  ⟨3, some 8, .move (T 0), some (7, true)⟩,
  ⟨4, some 9, .move (T 1), some (7, true)⟩,
  ⟨5, some 10, .binOp .leq 3 (T 8) (T 9) 3, some (7, true)⟩,
  ⟨6, some 11, .pick (T 7) (T 10) (.const (.bool false)), none⟩,
  ⟨7, some 4, .assign (T 11), none⟩] []
abbrev b197 : BC := .seq b197x0 (.seq b197x1 .ret)
theorem c197 : Tryz.f197.body.bind (compile Tryz.f197.ntmps) = some b197 := by kernel_rfl
theorem ok197 : EntryOK Tryz.prog (197, ⟨12, b197, #[.tmp 4]⟩) := ⟨Tryz.f197, Tryz.func197, c197, Tryz.ntmps197, by kernel_rfl, Tryz.call197⟩
/-! scarfjoint/graph.Valid$2 -/
abbrev b198x0 : BC := .reg [⟨0, some 2, .box 84 (T 0), none⟩,
  ⟨1, some 3, .assign (.const (.bool false)), none⟩] []
abbrev b198x1 : BC := .reg [⟨0, some 4, .load 84 (T 2), none⟩,
  ⟨1, some 5, .fieldAddr 29 (T 1) 0, none⟩,
  ⟨2, some 6, .load 26 (T 5), none⟩,
  ⟨3, some 7, .call ⟨.builtin .len, #[(T 6)], #[26]⟩, none⟩,
  ⟨4, some 8, .call ⟨.value (.func 199), #[(T 4), (T 7)], #[84, 3]⟩, none⟩,
  ⟨5, some 9, .unOp .not 4 (T 8), none⟩,
  ⟨6, some 3, .assign (T 9), none⟩] []
abbrev b198 : BC := .seq b198x0 (.seq b198x1 .ret)
theorem c198 : Tryz.f198.body.bind (compile Tryz.f198.ntmps) = some b198 := by kernel_rfl
theorem ok198 : EntryOK Tryz.prog (198, ⟨10, b198, #[.tmp 3]⟩) := ⟨Tryz.f198, Tryz.func198, c198, Tryz.ntmps198, by kernel_rfl, Tryz.call198⟩
/-! scarfjoint/graph.fits -/
abbrev b199x0 : BC := .reg [⟨0, some 2, .box 84 (T 0), none⟩,
  ⟨1, some 4, .assign (.const (.bool false)), none⟩] []
abbrev b199x1 : BC := .reg [⟨0, some 5, .fieldAddr 84 (T 2) 0, none⟩,
  ⟨1, some 6, .load 3 (T 5), none⟩,
  ⟨2, some 7, .call ⟨.value (.func 197), #[(T 6), (K 99)], #[3, 3]⟩, none⟩,
  ⟨3, some 8, .move (T 7), none⟩,
  ⟨4, some 9, .fieldAddr 84 (T 2) 1, some (8, true)⟩,
  ⟨5, some 10, .load 3 (T 9), some (8, true)⟩,
  ⟨6, some 11, .move (T 1), some (8, true)⟩,
  ⟨7, some 12, .binOp .sub 3 (T 11) (K 1) 3, some (8, true)⟩,
  ⟨8, some 13, .call ⟨.value (.func 197), #[(T 10), (T 12)], #[3, 3]⟩, some (8, true)⟩,
  ⟨9, some 14, .pick (T 8) (T 13) (.const (.bool false)), none⟩,
  ⟨10, some 15, .move (T 14), none⟩,
  ⟨11, some 16, .fieldAddr 84 (T 2) 2, some (15, true)⟩,
  ⟨12, some 17, .load 3 (T 16), some (15, true)⟩,
  ⟨13, some 18, .move (T 1), some (15, true)⟩,
  ⟨14, some 19, .binOp .sub 3 (T 18) (K 1) 3, some (15, true)⟩,
  ⟨15, some 20, .call ⟨.value (.func 197), #[(T 17), (T 19)], #[3, 3]⟩, some (15, true)⟩,
  ⟨16, some 21, .pick (T 15) (T 20) (.const (.bool false)), none⟩,
  ⟨17, some 4, .assign (T 21), none⟩] []
abbrev b199 : BC := .seq b199x0 (.seq b199x1 .ret)
theorem c199 : Tryz.f199.body.bind (compile Tryz.f199.ntmps) = some b199 := by kernel_rfl
theorem ok199 : EntryOK Tryz.prog (199, ⟨22, b199, #[.tmp 4]⟩) := ⟨Tryz.f199, Tryz.func199, c199, Tryz.ntmps199, by kernel_rfl, Tryz.call199⟩
/-! slices.IndexFunc[[]int,int] -/
abbrev b200x0 : BC := .reg [⟨0, some 4, .assign (K 0), none⟩] []
abbrev b200x1 : BC := .reg [⟨0, some 6, .move (T 0), none⟩,
  ⟨1, some 7, .call ⟨.builtin .len, #[(T 6)], #[26]⟩, none⟩,
  ⟨2, some 8, .move (K 0), none⟩] []
abbrev b200x2 : BC := .reg [⟨0, some 9, .binOp .lss 3 (T 8) (T 7) 3, none⟩] []
abbrev b200x3 : BC := .reg [⟨0, some 10, .move (T 8), none⟩,
  ⟨1, some 5, .assign (T 10), none⟩] []
abbrev b200x4 : BC := .reg [⟨0, some 11, .move (T 1), none⟩,
  ⟨1, some 12, .move (T 0), none⟩,
  ⟨2, some 13, .move (T 5), none⟩,
  ⟨3, some 14, .indexAddr 26 (T 12) (T 13), none⟩,
  ⟨4, some 15, .load 3 (T 14), none⟩,
  ⟨5, some 16, .call ⟨.value (T 11), #[(T 15)], #[3]⟩, none⟩] []
abbrev b200x5 : BC := .reg [⟨0, some 17, .move (T 5), none⟩,
  ⟨1, some 4, .assign (T 17), none⟩] []
abbrev b200x6 : BC := .reg [⟨0, some 18, .binOp .add 3 (T 8) (K 1) 3, none⟩,
  ⟨1, some 8, .move (T 18), none⟩] []
abbrev b200x7 : BC := .seq (.cond (T 9) .skip (.exit 0)) (.seq (.block 1 (.seq b200x3 (.seq b200x4 (.cond (T 16) (.seq b200x5 .ret) .skip)))) b200x6)
abbrev b200x8 : BC := .loop (.seq b200x2 b200x7)
abbrev b200x9 : BC := .reg [⟨0, some 4, .assign (K (-1)), none⟩] []
abbrev b200 : BC := .seq b200x0 (.seq (.seq b200x1 (.block 0 b200x8)) (.seq b200x9 .ret))
theorem c200 : Tryz.f200.body.bind (compile Tryz.f200.ntmps) = some b200 := by kernel_rfl
theorem ok200 : EntryOK Tryz.prog (200, ⟨19, b200, #[.tmp 4]⟩) := ⟨Tryz.f200, Tryz.func200, c200, Tryz.ntmps200, by kernel_rfl, Tryz.call200⟩
/-! slices.IndexFunc[[]scarfjoint/api.Edge,scarfjoint/api.Edge] -/
abbrev b201x0 : BC := .reg [⟨0, some 4, .assign (K 0), none⟩] []
abbrev b201x1 : BC := .reg [⟨0, some 6, .move (T 0), none⟩,
  ⟨1, some 7, .call ⟨.builtin .len, #[(T 6)], #[27]⟩, none⟩,
  ⟨2, some 8, .move (K 0), none⟩] []
abbrev b201x2 : BC := .reg [⟨0, some 9, .binOp .lss 3 (T 8) (T 7) 3, none⟩] []
abbrev b201x3 : BC := .reg [⟨0, some 10, .move (T 8), none⟩,
  ⟨1, some 5, .assign (T 10), none⟩] []
abbrev b201x4 : BC := .reg [⟨0, some 11, .move (T 1), none⟩,
  ⟨1, some 12, .move (T 0), none⟩,
  ⟨2, some 13, .move (T 5), none⟩,
  ⟨3, some 14, .indexAddr 27 (T 12) (T 13), none⟩,
  ⟨4, some 15, .load 84 (T 14), none⟩,
  ⟨5, some 16, .call ⟨.value (T 11), #[(T 15)], #[84]⟩, none⟩] []
abbrev b201x5 : BC := .reg [⟨0, some 17, .move (T 5), none⟩,
  ⟨1, some 4, .assign (T 17), none⟩] []
abbrev b201x6 : BC := .reg [⟨0, some 18, .binOp .add 3 (T 8) (K 1) 3, none⟩,
  ⟨1, some 8, .move (T 18), none⟩] []
abbrev b201x7 : BC := .seq (.cond (T 9) .skip (.exit 0)) (.seq (.block 1 (.seq b201x3 (.seq b201x4 (.cond (T 16) (.seq b201x5 .ret) .skip)))) b201x6)
abbrev b201x8 : BC := .loop (.seq b201x2 b201x7)
abbrev b201x9 : BC := .reg [⟨0, some 4, .assign (K (-1)), none⟩] []
abbrev b201 : BC := .seq b201x0 (.seq (.seq b201x1 (.block 0 b201x8)) (.seq b201x9 .ret))
theorem c201 : Tryz.f201.body.bind (compile Tryz.f201.ntmps) = some b201 := by kernel_rfl
theorem ok201 : EntryOK Tryz.prog (201, ⟨19, b201, #[.tmp 4]⟩) := ⟨Tryz.f201, Tryz.func201, c201, Tryz.ntmps201, by kernel_rfl, Tryz.call201⟩
/-! scarfjoint/scarfjointref05.SameInts -/
abbrev b211x0 : BC := .reg [⟨0, some 4, .assign (.const (.bool false)), none⟩] []
abbrev b211x1 : BC := .reg [⟨0, some 6, .move (T 0), none⟩,
  ⟨1, some 7, .call ⟨.builtin .len, #[(T 6)], #[26]⟩, none⟩,
  ⟨2, some 8, .move (T 1), none⟩,
  ⟨3, some 9, .call ⟨.builtin .len, #[(T 8)], #[26]⟩, none⟩,
  ⟨4, some 10, .binOp .neq 3 (T 7) (T 9) 3, none⟩] []
abbrev b211x2 : BC := .reg [⟨0, some 4, .assign (.const (.bool false)), none⟩] []
abbrev b211x3 : BC := .reg [⟨0, some 5, .assign (K 0), none⟩] []
abbrev b211x4 : BC := .reg [⟨0, some 11, .move (T 5), none⟩,
  ⟨1, some 12, .move (T 0), none⟩,
  ⟨2, some 13, .call ⟨.builtin .len, #[(T 12)], #[26]⟩, none⟩,
  ⟨3, some 14, .binOp .lss 3 (T 11) (T 13) 3, none⟩] []
abbrev b211x5 : BC := .reg [⟨0, some 17, .move (T 0), none⟩,
  ⟨1, some 18, .move (T 5), none⟩,
  ⟨2, some 19, .indexAddr 26 (T 17) (T 18), none⟩,
  ⟨3, some 20, .load 3 (T 19), none⟩,
  ⟨4, some 21, .move (T 1), none⟩,
  ⟨5, some 22, .move (T 5), none⟩,
  ⟨6, some 23, .indexAddr 26 (T 21) (T 22), none⟩,
  ⟨7, some 24, .load 3 (T 23), none⟩,
  ⟨8, some 25, .binOp .neq 3 (T 20) (T 24) 3, none⟩] [(0, 1), (0, 4), (1, 4), (2, 4), (3, 4), (0, 5), (1, 5), (2, 5), (3, 5), (4, 5), (0, 6), (1, 6), (2, 6), (3, 6), (0, 7), (1, 7), (2, 7), (3, 7)]
abbrev b211x6 : BC := .reg [⟨0, some 4, .assign (.const (.bool false)), none⟩] []
abbrev b211x7 : BC := .reg [⟨0, some 15, .move (T 5), none⟩,
  ⟨1, some 16, .binOp .add 3 (T 15) (K 1) 3, none⟩,
  ⟨2, some 5, .assign (T 16), none⟩] []
abbrev b211x8 : BC := .seq (.seq b211x4 (.cond (T 14) .skip (.exit 0))) (.seq (.block 1 (.seq b211x5 (.cond (T 25) (.seq b211x6 .ret) .skip))) b211x7)
abbrev b211x9 : BC := .loop b211x8
abbrev b211x10 : BC := .reg [⟨0, some 4, .assign (.const (.bool true)), none⟩] []
abbrev b211x11 : BC := .seq (.seq b211x1 (.cond (T 10) (.seq b211x2 .ret) .skip)) (.seq (.seq b211x3 (.block 0 b211x9)) (.seq b211x10 .ret))
abbrev b211 : BC := .seq b211x0 b211x11
theorem c211 : Tryz.f211.body.bind (compile Tryz.f211.ntmps) = some b211 := by kernel_rfl
theorem ok211 : EntryOK Tryz.prog (211, ⟨26, b211, #[.tmp 4]⟩) := ⟨Tryz.f211, Tryz.func211, c211, Tryz.ntmps211, by kernel_rfl, Tryz.call211⟩
/-! scarfjoint/types.given -/
abbrev b213x0 : BC := .reg [⟨0, some 2, .box 25 (T 0), none⟩,
  ⟨1, some 4, .assign (K 0), none⟩] []
abbrev b213x1 : BC := .reg [⟨0, some 8, .load 25 (T 2), none⟩,
  ⟨1, some 9, .call ⟨.value (.func 89), #[(T 8)], #[25]⟩, none⟩,
  ⟨2, some 7, .move (T 9), none⟩,
  ⟨3, some 10, .extract (T 7) 0, none⟩,
  ⟨4, some 11, .extract (T 7) 1, none⟩,
  ⟨5, some 5, .assign (T 10), none⟩,
  ⟨6, some 6, .assign (T 11), none⟩] []
abbrev b213x2 : BC := .reg [⟨0, some 12, .move (T 6), none⟩,
  ⟨1, some 13, .binOp .neq 38 (T 12) (K 0) 38, none⟩] []
abbrev b213x3 : BC := .reg [⟨0, some 14, .move (T 6), none⟩,
  ⟨1, some 4, .assign (T 14), none⟩] []
abbrev b213x4 : BC := .reg [⟨0, some 15, .move (T 1), none⟩,
  ⟨1, some 16, .makeFunc (.func 280) #[] #[(T 2)], none⟩,
  ⟨2, some 17, .call ⟨.value (.func 91), #[(T 15), (T 16)], #[26, 169]⟩, none⟩] []
abbrev b213x5 : BC := .reg [⟨0, some 4, .assign (K 6), none⟩] []
abbrev b213x6 : BC := .reg [⟨0, some 4, .assign (K 0), none⟩] []
abbrev b213x7 : BC := .seq (.seq b213x1 (.seq b213x2 (.cond (T 13) (.seq b213x3 .ret) .skip))) (.seq (.seq b213x4 (.cond (T 17) (.seq b213x5 .ret) .skip)) (.seq b213x6 .ret))
abbrev b213 : BC := .seq b213x0 b213x7
theorem c213 : Tryz.f213.body.bind (compile Tryz.f213.ntmps) = some b213 := by kernel_rfl
theorem ok213 : EntryOK Tryz.prog (213, ⟨18, b213, #[.tmp 4]⟩) := ⟨Tryz.f213, Tryz.func213, c213, Tryz.ntmps213, by kernel_rfl, Tryz.call213⟩
/-! scarfjoint/types.is -/
abbrev b214x0 : BC := .reg [⟨0, some 3, .box 25 (T 0), none⟩,
  ⟨1, some 6, .assign (.const (.bool false)), none⟩] []
abbrev b214x1 : BC := .reg [⟨0, some 7, .load 25 (T 3), none⟩,
  ⟨1, some 8, .move (T 1), none⟩,
  ⟨2, some 9, .call ⟨.value (.func 281), #[(T 7), (T 8)], #[25, 3]⟩, none⟩,
  ⟨3, some 10, .move (T 2), none⟩,
  ⟨4, some 11, .call ⟨.value (.func 138), #[(T 9), (T 10)], #[26, 3]⟩, none⟩,
  ⟨5, some 6, .assign (T 11), none⟩] []
abbrev b214 : BC := .seq b214x0 (.seq b214x1 .ret)
theorem c214 : Tryz.f214.body.bind (compile Tryz.f214.ntmps) = some b214 := by kernel_rfl
theorem ok214 : EntryOK Tryz.prog (214, ⟨12, b214, #[.tmp 6]⟩) := ⟨Tryz.f214, Tryz.func214, c214, Tryz.ntmps214, by kernel_rfl, Tryz.call214⟩
/-! scarfjoint/types.Is -/
abbrev b217x0 : BC := .reg [⟨0, some 3, .box 25 (T 0), none⟩,
  ⟨1, some 6, .assign (.const (.bool false)), none⟩] []
abbrev b217x1 : BC := .reg [⟨0, some 7, .load 25 (T 3), none⟩,
  ⟨1, some 8, .move (T 1), none⟩,
  ⟨2, some 9, .move (T 2), none⟩,
  ⟨3, some 10, .buildSlice 26 2 #[(0, (T 8)), (1, (T 9))], none⟩,
  ⟨4, some 11, .call ⟨.value (.func 213), #[(T 7), (T 10)], #[25, 26]⟩, none⟩,
  ⟨5, some 12, .binOp .eql 38 (T 11) (K 0) 38, none⟩,
  ⟨6, some 13, .move (T 12), none⟩,
  ⟨7, some 14, .load 25 (T 3), some (13, true)⟩,
  ⟨8, some 15, .move (T 1), some (13, true)⟩,
  ⟨9, some 16, .move (T 2), some (13, true)⟩,
  ⟨10, some 17, .call ⟨.value (.func 214), #[(T 14), (T 15), (T 16)], #[25, 3, 3]⟩, some (13, true)⟩,
  ⟨11, some 18, .pick (T 13) (T 17) (.const (.bool false)), none⟩,
  ⟨12, some 6, .assign (T 18), none⟩] []
abbrev b217 : BC := .seq b217x0 (.seq b217x1 .ret)
theorem c217 : Tryz.f217.body.bind (compile Tryz.f217.ntmps) = some b217 := by kernel_rfl
theorem ok217 : EntryOK Tryz.prog (217, ⟨19, b217, #[.tmp 6]⟩) := ⟨Tryz.f217, Tryz.func217, c217, Tryz.ntmps217, by kernel_rfl, Tryz.call217⟩
/-! slices.Compare[[]int,int] -/
abbrev b218x0 : BC := .reg [⟨0, some 4, .assign (K 0), none⟩] []
abbrev b218x1 : BC := .reg [⟨0, some 9, .move (T 0), none⟩,
  ⟨1, some 10, .call ⟨.builtin .len, #[(T 9)], #[26]⟩, none⟩,
  ⟨2, some 11, .move (K 0), none⟩] []
abbrev b218x2 : BC := .reg [⟨0, some 12, .binOp .lss 3 (T 11) (T 10) 3, none⟩] []
abbrev b218x3 : BC := .reg [⟨0, some 13, .move (T 11), none⟩,
  ⟨1, some 14, .indexAddr 26 (T 9) (T 11), none⟩,
  ⟨2, some 15, .load 3 (T 14), none⟩,
  ⟨3, some 5, .assign (T 13), none⟩,
  ⟨4, some 6, .assign (T 15), none⟩] []
abbrev b218x4 : BC := .reg [⟨0, some 16, .move (T 5), none⟩,
  ⟨1, some 17, .move (T 1), none⟩,
  ⟨2, some 18, .call ⟨.builtin .len, #[(T 17)], #[26]⟩, none⟩,
  ⟨3, some 19, .binOp .geq 3 (T 16) (T 18) 3, none⟩] []
abbrev b218x5 : BC := .reg [⟨0, some 4, .assign (K 1), none⟩] []
abbrev b218x6 : BC := .reg [⟨0, some 20, .move (T 1), none⟩,
  ⟨1, some 21, .move (T 5), none⟩,
  ⟨2, some 22, .indexAddr 26 (T 20) (T 21), none⟩,
  ⟨3, some 23, .load 3 (T 22), none⟩,
  ⟨4, some 7, .assign (T 23), none⟩] []
abbrev b218x7 : BC := .reg [⟨0, some 24, .move (T 6), none⟩,
  ⟨1, some 25, .move (T 7), none⟩,
  ⟨2, some 26, .call ⟨.value (.func 224), #[(T 24), (T 25)], #[3, 3]⟩, none⟩,
  ⟨3, some 8, .assign (T 26), none⟩] []
abbrev b218x8 : BC := .reg [⟨0, some 27, .move (T 8), none⟩,
  ⟨1, some 28, .binOp .neq 3 (T 27) (K 0) 3, none⟩] []
abbrev b218x9 : BC := .reg [⟨0, some 29, .move (T 8), none⟩,
  ⟨1, some 4, .assign (T 29), none⟩] []
abbrev b218x10 : BC := .seq (.seq b218x4 (.cond (T 19) (.seq b218x5 .ret) .skip)) (.seq b218x6 (.seq b218x7 (.seq b218x8 (.cond (T 28) (.seq b218x9 .ret) .skip))))
abbrev b218x11 : BC := .reg [⟨0, some 30, .binOp .add 3 (T 11) (K 1) 3, none⟩,
  ⟨1, some 11, .move (T 30), none⟩] []
abbrev b218x12 : BC := .loop (.seq b218x2 (.seq (.cond (T 12) .skip (.exit 0)) (.seq (.block 1 (.seq b218x3 b218x10)) b218x11)))
abbrev b218x13 : BC := .reg [⟨0, some 31, .move (T 0), none⟩,
  ⟨1, some 32, .call ⟨.builtin .len, #[(T 31)], #[26]⟩, none⟩,
  ⟨2, some 33, .move (T 1), none⟩,
  ⟨3, some 34, .call ⟨.builtin .len, #[(T 33)], #[26]⟩, none⟩,
  ⟨4, some 35, .binOp .lss 3 (T 32) (T 34) 3, none⟩] []
abbrev b218x14 : BC := .reg [⟨0, some 4, .assign (K (-1)), none⟩] []
abbrev b218x15 : BC := .reg [⟨0, some 4, .assign (K 0), none⟩] []
abbrev b218x16 : BC := .seq (.seq b218x1 (.block 0 b218x12)) (.seq (.seq b218x13 (.cond (T 35) (.seq b218x14 .ret) .skip)) (.seq b218x15 .ret))
abbrev b218 : BC := .seq b218x0 b218x16
theorem c218 : Tryz.f218.body.bind (compile Tryz.f218.ntmps) = some b218 := by kernel_rfl
theorem ok218 : EntryOK Tryz.prog (218, ⟨36, b218, #[.tmp 4]⟩) := ⟨Tryz.f218, Tryz.func218, c218, Tryz.ntmps218, by kernel_rfl, Tryz.call218⟩
/-! scarfjoint/host.place -/
abbrev b219x0 : BC := .reg [⟨0, some 2, .box 55 (T 0), none⟩,
  ⟨1, some 4, .assign (.const (.slice none 0 0)), none⟩] []
abbrev b219x1 : BC := .reg [⟨0, some 9, .move (T 1), none⟩,
  ⟨1, some 10, .move (T 1), none⟩,
  ⟨2, some 11, .call ⟨.builtin .len, #[(T 10)], #[26]⟩, none⟩,
  ⟨3, some 12, .binOp .sub 3 (T 11) (K 1) 3, none⟩,
  ⟨4, some 13, .indexAddr 26 (T 9) (T 12), none⟩,
  ⟨5, some 14, .load 3 (T 13), none⟩,
  ⟨6, some 5, .assign (T 14), none⟩] []
abbrev b219x2 : BC := .reg [⟨0, some 15, .fieldAddr 55 (T 2) 0, none⟩,
  ⟨1, some 16, .fieldAddr 29 (T 15) 0, none⟩,
  ⟨2, some 17, .load 26 (T 16), none⟩,
  ⟨3, some 18, .move (T 5), none⟩,
  ⟨4, some 19, .indexAddr 26 (T 17) (T 18), none⟩,
  ⟨5, some 20, .load 3 (T 19), none⟩,
  ⟨6, some 21, .buildSlice 26 1 #[(0, (T 20))], none⟩,
  ⟨7, some 22, .fieldAddr 55 (T 2) 1, none⟩,
  ⟨8, some 23, .load 53 (T 22), none⟩,
  ⟨9, some 24, .move (T 5), none⟩,
  ⟨10, some 25, .indexAddr 53 (T 23) (T 24), none⟩,
  ⟨11, some 26, .load 26 (T 25), none⟩,
  ⟨12, some 27, .call ⟨.builtin .append, #[(T 21), (T 26)], #[26, 26]⟩, none⟩,
  ⟨13, some 6, .assign (T 27), none⟩] [(0, 3), (1, 3), (2, 3), (0, 7), (1, 7), (2, 7), (3, 7), (4, 7), (5, 7), (6, 7), (0, 8), (1, 8), (2, 8), (3, 8), (4, 8), (5, 8), (6, 8), (0, 9), (1, 9), (2, 9), (3, 9), (4, 9), (5, 9), (6, 9), (7, 9), (8, 9), (0, 10), (1, 10), (2, 10), (3, 10), (4, 10), (5, 10), (6, 10), (0, 11), (1, 11), (2, 11), (3, 11), (4, 11), (5, 11), (6, 11)]
abbrev b219x3 : BC := .reg [⟨0, some 28, .move (T 1), none⟩,
  ⟨1, some 29, .move (T 1), none⟩,
  ⟨2, some 30, .call ⟨.builtin .len, #[(T 29)], #[26]⟩, none⟩,
  ⟨3, some 31, .binOp .sub 3 (T 30) (K 1) 3, none⟩,
  ⟨4, some 32, .slice 26 (T 28) none (some (T 31)) none, none⟩,
  ⟨5, some 33, .call ⟨.builtin .len, #[(T 32)], #[26]⟩, none⟩,
  ⟨6, some 34, .move (K 0), none⟩] []
abbrev b219x4 : BC := .reg [⟨0, some 35, .binOp .lss 3 (T 34) (T 33) 3, none⟩] []
abbrev b219x5 : BC := .reg [⟨0, some 36, .indexAddr 26 (T 32) (T 34), none⟩,
  ⟨1, some 37, .load 3 (T 36), none⟩,
  ⟨2, some 8, .assign (T 37), none⟩] []
abbrev b219x6 : BC := .reg [⟨0, some 38, .move (T 6), none⟩,
  ⟨1, some 39, .fieldAddr 55 (T 2) 0, none⟩,
  ⟨2, some 40, .load 29 (T 39), none⟩,
  ⟨3, some 41, .move (T 8), none⟩,
  ⟨4, some 42, .move (T 5), none⟩,
  ⟨5, some 43, .call ⟨.value (.func 283), #[(T 40), (T 41), (T 42)], #[29, 3, 3]⟩, none⟩,
  ⟨6, some 44, .call ⟨.value (.func 282), #[(T 43)], #[26]⟩, none⟩,
  ⟨7, some 45, .call ⟨.builtin .append, #[(T 38), (T 44)], #[26, 26]⟩, none⟩,
  ⟨8, some 6, .assign (T 45), none⟩] []
abbrev b219x7 : BC := .reg [⟨0, some 46, .move (T 6), none⟩,
  ⟨1, some 47, .fieldAddr 55 (T 2) 0, none⟩,
  ⟨2, some 48, .load 29 (T 47), none⟩,
  ⟨3, some 49, .move (T 5), none⟩,
  ⟨4, some 50, .move (T 8), none⟩,
  ⟨5, some 51, .call ⟨.value (.func 283), #[(T 48), (T 49), (T 50)], #[29, 3, 3]⟩, none⟩,
  ⟨6, some 52, .call ⟨.value (.func 282), #[(T 51)], #[26]⟩, none⟩,
  ⟨7, some 53, .call ⟨.builtin .append, #[(T 46), (T 52)], #[26, 26]⟩, none⟩,
  ⟨8, some 6, .assign (T 53), none⟩] []
abbrev b219x8 : BC := .reg [⟨0, some 54, .binOp .add 3 (T 34) (K 1) 3, none⟩,
  ⟨1, some 34, .move (T 54), none⟩] []
abbrev b219x9 : BC := .seq b219x4 (.seq (.cond (T 35) .skip (.exit 0)) (.seq (.block 1 (.seq b219x5 (.seq b219x6 b219x7))) b219x8))
abbrev b219x10 : BC := .loop b219x9
abbrev b219x11 : BC := .reg [⟨0, some 55, .move (T 6), none⟩,
  ⟨1, some 56, .fieldAddr 55 (T 2) 0, none⟩,
  ⟨2, some 57, .load 29 (T 56), none⟩,
  ⟨3, some 58, .move (T 5), none⟩,
  ⟨4, some 59, .move (T 5), none⟩,
  ⟨5, some 60, .call ⟨.value (.func 283), #[(T 57), (T 58), (T 59)], #[29, 3, 3]⟩, none⟩,
  ⟨6, some 61, .call ⟨.value (.func 282), #[(T 60)], #[26]⟩, none⟩,
  ⟨7, some 62, .call ⟨.builtin .append, #[(T 55), (T 61)], #[26, 26]⟩, none⟩,
  ⟨8, some 4, .assign (T 62), none⟩] []
abbrev b219 : BC := .seq b219x0 (.seq b219x1 (.seq b219x2 (.seq (.seq b219x3 (.block 0 b219x10)) (.seq b219x11 .ret))))
theorem c219 : Tryz.f219.body.bind (compile Tryz.f219.ntmps) = some b219 := by kernel_rfl
theorem ok219 : EntryOK Tryz.prog (219, ⟨63, b219, #[.tmp 4]⟩) := ⟨Tryz.f219, Tryz.func219, c219, Tryz.ntmps219, by kernel_rfl, Tryz.call219⟩
/-! scarfjoint/host.listedEdges$1 -/
abbrev b220x0 : BC := .reg [⟨0, some 4, .assign (K 0), none⟩,
  ⟨1, some 5, .assign (K 0), none⟩,
  ⟨2, some 6, .assign (K 0), none⟩,
  ⟨3, some 7, .assign (K 0), none⟩] []
abbrev b220x1 : BC := .reg [⟨0, some 11, .fieldAddr 29 (T 1) 1, none⟩,
  ⟨1, some 12, .load 27 (T 11), none⟩,
  ⟨2, some 13, .move (T 0), none⟩,
  ⟨3, some 14, .indexAddr 27 (T 12) (T 13), none⟩,
  ⟨4, some 15, .load 84 (T 14), none⟩,
  ⟨5, some 8, .alloc 84, none⟩,
  ⟨6, none, .store 84 (T 8) (T 15), none⟩] []
abbrev b220x2 : BC := .reg [⟨0, some 16, .load 26 (T 2), none⟩,
  ⟨1, some 17, .fieldAddr 84 (T 8) 1, none⟩,
  ⟨2, some 18, .load 3 (T 17), none⟩,
  ⟨3, some 19, .indexAddr 26 (T 16) (T 18), none⟩,
  ⟨4, some 20, .load 3 (T 19), none⟩,
  ⟨5, some 21, .load 26 (T 2), none⟩,
  ⟨6, some 22, .fieldAddr 84 (T 8) 2, none⟩,
  ⟨7, some 23, .load 3 (T 22), none⟩,
  ⟨8, some 24, .indexAddr 26 (T 21) (T 23), none⟩,
  ⟨9, some 25, .load 3 (T 24), none⟩,
  ⟨10, some 9, .assign (T 20), none⟩,
  ⟨11, some 10, .assign (T 25), none⟩] [(0, 1), (0, 2), (0, 5), (1, 5), (2, 5), (3, 5), (4, 5), (0, 6), (1, 6), (2, 6), (3, 6), (4, 6), (5, 6), (0, 7), (1, 7), (2, 7), (3, 7), (4, 7), (5, 7), (0, 8), (1, 8), (2, 8), (3, 8), (4, 8), (0, 9), (1, 9), (2, 9), (3, 9), (4, 9), (5, 10), (6, 10), (7, 10), (8, 10), (9, 10)]
abbrev b220x3 : BC := .reg [⟨0, some 27, .move (T 9), none⟩,
  ⟨1, some 28, .move (T 10), none⟩,
  ⟨2, some 29, .binOp .lss 3 (T 27) (T 28) 3, none⟩,
  ⟨3, some 26, .assign (T 29), none⟩] []
abbrev b220x4 : BC := .reg [⟨0, some 30, .move (T 10), none⟩,
  ⟨1, some 31, .move (T 9), none⟩,
  ⟨2, some 32, .fieldAddr 84 (T 8) 0, none⟩,
  ⟨3, some 33, .load 3 (T 32), none⟩,
  ⟨4, some 4, .assign (T 30), none⟩,
  ⟨5, some 5, .assign (T 31), none⟩,
  ⟨6, some 6, .assign (K 0), none⟩,
  ⟨7, some 7, .assign (T 33), none⟩] [(0, 1), (0, 2), (1, 2), (0, 3), (1, 3), (1, 4), (2, 4), (3, 4), (2, 5), (3, 5), (2, 6), (3, 6)]
abbrev b220x5 : BC := .reg [⟨0, some 35, .move (T 9), none⟩,
  ⟨1, some 36, .move (T 10), none⟩,
  ⟨2, some 37, .binOp .gtr 3 (T 35) (T 36) 3, none⟩,
  ⟨3, some 34, .assign (T 37), none⟩] []
abbrev b220x6 : BC := .reg [⟨0, some 38, .move (T 9), none⟩,
  ⟨1, some 39, .move (T 10), none⟩,
  ⟨2, some 40, .fieldAddr 84 (T 8) 0, none⟩,
  ⟨3, some 41, .load 3 (T 40), none⟩,
  ⟨4, some 4, .assign (T 38), none⟩,
  ⟨5, some 5, .assign (T 39), none⟩,
  ⟨6, some 6, .assign (K 1), none⟩,
  ⟨7, some 7, .assign (T 41), none⟩] [(0, 1), (0, 2), (1, 2), (0, 3), (1, 3), (1, 4), (2, 4), (3, 4), (2, 5), (3, 5), (2, 6), (3, 6)]
abbrev b220x7 : BC := .block 0 (.seq b220x3 (.cond (T 26) (.seq b220x4 .ret) (.seq b220x5 (.cond (T 34) (.seq b220x6 .ret) .skip))))
abbrev b220x8 : BC := .reg [⟨0, some 42, .move (T 10), none⟩,
  ⟨1, some 43, .fieldAddr 84 (T 8) 0, none⟩,
  ⟨2, some 44, .load 3 (T 43), none⟩,
  ⟨3, some 4, .assign (T 42), none⟩,
  ⟨4, some 5, .assign (K 8), none⟩,
  ⟨5, some 6, .assign (K 0), none⟩,
  ⟨6, some 7, .assign (T 44), none⟩] [(0, 1), (0, 2), (1, 3), (2, 3), (1, 4), (2, 4), (1, 5), (2, 5)]
abbrev b220 : BC := .seq b220x0 (.seq b220x1 (.seq b220x2 (.seq b220x7 (.seq b220x8 .ret))))
theorem c220 : Tryz.f220.body.bind (compile Tryz.f220.ntmps) = some b220 := by kernel_rfl
theorem ok220 : EntryOK Tryz.prog (220, ⟨45, b220, #[.tmp 4, .tmp 5, .tmp 6, .tmp 7]⟩) := ⟨Tryz.f220, Tryz.func220, c220, Tryz.ntmps220, by kernel_rfl, Tryz.call220⟩
/-! slices.SortStableFunc[[]int,int] -/
abbrev b221x0 : BC := .reg [⟨0, some 4, .move (T 0), none⟩,
  ⟨1, some 5, .move (T 0), none⟩,
  ⟨2, some 6, .call ⟨.builtin .len, #[(T 5)], #[26]⟩, none⟩,
  ⟨3, some 7, .move (T 1), none⟩,
  ⟨4, some 8, .call ⟨.value (.func 284), #[(T 4), (T 6), (T 7)], #[26, 3, 292]⟩, none⟩] []
abbrev b221 : BC := b221x0
theorem c221 : Tryz.f221.body.bind (compile Tryz.f221.ntmps) = some b221 := by kernel_rfl
theorem ok221 : EntryOK Tryz.prog (221, ⟨9, b221, #[]⟩) := ⟨Tryz.f221, Tryz.func221, c221, Tryz.ntmps221, by kernel_rfl, Tryz.call221⟩
/-! scarfjoint/host.listedEdges$2 -/
abbrev b222x0 : BC := .reg [⟨0, some 5, .assign (K 0), none⟩] []
abbrev b222x1 : BC := .reg [⟨0, some 15, .load 288 (T 2), none⟩,
  ⟨1, some 16, .move (T 0), none⟩,
  ⟨2, some 17, .call ⟨.value (T 15), #[(T 16)], #[3]⟩, none⟩,
  ⟨3, some 14, .move (T 17), none⟩,
  ⟨4, some 18, .extract (T 14) 0, none⟩,
  ⟨5, some 19, .extract (T 14) 1, none⟩,
  ⟨6, some 20, .extract (T 14) 2, none⟩,
  ⟨7, some 21, .extract (T 14) 3, none⟩,
  ⟨8, some 6, .assign (T 18), none⟩,
  ⟨9, some 7, .assign (T 19), none⟩,
  ⟨10, some 8, .assign (T 20), none⟩,
  ⟨11, some 9, .assign (T 21), none⟩] []
abbrev b222x2 : BC := .reg [⟨0, some 23, .load 288 (T 2), none⟩,
  ⟨1, some 24, .move (T 1), none⟩,
  ⟨2, some 25, .call ⟨.value (T 23), #[(T 24)], #[3]⟩, none⟩,
  ⟨3, some 22, .move (T 25), none⟩,
  ⟨4, some 26, .extract (T 22) 0, none⟩,
  ⟨5, some 27, .extract (T 22) 1, none⟩,
  ⟨6, some 28, .extract (T 22) 2, none⟩,
  ⟨7, some 29, .extract (T 22) 3, none⟩,
  ⟨8, some 10, .assign (T 26), none⟩,
  ⟨9, some 11, .assign (T 27), none⟩,
  ⟨10, some 12, .assign (T 28), none⟩,
  ⟨11, some 13, .assign (T 29), none⟩] []
abbrev b222x3 : BC := .reg [⟨0, some 30, .move (T 6), none⟩,
  ⟨1, some 31, .move (T 10), none⟩,
  ⟨2, some 32, .call ⟨.value (.func 224), #[(T 30), (T 31)], #[3, 3]⟩, none⟩,
  ⟨3, some 33, .move (T 7), none⟩,
  ⟨4, some 34, .move (T 11), none⟩,
  ⟨5, some 35, .call ⟨.value (.func 224), #[(T 33), (T 34)], #[3, 3]⟩, none⟩,
  ⟨6, some 36, .move (T 8), none⟩,
  ⟨7, some 37, .move (T 12), none⟩,
  ⟨8, some 38, .call ⟨.value (.func 224), #[(T 36), (T 37)], #[3, 3]⟩, none⟩,
  ⟨9, some 39, .move (T 9), none⟩,
  ⟨10, some 40, .move (T 13), none⟩,
  ⟨11, some 41, .call ⟨.value (.func 224), #[(T 39), (T 40)], #[3, 3]⟩, none⟩,
  ⟨12, some 42, .buildSlice 26 4 #[(0, (T 32)), (1, (T 35)), (2, (T 38)), (3, (T 41))], none⟩,
  ⟨13, some 43, .call ⟨.value (.func 223), #[(T 42)], #[26]⟩, none⟩,
  ⟨14, some 5, .assign (T 43), none⟩] []
abbrev b222 : BC := .seq b222x0 (.seq b222x1 (.seq b222x2 (.seq b222x3 .ret)))
theorem c222 : Tryz.f222.body.bind (compile Tryz.f222.ntmps) = some b222 := by kernel_rfl
theorem ok222 : EntryOK Tryz.prog (222, ⟨44, b222, #[.tmp 5]⟩) := ⟨Tryz.f222, Tryz.func222, c222, Tryz.ntmps222, by kernel_rfl, Tryz.call222⟩
/-! cmp.Or[int] -/
abbrev b223x0 : BC := .reg [⟨0, some 2, .assign (K 0), none⟩] []
abbrev b223x1 : BC := .reg [⟨0, some 3, .assign (K 0), none⟩] []
abbrev b223x2 : BC := .reg [⟨0, some 6, .move (T 0), none⟩,
  ⟨1, some 7, .call ⟨.builtin .len, #[(T 6)], #[26]⟩, none⟩,
  ⟨2, some 8, .move (K 0), none⟩] []
abbrev b223x3 : BC := .reg [⟨0, some 9, .binOp .lss 3 (T 8) (T 7) 3, none⟩] []
abbrev b223x4 : BC := .reg [⟨0, some 10, .indexAddr 26 (T 6) (T 8), none⟩,
  ⟨1, some 11, .load 3 (T 10), none⟩,
  ⟨2, some 5, .assign (T 11), none⟩] []
abbrev b223x5 : BC := .reg [⟨0, some 12, .move (T 5), none⟩,
  ⟨1, some 13, .move (T 3), none⟩,
  ⟨2, some 14, .binOp .neq 3 (T 12) (T 13) 3, none⟩] []
abbrev b223x6 : BC := .reg [⟨0, some 15, .move (T 5), none⟩,
  ⟨1, some 2, .assign (T 15), none⟩] []
abbrev b223x7 : BC := .reg [⟨0, some 16, .binOp .add 3 (T 8) (K 1) 3, none⟩,
  ⟨1, some 8, .move (T 16), none⟩] []
abbrev b223x8 : BC := .seq (.cond (T 9) .skip (.exit 0)) (.seq (.block 1 (.seq b223x4 (.seq b223x5 (.cond (T 14) (.seq b223x6 .ret) .skip)))) b223x7)
abbrev b223x9 : BC := .loop (.seq b223x3 b223x8)
abbrev b223x10 : BC := .reg [⟨0, some 17, .move (T 3), none⟩,
  ⟨1, some 2, .assign (T 17), none⟩] []
abbrev b223 : BC := .seq b223x0 (.seq b223x1 (.seq (.seq b223x2 (.block 0 b223x9)) (.seq b223x10 .ret)))
theorem c223 : Tryz.f223.body.bind (compile Tryz.f223.ntmps) = some b223 := by kernel_rfl
theorem ok223 : EntryOK Tryz.prog (223, ⟨18, b223, #[.tmp 2]⟩) := ⟨Tryz.f223, Tryz.func223, c223, Tryz.ntmps223, by kernel_rfl, Tryz.call223⟩
/-! cmp.Compare[int] -/
abbrev b224x0 : BC := .reg [⟨0, some 4, .assign (K 0), none⟩] []
abbrev b224x1 : BC := .reg [⟨0, some 7, .move (T 0), none⟩,
  ⟨1, some 8, .call ⟨.value (.func 285), #[(T 7)], #[3]⟩, none⟩,
  ⟨2, some 5, .assign (T 8), none⟩] []
abbrev b224x2 : BC := .reg [⟨0, some 9, .move (T 1), none⟩,
  ⟨1, some 10, .call ⟨.value (.func 285), #[(T 9)], #[3]⟩, none⟩,
  ⟨2, some 6, .assign (T 10), none⟩] []
abbrev b224x3 : BC := .reg [⟨0, some 11, .move (T 5), none⟩] []
abbrev b224x4 : BC := .reg [⟨0, some 12, .move (T 6), none⟩] []
abbrev b224x5 : BC := .reg [⟨0, some 4, .assign (K 0), none⟩] []
abbrev b224x6 : BC := .reg [⟨0, some 4, .assign (K (-1)), none⟩] []
abbrev b224x7 : BC := .seq b224x3 (.cond (T 11) (.seq (.seq b224x4 (.cond (T 12) (.seq b224x5 .ret) .skip)) (.seq b224x6 .ret)) .skip)
abbrev b224x8 : BC := .reg [⟨0, some 13, .move (T 6), none⟩] []
abbrev b224x9 : BC := .reg [⟨0, some 4, .assign (K 1), none⟩] []
abbrev b224x10 : BC := .reg [⟨0, some 14, .move (T 0), none⟩,
  ⟨1, some 15, .move (T 1), none⟩,
  ⟨2, some 16, .binOp .lss 3 (T 14) (T 15) 3, none⟩] []
abbrev b224x11 : BC := .reg [⟨0, some 4, .assign (K (-1)), none⟩] []
abbrev b224x12 : BC := .reg [⟨0, some 17, .move (T 0), none⟩,
  ⟨1, some 18, .move (T 1), none⟩,
  ⟨2, some 19, .binOp .gtr 3 (T 17) (T 18) 3, none⟩] []
abbrev b224x13 : BC := .reg [⟨0, some 4, .assign (K 1), none⟩] []
abbrev b224x14 : BC := .reg [⟨0, some 4, .assign (K 0), none⟩] []
abbrev b224x15 : BC := .seq (.seq b224x10 (.cond (T 16) (.seq b224x11 .ret) .skip)) (.seq (.seq b224x12 (.cond (T 19) (.seq b224x13 .ret) .skip)) (.seq b224x14 .ret))
abbrev b224x16 : BC := .seq b224x1 (.seq b224x2 (.seq b224x7 (.seq (.seq b224x8 (.cond (T 13) (.seq b224x9 .ret) .skip)) b224x15)))
abbrev b224 : BC := .seq b224x0 b224x16
theorem c224 : Tryz.f224.body.bind (compile Tryz.f224.ntmps) = some b224 := by kernel_rfl
theorem ok224 : EntryOK Tryz.prog (224, ⟨20, b224, #[.tmp 4]⟩) := ⟨Tryz.f224, Tryz.func224, c224, Tryz.ntmps224, by kernel_rfl, Tryz.call224⟩
/-! scarfjoint/types.attrs -/
abbrev b228x0 : BC := .reg [⟨0, some 2, .box 25 (T 0), none⟩,
  ⟨1, some 4, .assign (.const (.slice none 0 0)), none⟩] []
abbrev b228x1 : BC := .reg [⟨0, some 5, .assign (.const (.slice none 0 0)), none⟩] []
abbrev b228x2 : BC := .reg [⟨0, some 7, .fieldAddr 25 (T 2) 0, none⟩,
  ⟨1, some 8, .load 22 (T 7), none⟩,
  ⟨2, some 9, .move (T 1), none⟩,
  ⟨3, some 10, .indexAddr 22 (T 8) (T 9), none⟩,
  ⟨4, some 11, .fieldAddr 157 (T 10) 1, none⟩,
  ⟨5, some 12, .load 3 (T 11), none⟩,
  ⟨6, some 6, .assign (T 12), none⟩] []
abbrev b228x3 : BC := .reg [⟨0, some 13, .move (T 6), none⟩,
  ⟨1, some 14, .binOp .geq 3 (T 13) (K 0) 3, none⟩] []
abbrev b228x4 : BC := .reg [⟨0, some 15, .load 25 (T 2), none⟩,
  ⟨1, some 16, .move (T 6), none⟩,
  ⟨2, some 17, .call ⟨.value (.func 228), #[(T 15), (T 16)], #[25, 3]⟩, none⟩,
  ⟨3, some 5, .assign (T 17), none⟩] []
abbrev b228x5 : BC := .reg [⟨0, some 18, .move (T 5), none⟩,
  ⟨1, some 19, .fieldAddr 25 (T 2) 0, none⟩,
  ⟨2, some 20, .load 22 (T 19), none⟩,
  ⟨3, some 21, .move (T 1), none⟩,
  ⟨4, some 22, .indexAddr 22 (T 20) (T 21), none⟩,
  ⟨5, some 23, .fieldAddr 157 (T 22) 3, none⟩,
  ⟨6, some 24, .load 155 (T 23), none⟩,
  ⟨7, some 25, .call ⟨.builtin .append, #[(T 18), (T 24)], #[155, 155]⟩, none⟩,
  ⟨8, some 4, .assign (T 25), none⟩] []
abbrev b228x6 : BC := .seq b228x0 (.seq b228x1 (.seq (.seq b228x2 (.seq b228x3 (.cond (T 14) b228x4 .skip))) (.seq b228x5 .ret)))
abbrev b228 : BC := b228x6
theorem c228 : Tryz.f228.body.bind (compile Tryz.f228.ntmps) = some b228 := by kernel_rfl
theorem ok228 : EntryOK Tryz.prog (228, ⟨26, b228, #[.tmp 4]⟩) := ⟨Tryz.f228, Tryz.func228, c228, Tryz.ntmps228, by kernel_rfl, Tryz.call228⟩
/-! slices.Clone[[]string,string] -/
abbrev b229x0 : BC := .reg [⟨0, some 2, .assign (.const (.slice none 0 0)), none⟩] []
abbrev b229x1 : BC := .reg [⟨0, some 3, .move (T 0), none⟩,
  ⟨1, some 4, .binOp .eql 158 (T 3) (.const (.slice none 0 0)) 158, none⟩] []
abbrev b229x2 : BC := .reg [⟨0, some 2, .assign (.const (.slice none 0 0)), none⟩] []
abbrev b229x3 : BC := .reg [⟨0, some 5, .buildSlice 158 0 #[], none⟩,
  ⟨1, some 6, .move (T 0), none⟩,
  ⟨2, some 7, .call ⟨.builtin .append, #[(T 5), (T 6)], #[158, 158]⟩, none⟩,
  ⟨3, some 2, .assign (T 7), none⟩] []
abbrev b229 : BC := .seq b229x0 (.seq (.seq b229x1 (.cond (T 4) (.seq b229x2 .ret) .skip)) (.seq b229x3 .ret))
theorem c229 : Tryz.f229.body.bind (compile Tryz.f229.ntmps) = some b229 := by kernel_rfl
theorem ok229 : EntryOK Tryz.prog (229, ⟨8, b229, #[.tmp 2]⟩) := ⟨Tryz.f229, Tryz.func229, c229, Tryz.ntmps229, by kernel_rfl, Tryz.call229⟩
/-! slices.Index[[]int,int] -/
abbrev b231x0 : BC := .reg [⟨0, some 4, .assign (K 0), none⟩] []
abbrev b231x1 : BC := .reg [⟨0, some 6, .move (T 0), none⟩,
  ⟨1, some 7, .call ⟨.builtin .len, #[(T 6)], #[26]⟩, none⟩,
  ⟨2, some 8, .move (K 0), none⟩] []
abbrev b231x2 : BC := .reg [⟨0, some 9, .binOp .lss 3 (T 8) (T 7) 3, none⟩] []
abbrev b231x3 : BC := .reg [⟨0, some 10, .move (T 8), none⟩,
  ⟨1, some 5, .assign (T 10), none⟩] []
abbrev b231x4 : BC := .reg [⟨0, some 11, .move (T 1), none⟩,
  ⟨1, some 12, .move (T 0), none⟩,
  ⟨2, some 13, .move (T 5), none⟩,
  ⟨3, some 14, .indexAddr 26 (T 12) (T 13), none⟩,
  ⟨4, some 15, .load 3 (T 14), none⟩,
  ⟨5, some 16, .binOp .eql 3 (T 11) (T 15) 3, none⟩] []
abbrev b231x5 : BC := .reg [⟨0, some 17, .move (T 5), none⟩,
  ⟨1, some 4, .assign (T 17), none⟩] []
abbrev b231x6 : BC := .reg [⟨0, some 18, .binOp .add 3 (T 8) (K 1) 3, none⟩,
  ⟨1, some 8, .move (T 18), none⟩] []
abbrev b231x7 : BC := .seq (.cond (T 9) .skip (.exit 0)) (.seq (.block 1 (.seq b231x3 (.seq b231x4 (.cond (T 16) (.seq b231x5 .ret) .skip)))) b231x6)
abbrev b231x8 : BC := .loop (.seq b231x2 b231x7)
abbrev b231x9 : BC := .reg [⟨0, some 4, .assign (K (-1)), none⟩] []
abbrev b231 : BC := .seq b231x0 (.seq (.seq b231x1 (.block 0 b231x8)) (.seq b231x9 .ret))
theorem c231 : Tryz.f231.body.bind (compile Tryz.f231.ntmps) = some b231 := by kernel_rfl
theorem ok231 : EntryOK Tryz.prog (231, ⟨19, b231, #[.tmp 4]⟩) := ⟨Tryz.f231, Tryz.func231, c231, Tryz.ntmps231, by kernel_rfl, Tryz.call231⟩
/-! scarfjoint/token.whole -/
abbrev b240x0 : BC := .reg [⟨0, some 1, .box 305 (T 0), none⟩,
  ⟨1, some 2, .assign (.const (.string ⟨#[]⟩)), none⟩,
  ⟨2, some 3, .assign (.const (.bool false)), none⟩] []
abbrev b240x1 : BC := .reg [⟨0, some 8, .fieldAddr 305 (T 1) 1, none⟩,
  ⟨1, some 9, .load 9 (T 8), none⟩,
  ⟨2, some 4, .assign (T 9), none⟩] []
abbrev b240x2 : BC := .reg [⟨0, some 10, .fieldAddr 305 (T 1) 0, none⟩,
  ⟨1, some 11, .load 3 (T 10), none⟩,
  ⟨2, some 12, .binOp .eql 3 (T 11) (K 3) 3, none⟩] []
abbrev b240x3 : BC := .reg [⟨0, some 13, .move (T 4), none⟩,
  ⟨1, some 14, .binOp .add 9 (.const (.string ⟨#[34]⟩)) (T 13) 9, none⟩,
  ⟨2, some 15, .binOp .add 9 (T 14) (.const (.string ⟨#[34]⟩)) 9, none⟩,
  ⟨3, some 4, .assign (T 15), none⟩] []
abbrev b240x4 : BC := .reg [⟨0, some 16, .move (T 4), none⟩,
  ⟨1, some 17, .binOp .eql 9 (T 16) (.const (.string ⟨#[]⟩)) 9, none⟩] []
abbrev b240x5 : BC := .reg [⟨0, some 2, .assign (.const (.string ⟨#[]⟩)), none⟩,
  ⟨1, some 3, .assign (.const (.bool false)), none⟩] []
abbrev b240x6 : BC := .reg [⟨0, some 19, .move (T 4), none⟩,
  ⟨1, some 20, .call ⟨.value (.func 292), #[(T 19)], #[9]⟩, none⟩,
  ⟨2, some 18, .move (T 20), none⟩,
  ⟨3, some 21, .extract (T 18) 0, none⟩,
  ⟨4, some 22, .extract (T 18) 1, none⟩,
  ⟨5, some 23, .extract (T 18) 2, none⟩,
  ⟨6, some 5, .assign (T 21), none⟩,
  ⟨7, some 6, .assign (T 22), none⟩,
  ⟨8, some 7, .assign (T 23), none⟩] []
abbrev b240x7 : BC := .reg [⟨0, some 24, .move (T 4), none⟩,
  ⟨1, some 25, .move (T 7), none⟩,
  ⟨2, some 26, .binOp .eql 38 (T 25) (K 0) 38, none⟩,
  ⟨3, some 27, .move (T 26), none⟩,
  ⟨4, some 28, .move (T 5), some (27, true)⟩,
  ⟨5, some 29, .fieldAddr 305 (T 1) 0, some (27, true)⟩,
  ⟨6, some 30, .load 3 (T 29), some (27, true)⟩,
  ⟨7, some 31, .binOp .eql 3 (T 28) (T 30) 3, some (27, true)⟩,
  ⟨8, some 32, .pick (T 27) (T 31) (.const (.bool false)), none⟩,
  ⟨9, some 33, .move (T 32), none⟩,
  ⟨10, some 34, .move (T 6), some (33, true)⟩,
  ⟨11, some 35, .move (T 4), some (33, true)⟩,
  ⟨12, some 36, .call ⟨.builtin .len, #[(T 35)], #[9]⟩, some (33, true)⟩,
  ⟨13, some 37, .binOp .eql 3 (T 34) (T 36) 3, some (33, true)⟩,
  ⟨14, some 38, .pick (T 33) (T 37) (.const (.bool false)), none⟩,
  ⟨15, some 2, .assign (T 24), none⟩,
  ⟨16, some 3, .assign (T 38), none⟩] []
abbrev b240x8 : BC := .seq (.seq b240x2 (.cond (T 12) b240x3 .skip)) (.seq (.seq b240x4 (.cond (T 17) (.seq b240x5 .ret) .skip)) (.seq b240x6 (.seq b240x7 .ret)))
abbrev b240 : BC := .seq b240x0 (.seq b240x1 b240x8)
theorem c240 : Tryz.f240.body.bind (compile Tryz.f240.ntmps) = some b240 := by kernel_rfl
theorem ok240 : EntryOK Tryz.prog (240, ⟨39, b240, #[.tmp 2, .tmp 3]⟩) := ⟨Tryz.f240, Tryz.func240, c240, Tryz.ntmps240, by kernel_rfl, Tryz.call240⟩
end Go.Av
