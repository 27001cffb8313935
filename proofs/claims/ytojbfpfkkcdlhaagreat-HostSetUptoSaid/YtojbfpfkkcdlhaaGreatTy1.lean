/- Facts of the program's types, printed by a program. -/
import Derived.Test.YtojbfpfkkcdlhaaGreatAv16
import Derived.KernelRfl
import Derived.Test.YtojbfpfkkcdlhaaGreatProg
namespace Go.Av
set_option linter.unusedVariables false
set_option linter.unusedSimpArgs false
open Go.Proofs
theorem ld25 : LdA Tryz.prog 25 2 := fun h n off => opLoad_ptrA (sz := 2) (by kernel_rfl) (by kernel_rfl) (by kernel_rfl) (by kernel_rfl)
theorem ldi25 : LdiA Tryz.prog 25 2 := fun h cs off => opLoad_iptrA (sz := 2) (by kernel_rfl) (by kernel_rfl) (by kernel_rfl) (by kernel_rfl)
attribute [simp] ld25
attribute [simp] ldi25
theorem ld33 : LdA Tryz.prog 33 5 := fun h n off => opLoad_ptrA (sz := 5) (by kernel_rfl) (by kernel_rfl) (by kernel_rfl) (by kernel_rfl)
theorem ldi33 : LdiA Tryz.prog 33 5 := fun h cs off => opLoad_iptrA (sz := 5) (by kernel_rfl) (by kernel_rfl) (by kernel_rfl) (by kernel_rfl)
attribute [simp] ld33
attribute [simp] ldi33
theorem ln47 : LnV Tryz.prog 47 := fun cs len cap => opLen_vsl (el := 21) (by kernel_rfl) cs len cap
theorem lno47 : LnO Tryz.prog 47 := fun n off len cap z => opLen_osl (el := 21) (by kernel_rfl) n off len cap z
theorem lnn47 : LnN Tryz.prog 47 := opLen_nilsl (el := 21) (by kernel_rfl)
attribute [simp] ln47
attribute [simp] lno47
attribute [simp] lnn47
theorem ix47 : IxV Tryz.prog 47 1 := fun cs len cap kk k => opIndexAddr_vsl (el := 21) (sz := 1) (by kernel_rfl) (by kernel_rfl) (by kernel_rfl) cs len cap kk k
theorem ixo47 : IxO Tryz.prog 47 1 := fun n off len cap z kk k => opIndexAddr_osl (el := 21) (sz := 1) (by kernel_rfl) (by kernel_rfl) (by kernel_rfl) n off len cap z kk k
attribute [simp] ix47
attribute [simp] ixo47
theorem ld21 : Ld1 Tryz.prog 21 := fun h n off => opLoad_ptr1 (by kernel_rfl) (by kernel_rfl) (by kernel_rfl)
theorem ldi21 : Ldi1 Tryz.prog 21 := fun h cs off => opLoad_iptr1 (by kernel_rfl) (by kernel_rfl) (by kernel_rfl)
attribute [simp] ld21
attribute [simp] ldi21
theorem cv21x3 : CvF Tryz.prog 21 3 .i64 := fun kk n => opConv_eq (k' := .i32) (k := .i64) (by kernel_rfl) (by kernel_rfl)
attribute [simp] cv21x3
theorem bs26x1 : BsF Tryz.prog 26 1 1 [.int .i64 0] := fun nx parts => opBuildSlice_eq (el := 3) (sz := 1) (z := (.int .i64 0)) (by kernel_rfl) (by kernel_rfl) (by kernel_rfl) (by kernel_rfl) rfl (by decide) (by decide)
attribute [simp] bs26x1
theorem ap26x26 : ApF Tryz.prog 26 26 1 := fun h nx x y => opAppend_eq (el := 3) (sz := 1) (by kernel_rfl) (by kernel_rfl) (Nat.le_of_ble_eq_true (by kernel_rfl)) (by decide) (by kernel_rfl) (by kernel_rfl)
attribute [simp] ap26x26
theorem al33 : AlF Tryz.prog 33 [.nilsl, .nilsl, .nilsl, .int .i64 0, .nilsl] := fun nx => opAlloc_eq (z := (.agg #[(.slice none 0 0), (.slice none 0 0), (.slice none 0 0), (.int .i64 0), (.slice none 0 0)])) (by kernel_rfl) (by kernel_rfl)
attribute [simp] al33
theorem st33 : StF Tryz.prog 33 5 := fun h n off y => opStore_eq (sz := 5) (by kernel_rfl) (by kernel_rfl)
attribute [simp] st33
theorem ld55 : LdA Tryz.prog 55 3 := fun h n off => opLoad_ptrA (sz := 3) (by kernel_rfl) (by kernel_rfl) (by kernel_rfl) (by kernel_rfl)
theorem ldi55 : LdiA Tryz.prog 55 3 := fun h cs off => opLoad_iptrA (sz := 3) (by kernel_rfl) (by kernel_rfl) (by kernel_rfl) (by kernel_rfl)
attribute [simp] ld55
attribute [simp] ldi55
theorem bs190x1 : BsF Tryz.prog 190 1 3 [.nilsl, .nilsl, .nilsl] := fun nx parts => opBuildSlice_eq (el := 55) (sz := 3) (z := (.agg #[(.slice none 0 0), (.slice none 0 0), (.slice none 0 0)])) (by kernel_rfl) (by kernel_rfl) (by kernel_rfl) (by kernel_rfl) rfl (by decide) (by decide)
attribute [simp] bs190x1
theorem al55 : AlF Tryz.prog 55 [.nilsl, .nilsl, .nilsl] := fun nx => opAlloc_eq (z := (.agg #[(.slice none 0 0), (.slice none 0 0), (.slice none 0 0)])) (by kernel_rfl) (by kernel_rfl)
attribute [simp] al55
theorem al68 : AlF Tryz.prog 68 [.nilsl, .nilsl] := fun nx => opAlloc_eq (z := (.agg #[(.slice none 0 0), (.slice none 0 0)])) (by kernel_rfl) (by kernel_rfl)
attribute [simp] al68
theorem st55 : StF Tryz.prog 55 3 := fun h n off y => opStore_eq (sz := 3) (by kernel_rfl) (by kernel_rfl)
attribute [simp] st55
theorem st68 : StF Tryz.prog 68 2 := fun h n off y => opStore_eq (sz := 2) (by kernel_rfl) (by kernel_rfl)
attribute [simp] st68
theorem ld68 : LdA Tryz.prog 68 2 := fun h n off => opLoad_ptrA (sz := 2) (by kernel_rfl) (by kernel_rfl) (by kernel_rfl) (by kernel_rfl)
theorem ldi68 : LdiA Tryz.prog 68 2 := fun h cs off => opLoad_iptrA (sz := 2) (by kernel_rfl) (by kernel_rfl) (by kernel_rfl) (by kernel_rfl)
attribute [simp] ld68
attribute [simp] ldi68
theorem fa76x0 : FaP Tryz.prog 76 0 0 := fun n off => opFieldAddr_ptr (k := 0) (by kernel_rfl)
theorem fai76x0 : FaI Tryz.prog 76 0 0 := fun cs off => opFieldAddr_iptr (k := 0) (by kernel_rfl)
attribute [simp] fa76x0
attribute [simp] fai76x0
theorem ld73 : Ld1 Tryz.prog 73 := fun h n off => opLoad_ptr1 (by kernel_rfl) (by kernel_rfl) (by kernel_rfl)
theorem ldi73 : Ldi1 Tryz.prog 73 := fun h cs off => opLoad_iptr1 (by kernel_rfl) (by kernel_rfl) (by kernel_rfl)
attribute [simp] ld73
attribute [simp] ldi73
theorem ln73 : LnV Tryz.prog 73 := fun cs len cap => opLen_vsl (el := 207) (by kernel_rfl) cs len cap
theorem lno73 : LnO Tryz.prog 73 := fun n off len cap z => opLen_osl (el := 207) (by kernel_rfl) n off len cap z
theorem lnn73 : LnN Tryz.prog 73 := opLen_nilsl (el := 207) (by kernel_rfl)
attribute [simp] ln73
attribute [simp] lno73
attribute [simp] lnn73
theorem fa76x1 : FaP Tryz.prog 76 1 1 := fun n off => opFieldAddr_ptr (k := 1) (by kernel_rfl)
theorem fai76x1 : FaI Tryz.prog 76 1 1 := fun cs off => opFieldAddr_iptr (k := 1) (by kernel_rfl)
attribute [simp] fa76x1
attribute [simp] fai76x1
theorem ld74 : Ld1 Tryz.prog 74 := fun h n off => opLoad_ptr1 (by kernel_rfl) (by kernel_rfl) (by kernel_rfl)
theorem ldi74 : Ldi1 Tryz.prog 74 := fun h cs off => opLoad_iptr1 (by kernel_rfl) (by kernel_rfl) (by kernel_rfl)
attribute [simp] ld74
attribute [simp] ldi74
theorem ln74 : LnV Tryz.prog 74 := fun cs len cap => opLen_vsl (el := 210) (by kernel_rfl) cs len cap
theorem lno74 : LnO Tryz.prog 74 := fun n off len cap z => opLen_osl (el := 210) (by kernel_rfl) n off len cap z
theorem lnn74 : LnN Tryz.prog 74 := opLen_nilsl (el := 210) (by kernel_rfl)
attribute [simp] ln74
attribute [simp] lno74
attribute [simp] lnn74
theorem al25 : AlF Tryz.prog 25 [.nilsl, .nilsl] := fun nx => opAlloc_eq (z := (.agg #[(.slice none 0 0), (.slice none 0 0)])) (by kernel_rfl) (by kernel_rfl)
attribute [simp] al25
theorem st25 : StF Tryz.prog 25 2 := fun h n off y => opStore_eq (sz := 2) (by kernel_rfl) (by kernel_rfl)
attribute [simp] st25
theorem fa25x1 : FaP Tryz.prog 25 1 1 := fun n off => opFieldAddr_ptr (k := 1) (by kernel_rfl)
theorem fai25x1 : FaI Tryz.prog 25 1 1 := fun cs off => opFieldAddr_iptr (k := 1) (by kernel_rfl)
attribute [simp] fa25x1
attribute [simp] fai25x1
theorem ld23 : Ld1 Tryz.prog 23 := fun h n off => opLoad_ptr1 (by kernel_rfl) (by kernel_rfl) (by kernel_rfl)
theorem ldi23 : Ldi1 Tryz.prog 23 := fun h cs off => opLoad_iptr1 (by kernel_rfl) (by kernel_rfl) (by kernel_rfl)
attribute [simp] ld23
attribute [simp] ldi23
theorem ix23 : IxV Tryz.prog 23 7 := fun cs len cap kk k => opIndexAddr_vsl (el := 81) (sz := 7) (by kernel_rfl) (by kernel_rfl) (by kernel_rfl) cs len cap kk k
theorem ixo23 : IxO Tryz.prog 23 7 := fun n off len cap z kk k => opIndexAddr_osl (el := 81) (sz := 7) (by kernel_rfl) (by kernel_rfl) (by kernel_rfl) n off len cap z kk k
attribute [simp] ix23
attribute [simp] ixo23
theorem ix77 : IxA Tryz.prog 77 4 1 := fun n off kk k => opIndexAddr_arr (m := 4) (el := 5) (sz := 1) (by kernel_rfl) (by kernel_rfl) (by kernel_rfl) n off kk k
theorem ixo77 : IxB Tryz.prog 77 4 1 := fun cs off kk k => opIndexAddr_arri (m := 4) (el := 5) (sz := 1) (by kernel_rfl) (by kernel_rfl) (by kernel_rfl) cs off kk k
attribute [simp] ix77
attribute [simp] ixo77
theorem ld5 : Ld1 Tryz.prog 5 := fun h n off => opLoad_ptr1 (by kernel_rfl) (by kernel_rfl) (by kernel_rfl)
theorem ldi5 : Ldi1 Tryz.prog 5 := fun h cs off => opLoad_iptr1 (by kernel_rfl) (by kernel_rfl) (by kernel_rfl)
attribute [simp] ld5
attribute [simp] ldi5
theorem cv5x3 : CvF Tryz.prog 5 3 .i64 := fun kk n => opConv_eq (k' := .u8) (k := .i64) (by kernel_rfl) (by kernel_rfl)
attribute [simp] cv5x3
theorem fa81x3 : FaP Tryz.prog 81 3 3 := fun n off => opFieldAddr_ptr (k := 3) (by kernel_rfl)
theorem fai81x3 : FaI Tryz.prog 81 3 3 := fun cs off => opFieldAddr_iptr (k := 3) (by kernel_rfl)
attribute [simp] fa81x3
attribute [simp] fai81x3
theorem st3 : StF Tryz.prog 3 1 := fun h n off y => opStore_eq (sz := 1) (by kernel_rfl) (by kernel_rfl)
attribute [simp] st3
theorem fa81x5 : FaP Tryz.prog 81 5 5 := fun n off => opFieldAddr_ptr (k := 5) (by kernel_rfl)
theorem fai81x5 : FaI Tryz.prog 81 5 5 := fun cs off => opFieldAddr_iptr (k := 5) (by kernel_rfl)
attribute [simp] fa81x5
attribute [simp] fai81x5
theorem ld3 : Ld1 Tryz.prog 3 := fun h n off => opLoad_ptr1 (by kernel_rfl) (by kernel_rfl) (by kernel_rfl)
theorem ldi3 : Ldi1 Tryz.prog 3 := fun h cs off => opLoad_iptr1 (by kernel_rfl) (by kernel_rfl) (by kernel_rfl)
attribute [simp] ld3
attribute [simp] ldi3
theorem fa81x4 : FaP Tryz.prog 81 4 4 := fun n off => opFieldAddr_ptr (k := 4) (by kernel_rfl)
theorem fai81x4 : FaI Tryz.prog 81 4 4 := fun cs off => opFieldAddr_iptr (k := 4) (by kernel_rfl)
attribute [simp] fa81x4
attribute [simp] fai81x4
theorem fa81x6 : FaP Tryz.prog 81 6 6 := fun n off => opFieldAddr_ptr (k := 6) (by kernel_rfl)
theorem fai81x6 : FaI Tryz.prog 81 6 6 := fun cs off => opFieldAddr_iptr (k := 6) (by kernel_rfl)
attribute [simp] fa81x6
attribute [simp] fai81x6
theorem ld76 : LdA Tryz.prog 76 2 := fun h n off => opLoad_ptrA (sz := 2) (by kernel_rfl) (by kernel_rfl) (by kernel_rfl) (by kernel_rfl)
theorem ldi76 : LdiA Tryz.prog 76 2 := fun h cs off => opLoad_iptrA (sz := 2) (by kernel_rfl) (by kernel_rfl) (by kernel_rfl) (by kernel_rfl)
attribute [simp] ld76
attribute [simp] ldi76
theorem fa55x0 : FaP Tryz.prog 55 0 0 := fun n off => opFieldAddr_ptr (k := 0) (by kernel_rfl)
theorem fai55x0 : FaI Tryz.prog 55 0 0 := fun cs off => opFieldAddr_iptr (k := 0) (by kernel_rfl)
attribute [simp] fa55x0
attribute [simp] fai55x0
theorem fa29x0 : FaP Tryz.prog 29 0 0 := fun n off => opFieldAddr_ptr (k := 0) (by kernel_rfl)
theorem fai29x0 : FaI Tryz.prog 29 0 0 := fun cs off => opFieldAddr_iptr (k := 0) (by kernel_rfl)
attribute [simp] fa29x0
attribute [simp] fai29x0
theorem ld26 : Ld1 Tryz.prog 26 := fun h n off => opLoad_ptr1 (by kernel_rfl) (by kernel_rfl) (by kernel_rfl)
theorem ldi26 : Ldi1 Tryz.prog 26 := fun h cs off => opLoad_iptr1 (by kernel_rfl) (by kernel_rfl) (by kernel_rfl)
attribute [simp] ld26
attribute [simp] ldi26
theorem ln26 : LnV Tryz.prog 26 := fun cs len cap => opLen_vsl (el := 3) (by kernel_rfl) cs len cap
theorem lno26 : LnO Tryz.prog 26 := fun n off len cap z => opLen_osl (el := 3) (by kernel_rfl) n off len cap z
theorem lnn26 : LnN Tryz.prog 26 := opLen_nilsl (el := 3) (by kernel_rfl)
attribute [simp] ln26
attribute [simp] lno26
attribute [simp] lnn26
theorem ix26 : IxV Tryz.prog 26 1 := fun cs len cap kk k => opIndexAddr_vsl (el := 3) (sz := 1) (by kernel_rfl) (by kernel_rfl) (by kernel_rfl) cs len cap kk k
theorem ixo26 : IxO Tryz.prog 26 1 := fun n off len cap z kk k => opIndexAddr_osl (el := 3) (sz := 1) (by kernel_rfl) (by kernel_rfl) (by kernel_rfl) n off len cap z kk k
attribute [simp] ix26
attribute [simp] ixo26
theorem fa29x1 : FaP Tryz.prog 29 1 1 := fun n off => opFieldAddr_ptr (k := 1) (by kernel_rfl)
theorem fai29x1 : FaI Tryz.prog 29 1 1 := fun cs off => opFieldAddr_iptr (k := 1) (by kernel_rfl)
attribute [simp] fa29x1
attribute [simp] fai29x1
theorem ld27 : Ld1 Tryz.prog 27 := fun h n off => opLoad_ptr1 (by kernel_rfl) (by kernel_rfl) (by kernel_rfl)
theorem ldi27 : Ldi1 Tryz.prog 27 := fun h cs off => opLoad_iptr1 (by kernel_rfl) (by kernel_rfl) (by kernel_rfl)
attribute [simp] ld27
attribute [simp] ldi27
theorem ln27 : LnV Tryz.prog 27 := fun cs len cap => opLen_vsl (el := 84) (by kernel_rfl) cs len cap
theorem lno27 : LnO Tryz.prog 27 := fun n off len cap z => opLen_osl (el := 84) (by kernel_rfl) n off len cap z
theorem lnn27 : LnN Tryz.prog 27 := opLen_nilsl (el := 84) (by kernel_rfl)
attribute [simp] ln27
attribute [simp] lno27
attribute [simp] lnn27
theorem ix27 : IxV Tryz.prog 27 3 := fun cs len cap kk k => opIndexAddr_vsl (el := 84) (sz := 3) (by kernel_rfl) (by kernel_rfl) (by kernel_rfl) cs len cap kk k
theorem ixo27 : IxO Tryz.prog 27 3 := fun n off len cap z kk k => opIndexAddr_osl (el := 84) (sz := 3) (by kernel_rfl) (by kernel_rfl) (by kernel_rfl) n off len cap z kk k
attribute [simp] ix27
attribute [simp] ixo27
theorem ld84 : LdA Tryz.prog 84 3 := fun h n off => opLoad_ptrA (sz := 3) (by kernel_rfl) (by kernel_rfl) (by kernel_rfl) (by kernel_rfl)
theorem ldi84 : LdiA Tryz.prog 84 3 := fun h cs off => opLoad_iptrA (sz := 3) (by kernel_rfl) (by kernel_rfl) (by kernel_rfl) (by kernel_rfl)
attribute [simp] ld84
attribute [simp] ldi84
theorem al84 : AlF Tryz.prog 84 [.int .i64 0, .int .i64 0, .int .i64 0] := fun nx => opAlloc_eq (z := (.agg #[(.int .i64 0), (.int .i64 0), (.int .i64 0)])) (by kernel_rfl) (by kernel_rfl)
attribute [simp] al84
theorem st84 : StF Tryz.prog 84 3 := fun h n off y => opStore_eq (sz := 3) (by kernel_rfl) (by kernel_rfl)
attribute [simp] st84
theorem fa84x0 : FaP Tryz.prog 84 0 0 := fun n off => opFieldAddr_ptr (k := 0) (by kernel_rfl)
theorem fai84x0 : FaI Tryz.prog 84 0 0 := fun cs off => opFieldAddr_iptr (k := 0) (by kernel_rfl)
attribute [simp] fa84x0
attribute [simp] fai84x0
theorem fa84x1 : FaP Tryz.prog 84 1 1 := fun n off => opFieldAddr_ptr (k := 1) (by kernel_rfl)
theorem fai84x1 : FaI Tryz.prog 84 1 1 := fun cs off => opFieldAddr_iptr (k := 1) (by kernel_rfl)
attribute [simp] fa84x1
attribute [simp] fai84x1
theorem fa84x2 : FaP Tryz.prog 84 2 2 := fun n off => opFieldAddr_ptr (k := 2) (by kernel_rfl)
theorem fai84x2 : FaI Tryz.prog 84 2 2 := fun cs off => opFieldAddr_iptr (k := 2) (by kernel_rfl)
attribute [simp] fa84x2
attribute [simp] fai84x2
theorem bu65 : BuF Tryz.prog 65 [(0, 1), (1, 1), (2, 1), (3, 1)] [.int .i64 0, .int .i64 0, .int .i64 0, .bool false] := fun parts => opBuild_struct (fs := Tryz.prog.fieldsOf 65) (z := (.agg #[(.int .i64 0), (.int .i64 0), (.int .i64 0), (.bool false)])) (pl := [(0, 1), (1, 1), (2, 1), (3, 1)]) (by kernel_rfl) (by kernel_rfl) (by kernel_rfl) (by kernel_rfl) (by kernel_rfl)
attribute [simp] bu65
theorem bn4 : BnF Tryz.prog 4 := fun a b => opBin_boolNe (by kernel_rfl) a b
attribute [simp] bn4
theorem ld29 : LdA Tryz.prog 29 2 := fun h n off => opLoad_ptrA (sz := 2) (by kernel_rfl) (by kernel_rfl) (by kernel_rfl) (by kernel_rfl)
theorem ldi29 : LdiA Tryz.prog 29 2 := fun h cs off => opLoad_iptrA (sz := 2) (by kernel_rfl) (by kernel_rfl) (by kernel_rfl) (by kernel_rfl)
attribute [simp] ld29
attribute [simp] ldi29
theorem be4 : BeF Tryz.prog 4 := fun a b => opBin_boolEq (by kernel_rfl) a b
attribute [simp] be4
theorem fa92x0 : FaP Tryz.prog 92 0 0 := fun n off => opFieldAddr_ptr (k := 0) (by kernel_rfl)
theorem fai92x0 : FaI Tryz.prog 92 0 0 := fun cs off => opFieldAddr_iptr (k := 0) (by kernel_rfl)
attribute [simp] fa92x0
attribute [simp] fai92x0
theorem fa92x1 : FaP Tryz.prog 92 1 1 := fun n off => opFieldAddr_ptr (k := 1) (by kernel_rfl)
theorem fai92x1 : FaI Tryz.prog 92 1 1 := fun cs off => opFieldAddr_iptr (k := 1) (by kernel_rfl)
attribute [simp] fa92x1
attribute [simp] fai92x1
theorem fa92x2 : FaP Tryz.prog 92 2 2 := fun n off => opFieldAddr_ptr (k := 2) (by kernel_rfl)
theorem fai92x2 : FaI Tryz.prog 92 2 2 := fun cs off => opFieldAddr_iptr (k := 2) (by kernel_rfl)
attribute [simp] fa92x2
attribute [simp] fai92x2
theorem fa55x1 : FaP Tryz.prog 55 1 2 := fun n off => opFieldAddr_ptr (k := 2) (by kernel_rfl)
theorem fai55x1 : FaI Tryz.prog 55 1 2 := fun cs off => opFieldAddr_iptr (k := 2) (by kernel_rfl)
attribute [simp] fa55x1
attribute [simp] fai55x1
theorem ld53 : Ld1 Tryz.prog 53 := fun h n off => opLoad_ptr1 (by kernel_rfl) (by kernel_rfl) (by kernel_rfl)
theorem ldi53 : Ldi1 Tryz.prog 53 := fun h cs off => opLoad_iptr1 (by kernel_rfl) (by kernel_rfl) (by kernel_rfl)
attribute [simp] ld53
attribute [simp] ldi53
theorem ix53 : IxV Tryz.prog 53 1 := fun cs len cap kk k => opIndexAddr_vsl (el := 26) (sz := 1) (by kernel_rfl) (by kernel_rfl) (by kernel_rfl) cs len cap kk k
theorem ixo53 : IxO Tryz.prog 53 1 := fun n off len cap z kk k => opIndexAddr_osl (el := 26) (sz := 1) (by kernel_rfl) (by kernel_rfl) (by kernel_rfl) n off len cap z kk k
attribute [simp] ix53
attribute [simp] ixo53
theorem fa101x0 : FaP Tryz.prog 101 0 0 := fun n off => opFieldAddr_ptr (k := 0) (by kernel_rfl)
theorem fai101x0 : FaI Tryz.prog 101 0 0 := fun cs off => opFieldAddr_iptr (k := 0) (by kernel_rfl)
attribute [simp] fa101x0
attribute [simp] fai101x0
theorem ld99 : Ld1 Tryz.prog 99 := fun h n off => opLoad_ptr1 (by kernel_rfl) (by kernel_rfl) (by kernel_rfl)
theorem ldi99 : Ldi1 Tryz.prog 99 := fun h cs off => opLoad_iptr1 (by kernel_rfl) (by kernel_rfl) (by kernel_rfl)
attribute [simp] ld99
attribute [simp] ldi99
theorem ln99 : LnV Tryz.prog 99 := fun cs len cap => opLen_vsl (el := 5) (by kernel_rfl) cs len cap
theorem lno99 : LnO Tryz.prog 99 := fun n off len cap z => opLen_osl (el := 5) (by kernel_rfl) n off len cap z
theorem lnn99 : LnN Tryz.prog 99 := opLen_nilsl (el := 5) (by kernel_rfl)
attribute [simp] ln99
attribute [simp] lno99
attribute [simp] lnn99
theorem fa101x1 : FaP Tryz.prog 101 1 1 := fun n off => opFieldAddr_ptr (k := 1) (by kernel_rfl)
theorem fai101x1 : FaI Tryz.prog 101 1 1 := fun cs off => opFieldAddr_iptr (k := 1) (by kernel_rfl)
attribute [simp] fa101x1
attribute [simp] fai101x1
theorem ln53 : LnV Tryz.prog 53 := fun cs len cap => opLen_vsl (el := 26) (by kernel_rfl) cs len cap
theorem lno53 : LnO Tryz.prog 53 := fun n off len cap z => opLen_osl (el := 26) (by kernel_rfl) n off len cap z
theorem lnn53 : LnN Tryz.prog 53 := opLen_nilsl (el := 26) (by kernel_rfl)
attribute [simp] ln53
attribute [simp] lno53
attribute [simp] lnn53
theorem fa68x0 : FaP Tryz.prog 68 0 0 := fun n off => opFieldAddr_ptr (k := 0) (by kernel_rfl)
theorem fai68x0 : FaI Tryz.prog 68 0 0 := fun cs off => opFieldAddr_iptr (k := 0) (by kernel_rfl)
attribute [simp] fa68x0
attribute [simp] fai68x0
theorem ld108 : LdA Tryz.prog 108 2 := fun h n off => opLoad_ptrA (sz := 2) (by kernel_rfl) (by kernel_rfl) (by kernel_rfl) (by kernel_rfl)
theorem ldi108 : LdiA Tryz.prog 108 2 := fun h cs off => opLoad_iptrA (sz := 2) (by kernel_rfl) (by kernel_rfl) (by kernel_rfl) (by kernel_rfl)
attribute [simp] ld108
attribute [simp] ldi108
theorem ld116 : LdA Tryz.prog 116 25 := fun h n off => opLoad_ptrA (sz := 25) (by kernel_rfl) (by kernel_rfl) (by kernel_rfl) (by kernel_rfl)
theorem ldi116 : LdiA Tryz.prog 116 25 := fun h cs off => opLoad_iptrA (sz := 25) (by kernel_rfl) (by kernel_rfl) (by kernel_rfl) (by kernel_rfl)
attribute [simp] ld116
attribute [simp] ldi116
theorem al116 : AlF Tryz.prog 116 [.str ⟨#[]⟩, .nilsl, .nilsl, .nilsl, .int .i64 0, .nilsl, .nilsl, .nilsl, .nilsl, .int .i64 0, .nilsl, .nilsl, .nilsl, .nilsl, .nilsl, .bool false, .int .i64 0, .nilsl, .nilsl, .nilsl, .nilsl, .nilsl, .nilsl, .int .i64 0, .nilsl] := fun nx => opAlloc_eq (z := (.agg #[(.string ⟨#[]⟩), (.slice none 0 0), (.slice none 0 0), (.slice none 0 0), (.int .i64 0), (.slice none 0 0), (.slice none 0 0), (.slice none 0 0), (.slice none 0 0), (.int .i64 0), (.slice none 0 0), (.slice none 0 0), (.slice none 0 0), (.slice none 0 0), (.slice none 0 0), (.bool false), (.int .i64 0), (.slice none 0 0), (.slice none 0 0), (.slice none 0 0), (.slice none 0 0), (.slice none 0 0), (.slice none 0 0), (.int .i64 0), (.slice none 0 0)])) (by kernel_rfl) (by kernel_rfl)
attribute [simp] al116
theorem st116 : StF Tryz.prog 116 25 := fun h n off y => opStore_eq (sz := 25) (by kernel_rfl) (by kernel_rfl)
attribute [simp] st116
theorem ld137 : LdA Tryz.prog 137 15 := fun h n off => opLoad_ptrA (sz := 15) (by kernel_rfl) (by kernel_rfl) (by kernel_rfl) (by kernel_rfl)
theorem ldi137 : LdiA Tryz.prog 137 15 := fun h cs off => opLoad_iptrA (sz := 15) (by kernel_rfl) (by kernel_rfl) (by kernel_rfl) (by kernel_rfl)
attribute [simp] ld137
attribute [simp] ldi137
theorem fa116x1 : FaP Tryz.prog 116 1 1 := fun n off => opFieldAddr_ptr (k := 1) (by kernel_rfl)
theorem fai116x1 : FaI Tryz.prog 116 1 1 := fun cs off => opFieldAddr_iptr (k := 1) (by kernel_rfl)
attribute [simp] fa116x1
attribute [simp] fai116x1
theorem fa33x0 : FaP Tryz.prog 33 0 0 := fun n off => opFieldAddr_ptr (k := 0) (by kernel_rfl)
theorem fai33x0 : FaI Tryz.prog 33 0 0 := fun cs off => opFieldAddr_iptr (k := 0) (by kernel_rfl)
attribute [simp] fa33x0
attribute [simp] fai33x0
theorem fa116x2 : FaP Tryz.prog 116 2 6 := fun n off => opFieldAddr_ptr (k := 6) (by kernel_rfl)
theorem fai116x2 : FaI Tryz.prog 116 2 6 := fun cs off => opFieldAddr_iptr (k := 6) (by kernel_rfl)
attribute [simp] fa116x2
attribute [simp] fai116x2
theorem bu148 : BuF Tryz.prog 148 [(0, 1), (1, 1)] [.int .i64 0, .int .i64 0] := fun parts => opBuild_struct (fs := Tryz.prog.fieldsOf 148) (z := (.agg #[(.int .i64 0), (.int .i64 0)])) (pl := [(0, 1), (1, 1)]) (by kernel_rfl) (by kernel_rfl) (by kernel_rfl) (by kernel_rfl) (by kernel_rfl)
attribute [simp] bu148
theorem bu150 : BuF Tryz.prog 150 [(0, 1), (1, 2), (3, 2)] [.int .i64 0, .int .i64 0, .int .i64 0, .int .i64 0, .int .i64 0] := fun parts => opBuild_struct (fs := Tryz.prog.fieldsOf 150) (z := (.agg #[(.int .i64 0), (.int .i64 0), (.int .i64 0), (.int .i64 0), (.int .i64 0)])) (pl := [(0, 1), (1, 2), (3, 2)]) (by kernel_rfl) (by kernel_rfl) (by kernel_rfl) (by kernel_rfl) (by kernel_rfl)
attribute [simp] bu150
theorem bs26x2 : BsF Tryz.prog 26 2 1 [.int .i64 0] := fun nx parts => opBuildSlice_eq (el := 3) (sz := 1) (z := (.int .i64 0)) (by kernel_rfl) (by kernel_rfl) (by kernel_rfl) (by kernel_rfl) rfl (by decide) (by decide)
attribute [simp] bs26x2
theorem bu68 : BuF Tryz.prog 68 [(0, 1), (1, 1)] [.nilsl, .nilsl] := fun parts => opBuild_struct (fs := Tryz.prog.fieldsOf 68) (z := (.agg #[(.slice none 0 0), (.slice none 0 0)])) (pl := [(0, 1), (1, 1)]) (by kernel_rfl) (by kernel_rfl) (by kernel_rfl) (by kernel_rfl) (by kernel_rfl)
attribute [simp] bu68
theorem bu154 : BuF Tryz.prog 154 [(0, 2), (2, 1)] [.nilsl, .nilsl, .nilsl] := fun parts => opBuild_struct (fs := Tryz.prog.fieldsOf 154) (z := (.agg #[(.slice none 0 0), (.slice none 0 0), (.slice none 0 0)])) (pl := [(0, 2), (2, 1)]) (by kernel_rfl) (by kernel_rfl) (by kernel_rfl) (by kernel_rfl) (by kernel_rfl)
attribute [simp] bu154
theorem bs143x1 : BsF Tryz.prog 143 1 3 [.nilsl, .nilsl, .nilsl] := fun nx parts => opBuildSlice_eq (el := 154) (sz := 3) (z := (.agg #[(.slice none 0 0), (.slice none 0 0), (.slice none 0 0)])) (by kernel_rfl) (by kernel_rfl) (by kernel_rfl) (by kernel_rfl) rfl (by decide) (by decide)
attribute [simp] bs143x1
theorem ln37 : LnV Tryz.prog 37 := fun cs len cap => opLen_vsl (el := 45) (by kernel_rfl) cs len cap
theorem lno37 : LnO Tryz.prog 37 := fun n off len cap z => opLen_osl (el := 45) (by kernel_rfl) n off len cap z
theorem lnn37 : LnN Tryz.prog 37 := opLen_nilsl (el := 45) (by kernel_rfl)
attribute [simp] ln37
attribute [simp] lno37
attribute [simp] lnn37
theorem fa25x0 : FaP Tryz.prog 25 0 0 := fun n off => opFieldAddr_ptr (k := 0) (by kernel_rfl)
theorem fai25x0 : FaI Tryz.prog 25 0 0 := fun cs off => opFieldAddr_iptr (k := 0) (by kernel_rfl)
attribute [simp] fa25x0
attribute [simp] fai25x0
theorem ld22 : Ld1 Tryz.prog 22 := fun h n off => opLoad_ptr1 (by kernel_rfl) (by kernel_rfl) (by kernel_rfl)
theorem ldi22 : Ldi1 Tryz.prog 22 := fun h cs off => opLoad_iptr1 (by kernel_rfl) (by kernel_rfl) (by kernel_rfl)
attribute [simp] ld22
attribute [simp] ldi22
theorem ln22 : LnV Tryz.prog 22 := fun cs len cap => opLen_vsl (el := 157) (by kernel_rfl) cs len cap
theorem lno22 : LnO Tryz.prog 22 := fun n off len cap z => opLen_osl (el := 157) (by kernel_rfl) n off len cap z
theorem lnn22 : LnN Tryz.prog 22 := opLen_nilsl (el := 157) (by kernel_rfl)
attribute [simp] ln22
attribute [simp] lno22
attribute [simp] lnn22
theorem ln23 : LnV Tryz.prog 23 := fun cs len cap => opLen_vsl (el := 81) (by kernel_rfl) cs len cap
theorem lno23 : LnO Tryz.prog 23 := fun n off len cap z => opLen_osl (el := 81) (by kernel_rfl) n off len cap z
theorem lnn23 : LnN Tryz.prog 23 := opLen_nilsl (el := 81) (by kernel_rfl)
attribute [simp] ln23
attribute [simp] lno23
attribute [simp] lnn23
theorem ix22 : IxV Tryz.prog 22 4 := fun cs len cap kk k => opIndexAddr_vsl (el := 157) (sz := 4) (by kernel_rfl) (by kernel_rfl) (by kernel_rfl) cs len cap kk k
theorem ixo22 : IxO Tryz.prog 22 4 := fun n off len cap z kk k => opIndexAddr_osl (el := 157) (sz := 4) (by kernel_rfl) (by kernel_rfl) (by kernel_rfl) n off len cap z kk k
attribute [simp] ix22
attribute [simp] ixo22
theorem fa157x3 : FaP Tryz.prog 157 3 3 := fun n off => opFieldAddr_ptr (k := 3) (by kernel_rfl)
theorem fai157x3 : FaI Tryz.prog 157 3 3 := fun cs off => opFieldAddr_iptr (k := 3) (by kernel_rfl)
attribute [simp] fa157x3
attribute [simp] fai157x3
theorem ld155 : Ld1 Tryz.prog 155 := fun h n off => opLoad_ptr1 (by kernel_rfl) (by kernel_rfl) (by kernel_rfl)
theorem ldi155 : Ldi1 Tryz.prog 155 := fun h cs off => opLoad_iptr1 (by kernel_rfl) (by kernel_rfl) (by kernel_rfl)
attribute [simp] ld155
attribute [simp] ldi155
theorem ln155 : LnV Tryz.prog 155 := fun cs len cap => opLen_vsl (el := 160) (by kernel_rfl) cs len cap
theorem lno155 : LnO Tryz.prog 155 := fun n off len cap z => opLen_osl (el := 160) (by kernel_rfl) n off len cap z
theorem lnn155 : LnN Tryz.prog 155 := opLen_nilsl (el := 160) (by kernel_rfl)
attribute [simp] ln155
attribute [simp] lno155
attribute [simp] lnn155
theorem fa157x0 : FaP Tryz.prog 157 0 0 := fun n off => opFieldAddr_ptr (k := 0) (by kernel_rfl)
theorem fai157x0 : FaI Tryz.prog 157 0 0 := fun cs off => opFieldAddr_iptr (k := 0) (by kernel_rfl)
attribute [simp] fa157x0
attribute [simp] fai157x0
theorem ld9 : Ld1 Tryz.prog 9 := fun h n off => opLoad_ptr1 (by kernel_rfl) (by kernel_rfl) (by kernel_rfl)
theorem ldi9 : Ldi1 Tryz.prog 9 := fun h cs off => opLoad_iptr1 (by kernel_rfl) (by kernel_rfl) (by kernel_rfl)
attribute [simp] ld9
attribute [simp] ldi9
theorem ln9 : LnS Tryz.prog 9 := fun s => opLen_str (by kernel_rfl) s
attribute [simp] ln9
theorem ix155 : IxV Tryz.prog 155 4 := fun cs len cap kk k => opIndexAddr_vsl (el := 160) (sz := 4) (by kernel_rfl) (by kernel_rfl) (by kernel_rfl) cs len cap kk k
theorem ixo155 : IxO Tryz.prog 155 4 := fun n off len cap z kk k => opIndexAddr_osl (el := 160) (sz := 4) (by kernel_rfl) (by kernel_rfl) (by kernel_rfl) n off len cap z kk k
attribute [simp] ix155
attribute [simp] ixo155
theorem ld160 : LdA Tryz.prog 160 4 := fun h n off => opLoad_ptrA (sz := 4) (by kernel_rfl) (by kernel_rfl) (by kernel_rfl) (by kernel_rfl)
theorem ldi160 : LdiA Tryz.prog 160 4 := fun h cs off => opLoad_iptrA (sz := 4) (by kernel_rfl) (by kernel_rfl) (by kernel_rfl) (by kernel_rfl)
attribute [simp] ld160
attribute [simp] ldi160
theorem al160 : AlF Tryz.prog 160 [.str ⟨#[]⟩, .int .i64 0, .int .i64 0, .nilsl] := fun nx => opAlloc_eq (z := (.agg #[(.string ⟨#[]⟩), (.int .i64 0), (.int .i64 0), (.slice none 0 0)])) (by kernel_rfl) (by kernel_rfl)
attribute [simp] al160
theorem st160 : StF Tryz.prog 160 4 := fun h n off y => opStore_eq (sz := 4) (by kernel_rfl) (by kernel_rfl)
attribute [simp] st160
theorem fa160x0 : FaP Tryz.prog 160 0 0 := fun n off => opFieldAddr_ptr (k := 0) (by kernel_rfl)
theorem fai160x0 : FaI Tryz.prog 160 0 0 := fun cs off => opFieldAddr_iptr (k := 0) (by kernel_rfl)
attribute [simp] fa160x0
attribute [simp] fai160x0
theorem fa160x3 : FaP Tryz.prog 160 3 3 := fun n off => opFieldAddr_ptr (k := 3) (by kernel_rfl)
theorem fai160x3 : FaI Tryz.prog 160 3 3 := fun cs off => opFieldAddr_iptr (k := 3) (by kernel_rfl)
attribute [simp] fa160x3
attribute [simp] fai160x3
theorem ld158 : Ld1 Tryz.prog 158 := fun h n off => opLoad_ptr1 (by kernel_rfl) (by kernel_rfl) (by kernel_rfl)
theorem ldi158 : Ldi1 Tryz.prog 158 := fun h cs off => opLoad_iptr1 (by kernel_rfl) (by kernel_rfl) (by kernel_rfl)
attribute [simp] ld158
attribute [simp] ldi158
theorem ln158 : LnV Tryz.prog 158 := fun cs len cap => opLen_vsl (el := 9) (by kernel_rfl) cs len cap
theorem lno158 : LnO Tryz.prog 158 := fun n off len cap z => opLen_osl (el := 9) (by kernel_rfl) n off len cap z
theorem lnn158 : LnN Tryz.prog 158 := opLen_nilsl (el := 9) (by kernel_rfl)
attribute [simp] ln158
attribute [simp] lno158
attribute [simp] lnn158
theorem ix158 : IxV Tryz.prog 158 1 := fun cs len cap kk k => opIndexAddr_vsl (el := 9) (sz := 1) (by kernel_rfl) (by kernel_rfl) (by kernel_rfl) cs len cap kk k
theorem ixo158 : IxO Tryz.prog 158 1 := fun n off len cap z kk k => opIndexAddr_osl (el := 9) (sz := 1) (by kernel_rfl) (by kernel_rfl) (by kernel_rfl) n off len cap z kk k
attribute [simp] ix158
attribute [simp] ixo158
theorem fa81x0 : FaP Tryz.prog 81 0 0 := fun n off => opFieldAddr_ptr (k := 0) (by kernel_rfl)
theorem fai81x0 : FaI Tryz.prog 81 0 0 := fun cs off => opFieldAddr_iptr (k := 0) (by kernel_rfl)
attribute [simp] fa81x0
attribute [simp] fai81x0
theorem fa33x1 : FaP Tryz.prog 33 1 2 := fun n off => opFieldAddr_ptr (k := 2) (by kernel_rfl)
theorem fai33x1 : FaI Tryz.prog 33 1 2 := fun cs off => opFieldAddr_iptr (k := 2) (by kernel_rfl)
attribute [simp] fa33x1
attribute [simp] fai33x1
theorem ld30 : Ld1 Tryz.prog 30 := fun h n off => opLoad_ptr1 (by kernel_rfl) (by kernel_rfl) (by kernel_rfl)
theorem ldi30 : Ldi1 Tryz.prog 30 := fun h cs off => opLoad_iptr1 (by kernel_rfl) (by kernel_rfl) (by kernel_rfl)
attribute [simp] ld30
attribute [simp] ldi30
theorem ln30 : LnV Tryz.prog 30 := fun cs len cap => opLen_vsl (el := 175) (by kernel_rfl) cs len cap
theorem lno30 : LnO Tryz.prog 30 := fun n off len cap z => opLen_osl (el := 175) (by kernel_rfl) n off len cap z
theorem lnn30 : LnN Tryz.prog 30 := opLen_nilsl (el := 175) (by kernel_rfl)
attribute [simp] ln30
attribute [simp] lno30
attribute [simp] lnn30
theorem fa33x3 : FaP Tryz.prog 33 3 4 := fun n off => opFieldAddr_ptr (k := 4) (by kernel_rfl)
theorem fai33x3 : FaI Tryz.prog 33 3 4 := fun cs off => opFieldAddr_iptr (k := 4) (by kernel_rfl)
attribute [simp] fa33x3
attribute [simp] fai33x3
theorem ld31 : Ld1 Tryz.prog 31 := fun h n off => opLoad_ptr1 (by kernel_rfl) (by kernel_rfl) (by kernel_rfl)
theorem ldi31 : Ldi1 Tryz.prog 31 := fun h cs off => opLoad_iptr1 (by kernel_rfl) (by kernel_rfl) (by kernel_rfl)
attribute [simp] ld31
attribute [simp] ldi31
theorem ln31 : LnV Tryz.prog 31 := fun cs len cap => opLen_vsl (el := 150) (by kernel_rfl) cs len cap
theorem lno31 : LnO Tryz.prog 31 := fun n off len cap z => opLen_osl (el := 150) (by kernel_rfl) n off len cap z
theorem lnn31 : LnN Tryz.prog 31 := opLen_nilsl (el := 150) (by kernel_rfl)
attribute [simp] ln31
attribute [simp] lno31
attribute [simp] lnn31
theorem fa33x2 : FaP Tryz.prog 33 2 3 := fun n off => opFieldAddr_ptr (k := 3) (by kernel_rfl)
theorem fai33x2 : FaI Tryz.prog 33 2 3 := fun cs off => opFieldAddr_iptr (k := 3) (by kernel_rfl)
attribute [simp] fa33x2
attribute [simp] fai33x2
theorem bs30x0 : BsF Tryz.prog 30 0 4 [.int .i64 0, .int .i64 0, .int .i64 0, .int .i64 0] := fun nx parts => opBuildSlice_eq (el := 175) (sz := 4) (z := (.agg #[(.int .i64 0), (.int .i64 0), (.int .i64 0), (.int .i64 0)])) (by kernel_rfl) (by kernel_rfl) (by kernel_rfl) (by kernel_rfl) rfl (by decide) (by decide)
attribute [simp] bs30x0
theorem ap30x30 : ApF Tryz.prog 30 30 4 := fun h nx x y => opAppend_eq (el := 175) (sz := 4) (by kernel_rfl) (by kernel_rfl) (Nat.le_of_ble_eq_true (by kernel_rfl)) (by decide) (by kernel_rfl) (by kernel_rfl)
attribute [simp] ap30x30
theorem bs31x0 : BsF Tryz.prog 31 0 5 [.int .i64 0, .int .i64 0, .int .i64 0, .int .i64 0, .int .i64 0] := fun nx parts => opBuildSlice_eq (el := 150) (sz := 5) (z := (.agg #[(.int .i64 0), (.int .i64 0), (.int .i64 0), (.int .i64 0), (.int .i64 0)])) (by kernel_rfl) (by kernel_rfl) (by kernel_rfl) (by kernel_rfl) rfl (by decide) (by decide)
attribute [simp] bs31x0
theorem ap31x31 : ApF Tryz.prog 31 31 5 := fun h nx x y => opAppend_eq (el := 150) (sz := 5) (by kernel_rfl) (by kernel_rfl) (Nat.le_of_ble_eq_true (by kernel_rfl)) (by decide) (by kernel_rfl) (by kernel_rfl)
attribute [simp] ap31x31
theorem bu33 : BuF Tryz.prog 33 [(0, 2), (2, 1), (3, 1), (4, 1)] [.nilsl, .nilsl, .nilsl, .int .i64 0, .nilsl] := fun parts => opBuild_struct (fs := Tryz.prog.fieldsOf 33) (z := (.agg #[(.slice none 0 0), (.slice none 0 0), (.slice none 0 0), (.int .i64 0), (.slice none 0 0)])) (pl := [(0, 2), (2, 1), (3, 1), (4, 1)]) (by kernel_rfl) (by kernel_rfl) (by kernel_rfl) (by kernel_rfl) (by kernel_rfl)
attribute [simp] bu33
theorem mk173 : MkF Tryz.prog 173 1 [.bool false] := fun nx k l k' c => opMakeSlice_eq (el := 4) (sz := 1) (z := (.bool false)) (by kernel_rfl) (by kernel_rfl) (by kernel_rfl) (by kernel_rfl) rfl (Nat.le_of_ble_eq_true (by kernel_rfl))
attribute [simp] mk173
theorem ix30 : IxV Tryz.prog 30 4 := fun cs len cap kk k => opIndexAddr_vsl (el := 175) (sz := 4) (by kernel_rfl) (by kernel_rfl) (by kernel_rfl) cs len cap kk k
theorem ixo30 : IxO Tryz.prog 30 4 := fun n off len cap z kk k => opIndexAddr_osl (el := 175) (sz := 4) (by kernel_rfl) (by kernel_rfl) (by kernel_rfl) n off len cap z kk k
attribute [simp] ix30
attribute [simp] ixo30
theorem ld175 : LdA Tryz.prog 175 4 := fun h n off => opLoad_ptrA (sz := 4) (by kernel_rfl) (by kernel_rfl) (by kernel_rfl) (by kernel_rfl)
theorem ldi175 : LdiA Tryz.prog 175 4 := fun h cs off => opLoad_iptrA (sz := 4) (by kernel_rfl) (by kernel_rfl) (by kernel_rfl) (by kernel_rfl)
attribute [simp] ld175
attribute [simp] ldi175
theorem al175 : AlF Tryz.prog 175 [.int .i64 0, .int .i64 0, .int .i64 0, .int .i64 0] := fun nx => opAlloc_eq (z := (.agg #[(.int .i64 0), (.int .i64 0), (.int .i64 0), (.int .i64 0)])) (by kernel_rfl) (by kernel_rfl)
attribute [simp] al175
theorem st175 : StF Tryz.prog 175 4 := fun h n off y => opStore_eq (sz := 4) (by kernel_rfl) (by kernel_rfl)
attribute [simp] st175
theorem fa175x2 : FaP Tryz.prog 175 2 2 := fun n off => opFieldAddr_ptr (k := 2) (by kernel_rfl)
theorem fai175x2 : FaI Tryz.prog 175 2 2 := fun cs off => opFieldAddr_iptr (k := 2) (by kernel_rfl)
attribute [simp] fa175x2
attribute [simp] fai175x2
theorem fa148x0 : FaP Tryz.prog 148 0 0 := fun n off => opFieldAddr_ptr (k := 0) (by kernel_rfl)
theorem fai148x0 : FaI Tryz.prog 148 0 0 := fun cs off => opFieldAddr_iptr (k := 0) (by kernel_rfl)
attribute [simp] fa148x0
attribute [simp] fai148x0
theorem fa148x1 : FaP Tryz.prog 148 1 1 := fun n off => opFieldAddr_ptr (k := 1) (by kernel_rfl)
theorem fai148x1 : FaI Tryz.prog 148 1 1 := fun cs off => opFieldAddr_iptr (k := 1) (by kernel_rfl)
attribute [simp] fa148x1
attribute [simp] fai148x1
theorem ix173 : IxV Tryz.prog 173 1 := fun cs len cap kk k => opIndexAddr_vsl (el := 4) (sz := 1) (by kernel_rfl) (by kernel_rfl) (by kernel_rfl) cs len cap kk k
theorem ixo173 : IxO Tryz.prog 173 1 := fun n off len cap z kk k => opIndexAddr_osl (el := 4) (sz := 1) (by kernel_rfl) (by kernel_rfl) (by kernel_rfl) n off len cap z kk k
attribute [simp] ix173
attribute [simp] ixo173
theorem st4 : StF Tryz.prog 4 1 := fun h n off y => opStore_eq (sz := 1) (by kernel_rfl) (by kernel_rfl)
attribute [simp] st4
theorem fa175x0 : FaP Tryz.prog 175 0 0 := fun n off => opFieldAddr_ptr (k := 0) (by kernel_rfl)
theorem fai175x0 : FaI Tryz.prog 175 0 0 := fun cs off => opFieldAddr_iptr (k := 0) (by kernel_rfl)
attribute [simp] fa175x0
attribute [simp] fai175x0
theorem fa175x1 : FaP Tryz.prog 175 1 1 := fun n off => opFieldAddr_ptr (k := 1) (by kernel_rfl)
theorem fai175x1 : FaI Tryz.prog 175 1 1 := fun cs off => opFieldAddr_iptr (k := 1) (by kernel_rfl)
attribute [simp] fa175x1
attribute [simp] fai175x1
theorem ix37 : IxV Tryz.prog 37 2 := fun cs len cap kk k => opIndexAddr_vsl (el := 45) (sz := 2) (by kernel_rfl) (by kernel_rfl) (by kernel_rfl) cs len cap kk k
theorem ixo37 : IxO Tryz.prog 37 2 := fun n off len cap z kk k => opIndexAddr_osl (el := 45) (sz := 2) (by kernel_rfl) (by kernel_rfl) (by kernel_rfl) n off len cap z kk k
attribute [simp] ix37
attribute [simp] ixo37
theorem ld45 : LdA Tryz.prog 45 2 := fun h n off => opLoad_ptrA (sz := 2) (by kernel_rfl) (by kernel_rfl) (by kernel_rfl) (by kernel_rfl)
theorem ldi45 : LdiA Tryz.prog 45 2 := fun h cs off => opLoad_iptrA (sz := 2) (by kernel_rfl) (by kernel_rfl) (by kernel_rfl) (by kernel_rfl)
attribute [simp] ld45
attribute [simp] ldi45
theorem bu29 : BuF Tryz.prog 29 [(0, 1), (1, 1)] [.nilsl, .nilsl] := fun parts => opBuild_struct (fs := Tryz.prog.fieldsOf 29) (z := (.agg #[(.slice none 0 0), (.slice none 0 0)])) (pl := [(0, 1), (1, 1)]) (by kernel_rfl) (by kernel_rfl) (by kernel_rfl) (by kernel_rfl) (by kernel_rfl)
attribute [simp] bu29
theorem al4 : AlF Tryz.prog 4 [.bool false] := fun nx => opAlloc_eq (z := (.bool false)) (by kernel_rfl) (by kernel_rfl)
attribute [simp] al4
theorem ld148 : LdA Tryz.prog 148 2 := fun h n off => opLoad_ptrA (sz := 2) (by kernel_rfl) (by kernel_rfl) (by kernel_rfl) (by kernel_rfl)
theorem ldi148 : LdiA Tryz.prog 148 2 := fun h cs off => opLoad_iptrA (sz := 2) (by kernel_rfl) (by kernel_rfl) (by kernel_rfl) (by kernel_rfl)
attribute [simp] ld148
attribute [simp] ldi148
theorem bu175 : BuF Tryz.prog 175 [(0, 1), (1, 1), (2, 2)] [.int .i64 0, .int .i64 0, .int .i64 0, .int .i64 0] := fun parts => opBuild_struct (fs := Tryz.prog.fieldsOf 175) (z := (.agg #[(.int .i64 0), (.int .i64 0), (.int .i64 0), (.int .i64 0)])) (pl := [(0, 1), (1, 1), (2, 2)]) (by kernel_rfl) (by kernel_rfl) (by kernel_rfl) (by kernel_rfl) (by kernel_rfl)
attribute [simp] bu175
theorem bs30x1 : BsF Tryz.prog 30 1 4 [.int .i64 0, .int .i64 0, .int .i64 0, .int .i64 0] := fun nx parts => opBuildSlice_eq (el := 175) (sz := 4) (z := (.agg #[(.int .i64 0), (.int .i64 0), (.int .i64 0), (.int .i64 0)])) (by kernel_rfl) (by kernel_rfl) (by kernel_rfl) (by kernel_rfl) rfl (by decide) (by decide)
attribute [simp] bs30x1
theorem st30 : StF Tryz.prog 30 1 := fun h n off y => opStore_eq (sz := 1) (by kernel_rfl) (by kernel_rfl)
attribute [simp] st30
theorem ix31 : IxV Tryz.prog 31 5 := fun cs len cap kk k => opIndexAddr_vsl (el := 150) (sz := 5) (by kernel_rfl) (by kernel_rfl) (by kernel_rfl) cs len cap kk k
theorem ixo31 : IxO Tryz.prog 31 5 := fun n off len cap z kk k => opIndexAddr_osl (el := 150) (sz := 5) (by kernel_rfl) (by kernel_rfl) (by kernel_rfl) n off len cap z kk k
attribute [simp] ix31
attribute [simp] ixo31
theorem ld150 : LdA Tryz.prog 150 5 := fun h n off => opLoad_ptrA (sz := 5) (by kernel_rfl) (by kernel_rfl) (by kernel_rfl) (by kernel_rfl)
theorem ldi150 : LdiA Tryz.prog 150 5 := fun h cs off => opLoad_iptrA (sz := 5) (by kernel_rfl) (by kernel_rfl) (by kernel_rfl) (by kernel_rfl)
attribute [simp] ld150
attribute [simp] ldi150
theorem al150 : AlF Tryz.prog 150 [.int .i64 0, .int .i64 0, .int .i64 0, .int .i64 0, .int .i64 0] := fun nx => opAlloc_eq (z := (.agg #[(.int .i64 0), (.int .i64 0), (.int .i64 0), (.int .i64 0), (.int .i64 0)])) (by kernel_rfl) (by kernel_rfl)
attribute [simp] al150
theorem st150 : StF Tryz.prog 150 5 := fun h n off y => opStore_eq (sz := 5) (by kernel_rfl) (by kernel_rfl)
attribute [simp] st150
theorem fa150x0 : FaP Tryz.prog 150 0 0 := fun n off => opFieldAddr_ptr (k := 0) (by kernel_rfl)
theorem fai150x0 : FaI Tryz.prog 150 0 0 := fun cs off => opFieldAddr_iptr (k := 0) (by kernel_rfl)
attribute [simp] fa150x0
attribute [simp] fai150x0
theorem fa150x1 : FaP Tryz.prog 150 1 1 := fun n off => opFieldAddr_ptr (k := 1) (by kernel_rfl)
theorem fai150x1 : FaI Tryz.prog 150 1 1 := fun cs off => opFieldAddr_iptr (k := 1) (by kernel_rfl)
attribute [simp] fa150x1
attribute [simp] fai150x1
theorem fa150x2 : FaP Tryz.prog 150 2 3 := fun n off => opFieldAddr_ptr (k := 3) (by kernel_rfl)
theorem fai150x2 : FaI Tryz.prog 150 2 3 := fun cs off => opFieldAddr_iptr (k := 3) (by kernel_rfl)
attribute [simp] fa150x2
attribute [simp] fai150x2
theorem bs31x1 : BsF Tryz.prog 31 1 5 [.int .i64 0, .int .i64 0, .int .i64 0, .int .i64 0, .int .i64 0] := fun nx parts => opBuildSlice_eq (el := 150) (sz := 5) (z := (.agg #[(.int .i64 0), (.int .i64 0), (.int .i64 0), (.int .i64 0), (.int .i64 0)])) (by kernel_rfl) (by kernel_rfl) (by kernel_rfl) (by kernel_rfl) rfl (by decide) (by decide)
attribute [simp] bs31x1
theorem st31 : StF Tryz.prog 31 1 := fun h n off y => opStore_eq (sz := 1) (by kernel_rfl) (by kernel_rfl)
attribute [simp] st31
theorem ld4 : Ld1 Tryz.prog 4 := fun h n off => opLoad_ptr1 (by kernel_rfl) (by kernel_rfl) (by kernel_rfl)
theorem ldi4 : Ldi1 Tryz.prog 4 := fun h cs off => opLoad_iptr1 (by kernel_rfl) (by kernel_rfl) (by kernel_rfl)
attribute [simp] ld4
attribute [simp] ldi4
theorem bs26x0 : BsF Tryz.prog 26 0 1 [.int .i64 0] := fun nx parts => opBuildSlice_eq (el := 3) (sz := 1) (z := (.int .i64 0)) (by kernel_rfl) (by kernel_rfl) (by kernel_rfl) (by kernel_rfl) rfl (by decide) (by decide)
attribute [simp] bs26x0
theorem al148 : AlF Tryz.prog 148 [.int .i64 0, .int .i64 0] := fun nx => opAlloc_eq (z := (.agg #[(.int .i64 0), (.int .i64 0)])) (by kernel_rfl) (by kernel_rfl)
attribute [simp] al148
theorem st148 : StF Tryz.prog 148 2 := fun h n off y => opStore_eq (sz := 2) (by kernel_rfl) (by kernel_rfl)
attribute [simp] st148
theorem sl27 : SlV Tryz.prog 27 3 := fun cs len cap lo hi mx => opSlice_vsl (el := 84) (sz := 3) (by kernel_rfl) (by kernel_rfl) cs len cap lo hi mx
theorem slo27 : SlO Tryz.prog 27 3 := fun n off len cap lo hi mx => opSlice_osl (el := 84) (sz := 3) (by kernel_rfl) (by kernel_rfl) n off len cap lo hi mx
attribute [simp] sl27
attribute [simp] slo27
theorem st27 : StF Tryz.prog 27 1 := fun h n off y => opStore_eq (sz := 1) (by kernel_rfl) (by kernel_rfl)
attribute [simp] st27
theorem bs26x3 : BsF Tryz.prog 26 3 1 [.int .i64 0] := fun nx parts => opBuildSlice_eq (el := 3) (sz := 1) (z := (.int .i64 0)) (by kernel_rfl) (by kernel_rfl) (by kernel_rfl) (by kernel_rfl) rfl (by decide) (by decide)
attribute [simp] bs26x3
theorem bu84 : BuF Tryz.prog 84 [(0, 1), (1, 1), (2, 1)] [.int .i64 0, .int .i64 0, .int .i64 0] := fun parts => opBuild_struct (fs := Tryz.prog.fieldsOf 84) (z := (.agg #[(.int .i64 0), (.int .i64 0), (.int .i64 0)])) (pl := [(0, 1), (1, 1), (2, 1)]) (by kernel_rfl) (by kernel_rfl) (by kernel_rfl) (by kernel_rfl) (by kernel_rfl)
attribute [simp] bu84
theorem bs27x2 : BsF Tryz.prog 27 2 3 [.int .i64 0, .int .i64 0, .int .i64 0] := fun nx parts => opBuildSlice_eq (el := 84) (sz := 3) (z := (.agg #[(.int .i64 0), (.int .i64 0), (.int .i64 0)])) (by kernel_rfl) (by kernel_rfl) (by kernel_rfl) (by kernel_rfl) rfl (by decide) (by decide)
attribute [simp] bs27x2
theorem bs53x3 : BsF Tryz.prog 53 3 1 [.nilsl] := fun nx parts => opBuildSlice_eq (el := 26) (sz := 1) (z := (.slice none 0 0)) (by kernel_rfl) (by kernel_rfl) (by kernel_rfl) (by kernel_rfl) rfl (by decide) (by decide)
attribute [simp] bs53x3
theorem bu55 : BuF Tryz.prog 55 [(0, 2), (2, 1)] [.nilsl, .nilsl, .nilsl] := fun parts => opBuild_struct (fs := Tryz.prog.fieldsOf 55) (z := (.agg #[(.slice none 0 0), (.slice none 0 0), (.slice none 0 0)])) (pl := [(0, 2), (2, 1)]) (by kernel_rfl) (by kernel_rfl) (by kernel_rfl) (by kernel_rfl) (by kernel_rfl)
attribute [simp] bu55
theorem ln60 : LnV Tryz.prog 60 := fun cs len cap => opLen_vsl (el := 65) (by kernel_rfl) cs len cap
theorem lno60 : LnO Tryz.prog 60 := fun n off len cap z => opLen_osl (el := 65) (by kernel_rfl) n off len cap z
theorem lnn60 : LnN Tryz.prog 60 := opLen_nilsl (el := 65) (by kernel_rfl)
attribute [simp] ln60
attribute [simp] lno60
attribute [simp] lnn60
theorem bs60x1 : BsF Tryz.prog 60 1 4 [.int .i64 0, .int .i64 0, .int .i64 0, .bool false] := fun nx parts => opBuildSlice_eq (el := 65) (sz := 4) (z := (.agg #[(.int .i64 0), (.int .i64 0), (.int .i64 0), (.bool false)])) (by kernel_rfl) (by kernel_rfl) (by kernel_rfl) (by kernel_rfl) rfl (by decide) (by decide)
attribute [simp] bs60x1
theorem bs53x1 : BsF Tryz.prog 53 1 1 [.nilsl] := fun nx parts => opBuildSlice_eq (el := 26) (sz := 1) (z := (.slice none 0 0)) (by kernel_rfl) (by kernel_rfl) (by kernel_rfl) (by kernel_rfl) rfl (by decide) (by decide)
attribute [simp] bs53x1
theorem ap53x53 : ApF Tryz.prog 53 53 1 := fun h nx x y => opAppend_eq (el := 26) (sz := 1) (by kernel_rfl) (by kernel_rfl) (Nat.le_of_ble_eq_true (by kernel_rfl)) (by decide) (by kernel_rfl) (by kernel_rfl)
attribute [simp] ap53x53
theorem st53 : StF Tryz.prog 53 1 := fun h n off y => opStore_eq (sz := 1) (by kernel_rfl) (by kernel_rfl)
attribute [simp] st53
theorem ld81 : LdA Tryz.prog 81 7 := fun h n off => opLoad_ptrA (sz := 7) (by kernel_rfl) (by kernel_rfl) (by kernel_rfl) (by kernel_rfl)
theorem ldi81 : LdiA Tryz.prog 81 7 := fun h cs off => opLoad_iptrA (sz := 7) (by kernel_rfl) (by kernel_rfl) (by kernel_rfl) (by kernel_rfl)
attribute [simp] ld81
attribute [simp] ldi81
theorem al81 : AlF Tryz.prog 81 [.str ⟨#[]⟩, .int .i64 0, .int .i64 0, .int .i64 0, .int .i64 0, .int .i64 0, .int .i64 0] := fun nx => opAlloc_eq (z := (.agg #[(.string ⟨#[]⟩), (.int .i64 0), (.int .i64 0), (.int .i64 0), (.int .i64 0), (.int .i64 0), (.int .i64 0)])) (by kernel_rfl) (by kernel_rfl)
attribute [simp] al81
theorem st81 : StF Tryz.prog 81 7 := fun h n off y => opStore_eq (sz := 7) (by kernel_rfl) (by kernel_rfl)
attribute [simp] st81
theorem fa81x1 : FaP Tryz.prog 81 1 1 := fun n off => opFieldAddr_ptr (k := 1) (by kernel_rfl)
theorem fai81x1 : FaI Tryz.prog 81 1 1 := fun cs off => opFieldAddr_iptr (k := 1) (by kernel_rfl)
attribute [simp] fa81x1
attribute [simp] fai81x1
theorem ap60x60 : ApF Tryz.prog 60 60 4 := fun h nx x y => opAppend_eq (el := 65) (sz := 4) (by kernel_rfl) (by kernel_rfl) (Nat.le_of_ble_eq_true (by kernel_rfl)) (by decide) (by kernel_rfl) (by kernel_rfl)
attribute [simp] ap60x60
theorem fa81x2 : FaP Tryz.prog 81 2 2 := fun n off => opFieldAddr_ptr (k := 2) (by kernel_rfl)
theorem fai81x2 : FaI Tryz.prog 81 2 2 := fun cs off => opFieldAddr_iptr (k := 2) (by kernel_rfl)
attribute [simp] fa81x2
attribute [simp] fai81x2
theorem ix60 : IxV Tryz.prog 60 4 := fun cs len cap kk k => opIndexAddr_vsl (el := 65) (sz := 4) (by kernel_rfl) (by kernel_rfl) (by kernel_rfl) cs len cap kk k
theorem ixo60 : IxO Tryz.prog 60 4 := fun n off len cap z kk k => opIndexAddr_osl (el := 65) (sz := 4) (by kernel_rfl) (by kernel_rfl) (by kernel_rfl) n off len cap z kk k
attribute [simp] ix60
attribute [simp] ixo60
theorem ld65 : LdA Tryz.prog 65 4 := fun h n off => opLoad_ptrA (sz := 4) (by kernel_rfl) (by kernel_rfl) (by kernel_rfl) (by kernel_rfl)
theorem ldi65 : LdiA Tryz.prog 65 4 := fun h cs off => opLoad_iptrA (sz := 4) (by kernel_rfl) (by kernel_rfl) (by kernel_rfl) (by kernel_rfl)
attribute [simp] ld65
attribute [simp] ldi65
theorem bu200 : BuF Tryz.prog 200 [(0, 3), (3, 1), (4, 1), (5, 1), (6, 1), (7, 1)] [.nilsl, .nilsl, .nilsl, .nilsl, .nilsl, .nilsl, .nilsl, .bool false] := fun parts => opBuild_struct (fs := Tryz.prog.fieldsOf 200) (z := (.agg #[(.slice none 0 0), (.slice none 0 0), (.slice none 0 0), (.slice none 0 0), (.slice none 0 0), (.slice none 0 0), (.slice none 0 0), (.bool false)])) (pl := [(0, 3), (3, 1), (4, 1), (5, 1), (6, 1), (7, 1)]) (by kernel_rfl) (by kernel_rfl) (by kernel_rfl) (by kernel_rfl) (by kernel_rfl)
attribute [simp] bu200
theorem fa200x3 : FaP Tryz.prog 200 3 5 := fun n off => opFieldAddr_ptr (k := 5) (by kernel_rfl)
theorem fai200x3 : FaI Tryz.prog 200 3 5 := fun cs off => opFieldAddr_iptr (k := 5) (by kernel_rfl)
attribute [simp] fa200x3
attribute [simp] fai200x3
theorem mk26 : MkF Tryz.prog 26 1 [.int .i64 0] := fun nx k l k' c => opMakeSlice_eq (el := 3) (sz := 1) (z := (.int .i64 0)) (by kernel_rfl) (by kernel_rfl) (by kernel_rfl) (by kernel_rfl) rfl (Nat.le_of_ble_eq_true (by kernel_rfl))
attribute [simp] mk26
theorem st26 : StF Tryz.prog 26 1 := fun h n off y => opStore_eq (sz := 1) (by kernel_rfl) (by kernel_rfl)
attribute [simp] st26
theorem fa68x1 : FaP Tryz.prog 68 1 1 := fun n off => opFieldAddr_ptr (k := 1) (by kernel_rfl)
theorem fai68x1 : FaI Tryz.prog 68 1 1 := fun cs off => opFieldAddr_iptr (k := 1) (by kernel_rfl)
attribute [simp] fa68x1
attribute [simp] fai68x1
theorem bs27x1 : BsF Tryz.prog 27 1 3 [.int .i64 0, .int .i64 0, .int .i64 0] := fun nx parts => opBuildSlice_eq (el := 84) (sz := 3) (z := (.agg #[(.int .i64 0), (.int .i64 0), (.int .i64 0)])) (by kernel_rfl) (by kernel_rfl) (by kernel_rfl) (by kernel_rfl) rfl (by decide) (by decide)
attribute [simp] bs27x1
theorem ap27x27 : ApF Tryz.prog 27 27 3 := fun h nx x y => opAppend_eq (el := 84) (sz := 3) (by kernel_rfl) (by kernel_rfl) (Nat.le_of_ble_eq_true (by kernel_rfl)) (by decide) (by kernel_rfl) (by kernel_rfl)
attribute [simp] ap27x27
theorem sl26 : SlV Tryz.prog 26 1 := fun cs len cap lo hi mx => opSlice_vsl (el := 3) (sz := 1) (by kernel_rfl) (by kernel_rfl) cs len cap lo hi mx
theorem slo26 : SlO Tryz.prog 26 1 := fun n off len cap lo hi mx => opSlice_osl (el := 3) (sz := 1) (by kernel_rfl) (by kernel_rfl) n off len cap lo hi mx
attribute [simp] sl26
attribute [simp] slo26
theorem bu160 : BuF Tryz.prog 160 [(0, 1), (1, 1), (2, 1), (3, 1)] [.str ⟨#[]⟩, .int .i64 0, .int .i64 0, .nilsl] := fun parts => opBuild_struct (fs := Tryz.prog.fieldsOf 160) (z := (.agg #[(.string ⟨#[]⟩), (.int .i64 0), (.int .i64 0), (.slice none 0 0)])) (pl := [(0, 1), (1, 1), (2, 1), (3, 1)]) (by kernel_rfl) (by kernel_rfl) (by kernel_rfl) (by kernel_rfl) (by kernel_rfl)
attribute [simp] bu160
theorem bs155x1 : BsF Tryz.prog 155 1 4 [.str ⟨#[]⟩, .int .i64 0, .int .i64 0, .nilsl] := fun nx parts => opBuildSlice_eq (el := 160) (sz := 4) (z := (.agg #[(.string ⟨#[]⟩), (.int .i64 0), (.int .i64 0), (.slice none 0 0)])) (by kernel_rfl) (by kernel_rfl) (by kernel_rfl) (by kernel_rfl) rfl (by decide) (by decide)
attribute [simp] bs155x1
theorem bu157 : BuF Tryz.prog 157 [(0, 1), (1, 1), (2, 1), (3, 1)] [.str ⟨#[]⟩, .int .i64 0, .bool false, .nilsl] := fun parts => opBuild_struct (fs := Tryz.prog.fieldsOf 157) (z := (.agg #[(.string ⟨#[]⟩), (.int .i64 0), (.bool false), (.slice none 0 0)])) (pl := [(0, 1), (1, 1), (2, 1), (3, 1)]) (by kernel_rfl) (by kernel_rfl) (by kernel_rfl) (by kernel_rfl) (by kernel_rfl)
attribute [simp] bu157
theorem bs158x2 : BsF Tryz.prog 158 2 1 [.str ⟨#[]⟩] := fun nx parts => opBuildSlice_eq (el := 9) (sz := 1) (z := (.string ⟨#[]⟩)) (by kernel_rfl) (by kernel_rfl) (by kernel_rfl) (by kernel_rfl) rfl (by decide) (by decide)
attribute [simp] bs158x2
theorem bs22x4 : BsF Tryz.prog 22 4 4 [.str ⟨#[]⟩, .int .i64 0, .bool false, .nilsl] := fun nx parts => opBuildSlice_eq (el := 157) (sz := 4) (z := (.agg #[(.string ⟨#[]⟩), (.int .i64 0), (.bool false), (.slice none 0 0)])) (by kernel_rfl) (by kernel_rfl) (by kernel_rfl) (by kernel_rfl) rfl (by decide) (by decide)
attribute [simp] bs22x4
theorem bu81 : BuF Tryz.prog 81 [(0, 1), (1, 1), (2, 1), (3, 1), (4, 1), (5, 1), (6, 1)] [.str ⟨#[]⟩, .int .i64 0, .int .i64 0, .int .i64 0, .int .i64 0, .int .i64 0, .int .i64 0] := fun parts => opBuild_struct (fs := Tryz.prog.fieldsOf 81) (z := (.agg #[(.string ⟨#[]⟩), (.int .i64 0), (.int .i64 0), (.int .i64 0), (.int .i64 0), (.int .i64 0), (.int .i64 0)])) (pl := [(0, 1), (1, 1), (2, 1), (3, 1), (4, 1), (5, 1), (6, 1)]) (by kernel_rfl) (by kernel_rfl) (by kernel_rfl) (by kernel_rfl) (by kernel_rfl)
attribute [simp] bu81
theorem bs23x2 : BsF Tryz.prog 23 2 7 [.str ⟨#[]⟩, .int .i64 0, .int .i64 0, .int .i64 0, .int .i64 0, .int .i64 0, .int .i64 0] := fun nx parts => opBuildSlice_eq (el := 81) (sz := 7) (z := (.agg #[(.string ⟨#[]⟩), (.int .i64 0), (.int .i64 0), (.int .i64 0), (.int .i64 0), (.int .i64 0), (.int .i64 0)])) (by kernel_rfl) (by kernel_rfl) (by kernel_rfl) (by kernel_rfl) rfl (by decide) (by decide)
attribute [simp] bs23x2
theorem bu25 : BuF Tryz.prog 25 [(0, 1), (1, 1)] [.nilsl, .nilsl] := fun parts => opBuild_struct (fs := Tryz.prog.fieldsOf 25) (z := (.agg #[(.slice none 0 0), (.slice none 0 0)])) (pl := [(0, 1), (1, 1)]) (by kernel_rfl) (by kernel_rfl) (by kernel_rfl) (by kernel_rfl) (by kernel_rfl)
attribute [simp] bu25
theorem ix73 : IxV Tryz.prog 73 2 := fun cs len cap kk k => opIndexAddr_vsl (el := 207) (sz := 2) (by kernel_rfl) (by kernel_rfl) (by kernel_rfl) cs len cap kk k
theorem ixo73 : IxO Tryz.prog 73 2 := fun n off len cap z kk k => opIndexAddr_osl (el := 207) (sz := 2) (by kernel_rfl) (by kernel_rfl) (by kernel_rfl) n off len cap z kk k
attribute [simp] ix73
attribute [simp] ixo73
theorem ix207 : IxA Tryz.prog 207 2 1 := fun n off kk k => opIndexAddr_arr (m := 2) (el := 5) (sz := 1) (by kernel_rfl) (by kernel_rfl) (by kernel_rfl) n off kk k
theorem ixo207 : IxB Tryz.prog 207 2 1 := fun cs off kk k => opIndexAddr_arri (m := 2) (el := 5) (sz := 1) (by kernel_rfl) (by kernel_rfl) (by kernel_rfl) cs off kk k
attribute [simp] ix207
attribute [simp] ixo207
theorem fa160x1 : FaP Tryz.prog 160 1 1 := fun n off => opFieldAddr_ptr (k := 1) (by kernel_rfl)
theorem fai160x1 : FaI Tryz.prog 160 1 1 := fun cs off => opFieldAddr_iptr (k := 1) (by kernel_rfl)
attribute [simp] fa160x1
attribute [simp] fai160x1
theorem fa160x2 : FaP Tryz.prog 160 2 2 := fun n off => opFieldAddr_ptr (k := 2) (by kernel_rfl)
theorem fai160x2 : FaI Tryz.prog 160 2 2 := fun cs off => opFieldAddr_iptr (k := 2) (by kernel_rfl)
attribute [simp] fa160x2
attribute [simp] fai160x2
theorem ix74 : IxV Tryz.prog 74 3 := fun cs len cap kk k => opIndexAddr_vsl (el := 210) (sz := 3) (by kernel_rfl) (by kernel_rfl) (by kernel_rfl) cs len cap kk k
theorem ixo74 : IxO Tryz.prog 74 3 := fun n off len cap z kk k => opIndexAddr_osl (el := 210) (sz := 3) (by kernel_rfl) (by kernel_rfl) (by kernel_rfl) n off len cap z kk k
attribute [simp] ix74
attribute [simp] ixo74
theorem ix210 : IxA Tryz.prog 210 3 1 := fun n off kk k => opIndexAddr_arr (m := 3) (el := 5) (sz := 1) (by kernel_rfl) (by kernel_rfl) (by kernel_rfl) n off kk k
theorem ixo210 : IxB Tryz.prog 210 3 1 := fun cs off kk k => opIndexAddr_arri (m := 3) (el := 5) (sz := 1) (by kernel_rfl) (by kernel_rfl) (by kernel_rfl) cs off kk k
attribute [simp] ix210
attribute [simp] ixo210
theorem al108 : AlF Tryz.prog 108 [.nilsl, .nilsl] := fun nx => opAlloc_eq (z := (.agg #[(.slice none 0 0), (.slice none 0 0)])) (by kernel_rfl) (by kernel_rfl)
attribute [simp] al108
theorem fa108x0 : FaP Tryz.prog 108 0 0 := fun n off => opFieldAddr_ptr (k := 0) (by kernel_rfl)
theorem fai108x0 : FaI Tryz.prog 108 0 0 := fun cs off => opFieldAddr_iptr (k := 0) (by kernel_rfl)
attribute [simp] fa108x0
attribute [simp] fai108x0
theorem fa108x1 : FaP Tryz.prog 108 1 1 := fun n off => opFieldAddr_ptr (k := 1) (by kernel_rfl)
theorem fai108x1 : FaI Tryz.prog 108 1 1 := fun cs off => opFieldAddr_iptr (k := 1) (by kernel_rfl)
attribute [simp] fa108x1
attribute [simp] fai108x1
theorem bs86x1 : BsF Tryz.prog 86 1 2 [.nilsl, .nilsl] := fun nx parts => opBuildSlice_eq (el := 108) (sz := 2) (z := (.agg #[(.slice none 0 0), (.slice none 0 0)])) (by kernel_rfl) (by kernel_rfl) (by kernel_rfl) (by kernel_rfl) rfl (by decide) (by decide)
attribute [simp] bs86x1
theorem ap86x86 : ApF Tryz.prog 86 86 2 := fun h nx x y => opAppend_eq (el := 108) (sz := 2) (by kernel_rfl) (by kernel_rfl) (Nat.le_of_ble_eq_true (by kernel_rfl)) (by decide) (by kernel_rfl) (by kernel_rfl)
attribute [simp] ap86x86
theorem bu217 : BuF Tryz.prog 217 [(0, 3), (3, 3), (6, 1)] [.nilsl, .nilsl, .nilsl, .nilsl, .nilsl, .nilsl, .nilsl] := fun parts => opBuild_struct (fs := Tryz.prog.fieldsOf 217) (z := (.agg #[(.slice none 0 0), (.slice none 0 0), (.slice none 0 0), (.slice none 0 0), (.slice none 0 0), (.slice none 0 0), (.slice none 0 0)])) (pl := [(0, 3), (3, 3), (6, 1)]) (by kernel_rfl) (by kernel_rfl) (by kernel_rfl) (by kernel_rfl) (by kernel_rfl)
attribute [simp] bu217
theorem fa217x2 : FaP Tryz.prog 217 2 6 := fun n off => opFieldAddr_ptr (k := 6) (by kernel_rfl)
theorem fai217x2 : FaI Tryz.prog 217 2 6 := fun cs off => opFieldAddr_iptr (k := 6) (by kernel_rfl)
attribute [simp] fa217x2
attribute [simp] fai217x2
theorem al29 : AlF Tryz.prog 29 [.nilsl, .nilsl] := fun nx => opAlloc_eq (z := (.agg #[(.slice none 0 0), (.slice none 0 0)])) (by kernel_rfl) (by kernel_rfl)
attribute [simp] al29
theorem st29 : StF Tryz.prog 29 2 := fun h n off y => opStore_eq (sz := 2) (by kernel_rfl) (by kernel_rfl)
attribute [simp] st29
theorem mk53 : MkF Tryz.prog 53 1 [.nilsl] := fun nx k l k' c => opMakeSlice_eq (el := 26) (sz := 1) (z := (.slice none 0 0)) (by kernel_rfl) (by kernel_rfl) (by kernel_rfl) (by kernel_rfl) rfl (Nat.le_of_ble_eq_true (by kernel_rfl))
attribute [simp] mk53
theorem fa116x0 : FaP Tryz.prog 116 0 0 := fun n off => opFieldAddr_ptr (k := 0) (by kernel_rfl)
theorem fai116x0 : FaI Tryz.prog 116 0 0 := fun cs off => opFieldAddr_iptr (k := 0) (by kernel_rfl)
attribute [simp] fa116x0
attribute [simp] fai116x0
theorem fa116x6 : FaP Tryz.prog 116 6 16 := fun n off => opFieldAddr_ptr (k := 16) (by kernel_rfl)
theorem fai116x6 : FaI Tryz.prog 116 6 16 := fun cs off => opFieldAddr_iptr (k := 16) (by kernel_rfl)
attribute [simp] fa116x6
attribute [simp] fai116x6
theorem ld114 : LdA Tryz.prog 114 9 := fun h n off => opLoad_ptrA (sz := 9) (by kernel_rfl) (by kernel_rfl) (by kernel_rfl) (by kernel_rfl)
theorem ldi114 : LdiA Tryz.prog 114 9 := fun h cs off => opLoad_iptrA (sz := 9) (by kernel_rfl) (by kernel_rfl) (by kernel_rfl) (by kernel_rfl)
attribute [simp] ld114
attribute [simp] ldi114
theorem fa116x4 : FaP Tryz.prog 116 4 13 := fun n off => opFieldAddr_ptr (k := 13) (by kernel_rfl)
theorem fai116x4 : FaI Tryz.prog 116 4 13 := fun cs off => opFieldAddr_iptr (k := 13) (by kernel_rfl)
attribute [simp] fa116x4
attribute [simp] fai116x4
theorem bu116 : BuF Tryz.prog 116 [(0, 1), (1, 5), (6, 5), (11, 2), (13, 2), (15, 1), (16, 9)] [.str ⟨#[]⟩, .nilsl, .nilsl, .nilsl, .int .i64 0, .nilsl, .nilsl, .nilsl, .nilsl, .int .i64 0, .nilsl, .nilsl, .nilsl, .nilsl, .nilsl, .bool false, .int .i64 0, .nilsl, .nilsl, .nilsl, .nilsl, .nilsl, .nilsl, .int .i64 0, .nilsl] := fun parts => opBuild_struct (fs := Tryz.prog.fieldsOf 116) (z := (.agg #[(.string ⟨#[]⟩), (.slice none 0 0), (.slice none 0 0), (.slice none 0 0), (.int .i64 0), (.slice none 0 0), (.slice none 0 0), (.slice none 0 0), (.slice none 0 0), (.int .i64 0), (.slice none 0 0), (.slice none 0 0), (.slice none 0 0), (.slice none 0 0), (.slice none 0 0), (.bool false), (.int .i64 0), (.slice none 0 0), (.slice none 0 0), (.slice none 0 0), (.slice none 0 0), (.slice none 0 0), (.slice none 0 0), (.int .i64 0), (.slice none 0 0)])) (pl := [(0, 1), (1, 5), (6, 5), (11, 2), (13, 2), (15, 1), (16, 9)]) (by kernel_rfl) (by kernel_rfl) (by kernel_rfl) (by kernel_rfl) (by kernel_rfl)
attribute [simp] bu116
theorem fa116x3 : FaP Tryz.prog 116 3 11 := fun n off => opFieldAddr_ptr (k := 11) (by kernel_rfl)
theorem fai116x3 : FaI Tryz.prog 116 3 11 := fun cs off => opFieldAddr_iptr (k := 11) (by kernel_rfl)
attribute [simp] fa116x3
attribute [simp] fai116x3
theorem bu108 : BuF Tryz.prog 108 [(0, 1), (1, 1)] [.nilsl, .nilsl] := fun parts => opBuild_struct (fs := Tryz.prog.fieldsOf 108) (z := (.agg #[(.slice none 0 0), (.slice none 0 0)])) (pl := [(0, 1), (1, 1)]) (by kernel_rfl) (by kernel_rfl) (by kernel_rfl) (by kernel_rfl) (by kernel_rfl)
attribute [simp] bu108
theorem st108 : StF Tryz.prog 108 2 := fun h n off y => opStore_eq (sz := 2) (by kernel_rfl) (by kernel_rfl)
attribute [simp] st108
theorem fa116x5 : FaP Tryz.prog 116 5 15 := fun n off => opFieldAddr_ptr (k := 15) (by kernel_rfl)
theorem fai116x5 : FaI Tryz.prog 116 5 15 := fun cs off => opFieldAddr_iptr (k := 15) (by kernel_rfl)
attribute [simp] fa116x5
attribute [simp] fai116x5
theorem ln124 : LnV Tryz.prog 124 := fun cs len cap => opLen_vsl (el := 129) (by kernel_rfl) cs len cap
theorem lno124 : LnO Tryz.prog 124 := fun n off len cap z => opLen_osl (el := 129) (by kernel_rfl) n off len cap z
theorem lnn124 : LnN Tryz.prog 124 := opLen_nilsl (el := 129) (by kernel_rfl)
attribute [simp] ln124
attribute [simp] lno124
attribute [simp] lnn124
theorem ix124 : IxV Tryz.prog 124 2 := fun cs len cap kk k => opIndexAddr_vsl (el := 129) (sz := 2) (by kernel_rfl) (by kernel_rfl) (by kernel_rfl) cs len cap kk k
theorem ixo124 : IxO Tryz.prog 124 2 := fun n off len cap z kk k => opIndexAddr_osl (el := 129) (sz := 2) (by kernel_rfl) (by kernel_rfl) (by kernel_rfl) n off len cap z kk k
attribute [simp] ix124
attribute [simp] ixo124
theorem ld129 : LdA Tryz.prog 129 2 := fun h n off => opLoad_ptrA (sz := 2) (by kernel_rfl) (by kernel_rfl) (by kernel_rfl) (by kernel_rfl)
theorem ldi129 : LdiA Tryz.prog 129 2 := fun h cs off => opLoad_iptrA (sz := 2) (by kernel_rfl) (by kernel_rfl) (by kernel_rfl) (by kernel_rfl)
attribute [simp] ld129
attribute [simp] ldi129
theorem al207 : AlF Tryz.prog 207 [.int .u8 0, .int .u8 0] := fun nx => opAlloc_eq (z := (.agg #[(.int .u8 0), (.int .u8 0)])) (by kernel_rfl) (by kernel_rfl)
attribute [simp] al207
theorem st207 : StF Tryz.prog 207 2 := fun h n off y => opStore_eq (sz := 2) (by kernel_rfl) (by kernel_rfl)
attribute [simp] st207
theorem ld207 : LdA Tryz.prog 207 2 := fun h n off => opLoad_ptrA (sz := 2) (by kernel_rfl) (by kernel_rfl) (by kernel_rfl) (by kernel_rfl)
theorem ldi207 : LdiA Tryz.prog 207 2 := fun h cs off => opLoad_iptrA (sz := 2) (by kernel_rfl) (by kernel_rfl) (by kernel_rfl) (by kernel_rfl)
attribute [simp] ld207
attribute [simp] ldi207
theorem sl9 : SlS Tryz.prog 9 := fun s lo hi => opSlice_str (by kernel_rfl) s lo hi
attribute [simp] sl9
theorem al157 : AlF Tryz.prog 157 [.str ⟨#[]⟩, .int .i64 0, .bool false, .nilsl] := fun nx => opAlloc_eq (z := (.agg #[(.string ⟨#[]⟩), (.int .i64 0), (.bool false), (.slice none 0 0)])) (by kernel_rfl) (by kernel_rfl)
attribute [simp] al157
theorem st157 : StF Tryz.prog 157 4 := fun h n off y => opStore_eq (sz := 4) (by kernel_rfl) (by kernel_rfl)
attribute [simp] st157
theorem st155 : StF Tryz.prog 155 1 := fun h n off y => opStore_eq (sz := 1) (by kernel_rfl) (by kernel_rfl)
attribute [simp] st155
theorem ld157 : LdA Tryz.prog 157 4 := fun h n off => opLoad_ptrA (sz := 4) (by kernel_rfl) (by kernel_rfl) (by kernel_rfl) (by kernel_rfl)
theorem ldi157 : LdiA Tryz.prog 157 4 := fun h cs off => opLoad_iptrA (sz := 4) (by kernel_rfl) (by kernel_rfl) (by kernel_rfl) (by kernel_rfl)
attribute [simp] ld157
attribute [simp] ldi157
theorem bs22x1 : BsF Tryz.prog 22 1 4 [.str ⟨#[]⟩, .int .i64 0, .bool false, .nilsl] := fun nx parts => opBuildSlice_eq (el := 157) (sz := 4) (z := (.agg #[(.string ⟨#[]⟩), (.int .i64 0), (.bool false), (.slice none 0 0)])) (by kernel_rfl) (by kernel_rfl) (by kernel_rfl) (by kernel_rfl) rfl (by decide) (by decide)
attribute [simp] bs22x1
theorem ap22x22 : ApF Tryz.prog 22 22 4 := fun h nx x y => opAppend_eq (el := 157) (sz := 4) (by kernel_rfl) (by kernel_rfl) (Nat.le_of_ble_eq_true (by kernel_rfl)) (by decide) (by kernel_rfl) (by kernel_rfl)
attribute [simp] ap22x22
theorem st22 : StF Tryz.prog 22 1 := fun h n off y => opStore_eq (sz := 1) (by kernel_rfl) (by kernel_rfl)
attribute [simp] st22
theorem bs23x1 : BsF Tryz.prog 23 1 7 [.str ⟨#[]⟩, .int .i64 0, .int .i64 0, .int .i64 0, .int .i64 0, .int .i64 0, .int .i64 0] := fun nx parts => opBuildSlice_eq (el := 81) (sz := 7) (z := (.agg #[(.string ⟨#[]⟩), (.int .i64 0), (.int .i64 0), (.int .i64 0), (.int .i64 0), (.int .i64 0), (.int .i64 0)])) (by kernel_rfl) (by kernel_rfl) (by kernel_rfl) (by kernel_rfl) rfl (by decide) (by decide)
attribute [simp] bs23x1
theorem ap23x23 : ApF Tryz.prog 23 23 7 := fun h nx x y => opAppend_eq (el := 81) (sz := 7) (by kernel_rfl) (by kernel_rfl) (Nat.le_of_ble_eq_true (by kernel_rfl)) (by decide) (by kernel_rfl) (by kernel_rfl)
attribute [simp] ap23x23
theorem st23 : StF Tryz.prog 23 1 := fun h n off y => opStore_eq (sz := 1) (by kernel_rfl) (by kernel_rfl)
attribute [simp] st23
theorem fa137x0 : FaP Tryz.prog 137 0 0 := fun n off => opFieldAddr_ptr (k := 0) (by kernel_rfl)
theorem fai137x0 : FaI Tryz.prog 137 0 0 := fun cs off => opFieldAddr_iptr (k := 0) (by kernel_rfl)
attribute [simp] fa137x0
attribute [simp] fai137x0
theorem ld134 : LdA Tryz.prog 134 4 := fun h n off => opLoad_ptrA (sz := 4) (by kernel_rfl) (by kernel_rfl) (by kernel_rfl) (by kernel_rfl)
theorem ldi134 : LdiA Tryz.prog 134 4 := fun h cs off => opLoad_iptrA (sz := 4) (by kernel_rfl) (by kernel_rfl) (by kernel_rfl) (by kernel_rfl)
attribute [simp] ld134
attribute [simp] ldi134
theorem fa137x6 : FaP Tryz.prog 137 6 9 := fun n off => opFieldAddr_ptr (k := 9) (by kernel_rfl)
theorem fai137x6 : FaI Tryz.prog 137 6 9 := fun cs off => opFieldAddr_iptr (k := 9) (by kernel_rfl)
attribute [simp] fa137x6
attribute [simp] fai137x6
theorem fa137x1 : FaP Tryz.prog 137 1 4 := fun n off => opFieldAddr_ptr (k := 4) (by kernel_rfl)
theorem fai137x1 : FaI Tryz.prog 137 1 4 := fun cs off => opFieldAddr_iptr (k := 4) (by kernel_rfl)
attribute [simp] fa137x1
attribute [simp] fai137x1
theorem ld135 : Ld1 Tryz.prog 135 := fun h n off => opLoad_ptr1 (by kernel_rfl) (by kernel_rfl) (by kernel_rfl)
theorem ldi135 : Ldi1 Tryz.prog 135 := fun h cs off => opLoad_iptr1 (by kernel_rfl) (by kernel_rfl) (by kernel_rfl)
attribute [simp] ld135
attribute [simp] ldi135
theorem fa137x8 : FaP Tryz.prog 137 8 14 := fun n off => opFieldAddr_ptr (k := 14) (by kernel_rfl)
theorem fai137x8 : FaI Tryz.prog 137 8 14 := fun cs off => opFieldAddr_iptr (k := 14) (by kernel_rfl)
attribute [simp] fa137x8
attribute [simp] fai137x8
theorem fa137x4 : FaP Tryz.prog 137 4 7 := fun n off => opFieldAddr_ptr (k := 7) (by kernel_rfl)
theorem fai137x4 : FaI Tryz.prog 137 4 7 := fun cs off => opFieldAddr_iptr (k := 7) (by kernel_rfl)
attribute [simp] fa137x4
attribute [simp] fai137x4
theorem fa137x7 : FaP Tryz.prog 137 7 10 := fun n off => opFieldAddr_ptr (k := 10) (by kernel_rfl)
theorem fai137x7 : FaI Tryz.prog 137 7 10 := fun cs off => opFieldAddr_iptr (k := 10) (by kernel_rfl)
attribute [simp] fa137x7
attribute [simp] fai137x7
theorem ld77 : LdA Tryz.prog 77 4 := fun h n off => opLoad_ptrA (sz := 4) (by kernel_rfl) (by kernel_rfl) (by kernel_rfl) (by kernel_rfl)
theorem ldi77 : LdiA Tryz.prog 77 4 := fun h cs off => opLoad_iptrA (sz := 4) (by kernel_rfl) (by kernel_rfl) (by kernel_rfl) (by kernel_rfl)
attribute [simp] ld77
attribute [simp] ldi77
theorem st114 : StF Tryz.prog 114 9 := fun h n off y => opStore_eq (sz := 9) (by kernel_rfl) (by kernel_rfl)
attribute [simp] st114
theorem fa137x5 : FaP Tryz.prog 137 5 8 := fun n off => opFieldAddr_ptr (k := 8) (by kernel_rfl)
theorem fai137x5 : FaI Tryz.prog 137 5 8 := fun cs off => opFieldAddr_iptr (k := 8) (by kernel_rfl)
attribute [simp] fa137x5
attribute [simp] fai137x5
theorem fa129x0 : FaP Tryz.prog 129 0 0 := fun n off => opFieldAddr_ptr (k := 0) (by kernel_rfl)
theorem fai129x0 : FaI Tryz.prog 129 0 0 := fun cs off => opFieldAddr_iptr (k := 0) (by kernel_rfl)
attribute [simp] fa129x0
attribute [simp] fai129x0
theorem fa129x1 : FaP Tryz.prog 129 1 1 := fun n off => opFieldAddr_ptr (k := 1) (by kernel_rfl)
theorem fai129x1 : FaI Tryz.prog 129 1 1 := fun cs off => opFieldAddr_iptr (k := 1) (by kernel_rfl)
attribute [simp] fa129x1
attribute [simp] fai129x1
theorem al129 : AlF Tryz.prog 129 [.int .i64 0, .int .i64 0] := fun nx => opAlloc_eq (z := (.agg #[(.int .i64 0), (.int .i64 0)])) (by kernel_rfl) (by kernel_rfl)
attribute [simp] al129
theorem st129 : StF Tryz.prog 129 2 := fun h n off y => opStore_eq (sz := 2) (by kernel_rfl) (by kernel_rfl)
attribute [simp] st129
theorem ln249 : LnV Tryz.prog 249 := fun cs len cap => opLen_vsl (el := 68) (by kernel_rfl) cs len cap
theorem lno249 : LnO Tryz.prog 249 := fun n off len cap z => opLen_osl (el := 68) (by kernel_rfl) n off len cap z
theorem lnn249 : LnN Tryz.prog 249 := opLen_nilsl (el := 68) (by kernel_rfl)
attribute [simp] ln249
attribute [simp] lno249
attribute [simp] lnn249
theorem ix249 : IxV Tryz.prog 249 2 := fun cs len cap kk k => opIndexAddr_vsl (el := 68) (sz := 2) (by kernel_rfl) (by kernel_rfl) (by kernel_rfl) cs len cap kk k
theorem ixo249 : IxO Tryz.prog 249 2 := fun n off len cap z kk k => opIndexAddr_osl (el := 68) (sz := 2) (by kernel_rfl) (by kernel_rfl) (by kernel_rfl) n off len cap z kk k
attribute [simp] ix249
attribute [simp] ixo249
theorem ap143x143 : ApF Tryz.prog 143 143 3 := fun h nx x y => opAppend_eq (el := 154) (sz := 3) (by kernel_rfl) (by kernel_rfl) (Nat.le_of_ble_eq_true (by kernel_rfl)) (by decide) (by kernel_rfl) (by kernel_rfl)
attribute [simp] ap143x143
theorem bs30x2 : BsF Tryz.prog 30 2 4 [.int .i64 0, .int .i64 0, .int .i64 0, .int .i64 0] := fun nx parts => opBuildSlice_eq (el := 175) (sz := 4) (z := (.agg #[(.int .i64 0), (.int .i64 0), (.int .i64 0), (.int .i64 0)])) (by kernel_rfl) (by kernel_rfl) (by kernel_rfl) (by kernel_rfl) rfl (by decide) (by decide)
attribute [simp] bs30x2
theorem ln143 : LnV Tryz.prog 143 := fun cs len cap => opLen_vsl (el := 154) (by kernel_rfl) cs len cap
theorem lno143 : LnO Tryz.prog 143 := fun n off len cap z => opLen_osl (el := 154) (by kernel_rfl) n off len cap z
theorem lnn143 : LnN Tryz.prog 143 := opLen_nilsl (el := 154) (by kernel_rfl)
attribute [simp] ln143
attribute [simp] lno143
attribute [simp] lnn143
theorem ix143 : IxV Tryz.prog 143 3 := fun cs len cap kk k => opIndexAddr_vsl (el := 154) (sz := 3) (by kernel_rfl) (by kernel_rfl) (by kernel_rfl) cs len cap kk k
theorem ixo143 : IxO Tryz.prog 143 3 := fun n off len cap z kk k => opIndexAddr_osl (el := 154) (sz := 3) (by kernel_rfl) (by kernel_rfl) (by kernel_rfl) n off len cap z kk k
attribute [simp] ix143
attribute [simp] ixo143
theorem ld154 : LdA Tryz.prog 154 3 := fun h n off => opLoad_ptrA (sz := 3) (by kernel_rfl) (by kernel_rfl) (by kernel_rfl) (by kernel_rfl)
theorem ldi154 : LdiA Tryz.prog 154 3 := fun h cs off => opLoad_iptrA (sz := 3) (by kernel_rfl) (by kernel_rfl) (by kernel_rfl) (by kernel_rfl)
attribute [simp] ld154
attribute [simp] ldi154
theorem bs260x1 : BsF Tryz.prog 260 1 1 [.nilsl] := fun nx parts => opBuildSlice_eq (el := 258) (sz := 1) (z := (.slice none 0 0)) (by kernel_rfl) (by kernel_rfl) (by kernel_rfl) (by kernel_rfl) rfl (by decide) (by decide)
attribute [simp] bs260x1
theorem ln260 : LnV Tryz.prog 260 := fun cs len cap => opLen_vsl (el := 258) (by kernel_rfl) cs len cap
theorem lno260 : LnO Tryz.prog 260 := fun n off len cap z => opLen_osl (el := 258) (by kernel_rfl) n off len cap z
theorem lnn260 : LnN Tryz.prog 260 := opLen_nilsl (el := 258) (by kernel_rfl)
attribute [simp] ln260
attribute [simp] lno260
attribute [simp] lnn260
theorem ix260 : IxV Tryz.prog 260 1 := fun cs len cap kk k => opIndexAddr_vsl (el := 258) (sz := 1) (by kernel_rfl) (by kernel_rfl) (by kernel_rfl) cs len cap kk k
theorem ixo260 : IxO Tryz.prog 260 1 := fun n off len cap z kk k => opIndexAddr_osl (el := 258) (sz := 1) (by kernel_rfl) (by kernel_rfl) (by kernel_rfl) n off len cap z kk k
attribute [simp] ix260
attribute [simp] ixo260
theorem ld258 : Ld1 Tryz.prog 258 := fun h n off => opLoad_ptr1 (by kernel_rfl) (by kernel_rfl) (by kernel_rfl)
theorem ldi258 : Ldi1 Tryz.prog 258 := fun h cs off => opLoad_iptr1 (by kernel_rfl) (by kernel_rfl) (by kernel_rfl)
attribute [simp] ld258
attribute [simp] ldi258
theorem ap260x260 : ApF Tryz.prog 260 260 1 := fun h nx x y => opAppend_eq (el := 258) (sz := 1) (by kernel_rfl) (by kernel_rfl) (Nat.le_of_ble_eq_true (by kernel_rfl)) (by decide) (by kernel_rfl) (by kernel_rfl)
attribute [simp] ap260x260
theorem ln255 : LnV Tryz.prog 255 := fun cs len cap => opLen_vsl (el := 264) (by kernel_rfl) cs len cap
theorem lno255 : LnO Tryz.prog 255 := fun n off len cap z => opLen_osl (el := 264) (by kernel_rfl) n off len cap z
theorem lnn255 : LnN Tryz.prog 255 := opLen_nilsl (el := 264) (by kernel_rfl)
attribute [simp] ln255
attribute [simp] lno255
attribute [simp] lnn255
theorem ix255 : IxV Tryz.prog 255 5 := fun cs len cap kk k => opIndexAddr_vsl (el := 264) (sz := 5) (by kernel_rfl) (by kernel_rfl) (by kernel_rfl) cs len cap kk k
theorem ixo255 : IxO Tryz.prog 255 5 := fun n off len cap z kk k => opIndexAddr_osl (el := 264) (sz := 5) (by kernel_rfl) (by kernel_rfl) (by kernel_rfl) n off len cap z kk k
attribute [simp] ix255
attribute [simp] ixo255
theorem ld264 : LdA Tryz.prog 264 5 := fun h n off => opLoad_ptrA (sz := 5) (by kernel_rfl) (by kernel_rfl) (by kernel_rfl) (by kernel_rfl)
theorem ldi264 : LdiA Tryz.prog 264 5 := fun h cs off => opLoad_iptrA (sz := 5) (by kernel_rfl) (by kernel_rfl) (by kernel_rfl) (by kernel_rfl)
attribute [simp] ld264
attribute [simp] ldi264
theorem al264 : AlF Tryz.prog 264 [.int .i64 0, .int .i64 0, .int .i64 0, .int .i64 0, .int .i64 0] := fun nx => opAlloc_eq (z := (.agg #[(.int .i64 0), (.int .i64 0), (.int .i64 0), (.int .i64 0), (.int .i64 0)])) (by kernel_rfl) (by kernel_rfl)
attribute [simp] al264
theorem st264 : StF Tryz.prog 264 5 := fun h n off y => opStore_eq (sz := 5) (by kernel_rfl) (by kernel_rfl)
attribute [simp] st264
theorem fa264x1 : FaP Tryz.prog 264 1 2 := fun n off => opFieldAddr_ptr (k := 2) (by kernel_rfl)
theorem fai264x1 : FaI Tryz.prog 264 1 2 := fun cs off => opFieldAddr_iptr (k := 2) (by kernel_rfl)
attribute [simp] fa264x1
attribute [simp] fai264x1
theorem fa264x2 : FaP Tryz.prog 264 2 3 := fun n off => opFieldAddr_ptr (k := 3) (by kernel_rfl)
theorem fai264x2 : FaI Tryz.prog 264 2 3 := fun cs off => opFieldAddr_iptr (k := 3) (by kernel_rfl)
attribute [simp] fa264x2
attribute [simp] fai264x2
theorem ix258 : IxV Tryz.prog 258 1 := fun cs len cap kk k => opIndexAddr_vsl (el := 26) (sz := 1) (by kernel_rfl) (by kernel_rfl) (by kernel_rfl) cs len cap kk k
theorem ixo258 : IxO Tryz.prog 258 1 := fun n off len cap z kk k => opIndexAddr_osl (el := 26) (sz := 1) (by kernel_rfl) (by kernel_rfl) (by kernel_rfl) n off len cap z kk k
attribute [simp] ix258
attribute [simp] ixo258
theorem fa264x3 : FaP Tryz.prog 264 3 4 := fun n off => opFieldAddr_ptr (k := 4) (by kernel_rfl)
theorem fai264x3 : FaI Tryz.prog 264 3 4 := fun cs off => opFieldAddr_iptr (k := 4) (by kernel_rfl)
attribute [simp] fa264x3
attribute [simp] fai264x3
theorem fa264x0 : FaP Tryz.prog 264 0 0 := fun n off => opFieldAddr_ptr (k := 0) (by kernel_rfl)
theorem fai264x0 : FaI Tryz.prog 264 0 0 := fun cs off => opFieldAddr_iptr (k := 0) (by kernel_rfl)
attribute [simp] fa264x0
attribute [simp] fai264x0
theorem bs37x1 : BsF Tryz.prog 37 1 2 [.int .i64 0, .int .i64 0] := fun nx parts => opBuildSlice_eq (el := 45) (sz := 2) (z := (.agg #[(.int .i64 0), (.int .i64 0)])) (by kernel_rfl) (by kernel_rfl) (by kernel_rfl) (by kernel_rfl) rfl (by decide) (by decide)
attribute [simp] bs37x1
theorem ap37x37 : ApF Tryz.prog 37 37 2 := fun h nx x y => opAppend_eq (el := 45) (sz := 2) (by kernel_rfl) (by kernel_rfl) (Nat.le_of_ble_eq_true (by kernel_rfl)) (by decide) (by kernel_rfl) (by kernel_rfl)
attribute [simp] ap37x37
theorem bs31x2 : BsF Tryz.prog 31 2 5 [.int .i64 0, .int .i64 0, .int .i64 0, .int .i64 0, .int .i64 0] := fun nx parts => opBuildSlice_eq (el := 150) (sz := 5) (z := (.agg #[(.int .i64 0), (.int .i64 0), (.int .i64 0), (.int .i64 0), (.int .i64 0)])) (by kernel_rfl) (by kernel_rfl) (by kernel_rfl) (by kernel_rfl) rfl (by decide) (by decide)
attribute [simp] bs31x2
theorem bs27x0 : BsF Tryz.prog 27 0 3 [.int .i64 0, .int .i64 0, .int .i64 0] := fun nx parts => opBuildSlice_eq (el := 84) (sz := 3) (z := (.agg #[(.int .i64 0), (.int .i64 0), (.int .i64 0)])) (by kernel_rfl) (by kernel_rfl) (by kernel_rfl) (by kernel_rfl) rfl (by decide) (by decide)
attribute [simp] bs27x0
theorem bs272x1 : BsF Tryz.prog 272 1 1 [.nilsl] := fun nx parts => opBuildSlice_eq (el := 53) (sz := 1) (z := (.slice none 0 0)) (by kernel_rfl) (by kernel_rfl) (by kernel_rfl) (by kernel_rfl) rfl (by decide) (by decide)
attribute [simp] bs272x1
theorem ln272 : LnV Tryz.prog 272 := fun cs len cap => opLen_vsl (el := 53) (by kernel_rfl) cs len cap
theorem lno272 : LnO Tryz.prog 272 := fun n off len cap z => opLen_osl (el := 53) (by kernel_rfl) n off len cap z
theorem lnn272 : LnN Tryz.prog 272 := opLen_nilsl (el := 53) (by kernel_rfl)
attribute [simp] ln272
attribute [simp] lno272
attribute [simp] lnn272
theorem ix272 : IxV Tryz.prog 272 1 := fun cs len cap kk k => opIndexAddr_vsl (el := 53) (sz := 1) (by kernel_rfl) (by kernel_rfl) (by kernel_rfl) cs len cap kk k
theorem ixo272 : IxO Tryz.prog 272 1 := fun n off len cap z kk k => opIndexAddr_osl (el := 53) (sz := 1) (by kernel_rfl) (by kernel_rfl) (by kernel_rfl) n off len cap z kk k
attribute [simp] ix272
attribute [simp] ixo272
theorem ap272x272 : ApF Tryz.prog 272 272 1 := fun h nx x y => opAppend_eq (el := 53) (sz := 1) (by kernel_rfl) (by kernel_rfl) (Nat.le_of_ble_eq_true (by kernel_rfl)) (by decide) (by kernel_rfl) (by kernel_rfl)
attribute [simp] ap272x272
theorem ln269 : LnV Tryz.prog 269 := fun cs len cap => opLen_vsl (el := 275) (by kernel_rfl) cs len cap
theorem lno269 : LnO Tryz.prog 269 := fun n off len cap z => opLen_osl (el := 275) (by kernel_rfl) n off len cap z
theorem lnn269 : LnN Tryz.prog 269 := opLen_nilsl (el := 275) (by kernel_rfl)
attribute [simp] ln269
attribute [simp] lno269
attribute [simp] lnn269
theorem ix269 : IxV Tryz.prog 269 5 := fun cs len cap kk k => opIndexAddr_vsl (el := 275) (sz := 5) (by kernel_rfl) (by kernel_rfl) (by kernel_rfl) cs len cap kk k
theorem ixo269 : IxO Tryz.prog 269 5 := fun n off len cap z kk k => opIndexAddr_osl (el := 275) (sz := 5) (by kernel_rfl) (by kernel_rfl) (by kernel_rfl) n off len cap z kk k
attribute [simp] ix269
attribute [simp] ixo269
theorem fa275x1 : FaP Tryz.prog 275 1 2 := fun n off => opFieldAddr_ptr (k := 2) (by kernel_rfl)
theorem fai275x1 : FaI Tryz.prog 275 1 2 := fun cs off => opFieldAddr_iptr (k := 2) (by kernel_rfl)
attribute [simp] fa275x1
attribute [simp] fai275x1
theorem fa275x2 : FaP Tryz.prog 275 2 3 := fun n off => opFieldAddr_ptr (k := 3) (by kernel_rfl)
theorem fai275x2 : FaI Tryz.prog 275 2 3 := fun cs off => opFieldAddr_iptr (k := 3) (by kernel_rfl)
attribute [simp] fa275x2
attribute [simp] fai275x2
theorem fa275x3 : FaP Tryz.prog 275 3 4 := fun n off => opFieldAddr_ptr (k := 4) (by kernel_rfl)
theorem fai275x3 : FaI Tryz.prog 275 3 4 := fun cs off => opFieldAddr_iptr (k := 4) (by kernel_rfl)
attribute [simp] fa275x3
attribute [simp] fai275x3
theorem fa275x0 : FaP Tryz.prog 275 0 0 := fun n off => opFieldAddr_ptr (k := 0) (by kernel_rfl)
theorem fai275x0 : FaI Tryz.prog 275 0 0 := fun cs off => opFieldAddr_iptr (k := 0) (by kernel_rfl)
attribute [simp] fa275x0
attribute [simp] fai275x0
theorem fa157x2 : FaP Tryz.prog 157 2 2 := fun n off => opFieldAddr_ptr (k := 2) (by kernel_rfl)
theorem fai157x2 : FaI Tryz.prog 157 2 2 := fun cs off => opFieldAddr_iptr (k := 2) (by kernel_rfl)
attribute [simp] fa157x2
attribute [simp] fai157x2
theorem fa157x1 : FaP Tryz.prog 157 1 1 := fun n off => opFieldAddr_ptr (k := 1) (by kernel_rfl)
theorem fai157x1 : FaI Tryz.prog 157 1 1 := fun cs off => opFieldAddr_iptr (k := 1) (by kernel_rfl)
attribute [simp] fa157x1
attribute [simp] fai157x1
theorem fa200x1 : FaP Tryz.prog 200 1 3 := fun n off => opFieldAddr_ptr (k := 3) (by kernel_rfl)
theorem fai200x1 : FaI Tryz.prog 200 1 3 := fun cs off => opFieldAddr_iptr (k := 3) (by kernel_rfl)
attribute [simp] fa200x1
attribute [simp] fai200x1
theorem fa200x0 : FaP Tryz.prog 200 0 0 := fun n off => opFieldAddr_ptr (k := 0) (by kernel_rfl)
theorem fai200x0 : FaI Tryz.prog 200 0 0 := fun cs off => opFieldAddr_iptr (k := 0) (by kernel_rfl)
attribute [simp] fa200x0
attribute [simp] fai200x0
theorem fa200x5 : FaP Tryz.prog 200 5 7 := fun n off => opFieldAddr_ptr (k := 7) (by kernel_rfl)
theorem fai200x5 : FaI Tryz.prog 200 5 7 := fun cs off => opFieldAddr_iptr (k := 7) (by kernel_rfl)
attribute [simp] fa200x5
attribute [simp] fai200x5
theorem fa200x2 : FaP Tryz.prog 200 2 4 := fun n off => opFieldAddr_ptr (k := 4) (by kernel_rfl)
theorem fai200x2 : FaI Tryz.prog 200 2 4 := fun cs off => opFieldAddr_iptr (k := 4) (by kernel_rfl)
attribute [simp] fa200x2
attribute [simp] fai200x2
theorem fa200x4 : FaP Tryz.prog 200 4 6 := fun n off => opFieldAddr_ptr (k := 6) (by kernel_rfl)
theorem fai200x4 : FaI Tryz.prog 200 4 6 := fun cs off => opFieldAddr_iptr (k := 6) (by kernel_rfl)
attribute [simp] fa200x4
attribute [simp] fai200x4
theorem al288 : AlF Tryz.prog 288 [.nilfn] := fun nx => opAlloc_eq (z := .nilFunc) (by kernel_rfl) (by kernel_rfl)
attribute [simp] al288
theorem st288 : StF Tryz.prog 288 1 := fun h n off y => opStore_eq (sz := 1) (by kernel_rfl) (by kernel_rfl)
attribute [simp] st288
theorem bs158x0 : BsF Tryz.prog 158 0 1 [.str ⟨#[]⟩] := fun nx parts => opBuildSlice_eq (el := 9) (sz := 1) (z := (.string ⟨#[]⟩)) (by kernel_rfl) (by kernel_rfl) (by kernel_rfl) (by kernel_rfl) rfl (by decide) (by decide)
attribute [simp] bs158x0
theorem ap158x158 : ApF Tryz.prog 158 158 1 := fun h nx x y => opAppend_eq (el := 9) (sz := 1) (by kernel_rfl) (by kernel_rfl) (Nat.le_of_ble_eq_true (by kernel_rfl)) (by decide) (by kernel_rfl) (by kernel_rfl)
attribute [simp] ap158x158
theorem st158 : StF Tryz.prog 158 1 := fun h n off y => opStore_eq (sz := 1) (by kernel_rfl) (by kernel_rfl)
attribute [simp] st158
theorem ap155x155 : ApF Tryz.prog 155 155 4 := fun h nx x y => opAppend_eq (el := 160) (sz := 4) (by kernel_rfl) (by kernel_rfl) (Nat.le_of_ble_eq_true (by kernel_rfl)) (by decide) (by kernel_rfl) (by kernel_rfl)
attribute [simp] ap155x155
theorem fa217x0 : FaP Tryz.prog 217 0 0 := fun n off => opFieldAddr_ptr (k := 0) (by kernel_rfl)
theorem fai217x0 : FaI Tryz.prog 217 0 0 := fun cs off => opFieldAddr_iptr (k := 0) (by kernel_rfl)
attribute [simp] fa217x0
attribute [simp] fai217x0
theorem fa217x1 : FaP Tryz.prog 217 1 3 := fun n off => opFieldAddr_ptr (k := 3) (by kernel_rfl)
theorem fai217x1 : FaI Tryz.prog 217 1 3 := fun cs off => opFieldAddr_iptr (k := 3) (by kernel_rfl)
attribute [simp] fa217x1
attribute [simp] fai217x1
theorem ix99 : IxV Tryz.prog 99 1 := fun cs len cap kk k => opIndexAddr_vsl (el := 5) (sz := 1) (by kernel_rfl) (by kernel_rfl) (by kernel_rfl) cs len cap kk k
theorem ixo99 : IxO Tryz.prog 99 1 := fun n off len cap z kk k => opIndexAddr_osl (el := 5) (sz := 1) (by kernel_rfl) (by kernel_rfl) (by kernel_rfl) n off len cap z kk k
attribute [simp] ix99
attribute [simp] ixo99
theorem bu114 : BuF Tryz.prog 114 [(0, 1), (1, 1), (2, 2), (4, 5)] [.int .i64 0, .nilsl, .nilsl, .nilsl, .nilsl, .nilsl, .nilsl, .int .i64 0, .nilsl] := fun parts => opBuild_struct (fs := Tryz.prog.fieldsOf 114) (z := (.agg #[(.int .i64 0), (.slice none 0 0), (.slice none 0 0), (.slice none 0 0), (.slice none 0 0), (.slice none 0 0), (.slice none 0 0), (.int .i64 0), (.slice none 0 0)])) (pl := [(0, 1), (1, 1), (2, 2), (4, 5)]) (by kernel_rfl) (by kernel_rfl) (by kernel_rfl) (by kernel_rfl) (by kernel_rfl)
attribute [simp] bu114
theorem bu305 : BuF Tryz.prog 305 [(0, 1), (1, 1), (2, 1)] [.int .i64 0, .str ⟨#[]⟩, .int .i64 0] := fun parts => opBuild_struct (fs := Tryz.prog.fieldsOf 305) (z := (.agg #[(.int .i64 0), (.string ⟨#[]⟩), (.int .i64 0)])) (pl := [(0, 1), (1, 1), (2, 1)]) (by kernel_rfl) (by kernel_rfl) (by kernel_rfl) (by kernel_rfl) (by kernel_rfl)
attribute [simp] bu305
theorem fa114x0 : FaP Tryz.prog 114 0 0 := fun n off => opFieldAddr_ptr (k := 0) (by kernel_rfl)
theorem fai114x0 : FaI Tryz.prog 114 0 0 := fun cs off => opFieldAddr_iptr (k := 0) (by kernel_rfl)
attribute [simp] fa114x0
attribute [simp] fai114x0
theorem fa114x1 : FaP Tryz.prog 114 1 1 := fun n off => opFieldAddr_ptr (k := 1) (by kernel_rfl)
theorem fai114x1 : FaI Tryz.prog 114 1 1 := fun cs off => opFieldAddr_iptr (k := 1) (by kernel_rfl)
attribute [simp] fa114x1
attribute [simp] fai114x1
theorem ld112 : Ld1 Tryz.prog 112 := fun h n off => opLoad_ptr1 (by kernel_rfl) (by kernel_rfl) (by kernel_rfl)
theorem ldi112 : Ldi1 Tryz.prog 112 := fun h cs off => opLoad_iptr1 (by kernel_rfl) (by kernel_rfl) (by kernel_rfl)
attribute [simp] ld112
attribute [simp] ldi112
theorem ln112 : LnV Tryz.prog 112 := fun cs len cap => opLen_vsl (el := 114) (by kernel_rfl) cs len cap
theorem lno112 : LnO Tryz.prog 112 := fun n off len cap z => opLen_osl (el := 114) (by kernel_rfl) n off len cap z
theorem lnn112 : LnN Tryz.prog 112 := opLen_nilsl (el := 114) (by kernel_rfl)
attribute [simp] ln112
attribute [simp] lno112
attribute [simp] lnn112
theorem fa114x2 : FaP Tryz.prog 114 2 2 := fun n off => opFieldAddr_ptr (k := 2) (by kernel_rfl)
theorem fai114x2 : FaI Tryz.prog 114 2 2 := fun cs off => opFieldAddr_iptr (k := 2) (by kernel_rfl)
attribute [simp] fa114x2
attribute [simp] fai114x2
theorem fa114x3 : FaP Tryz.prog 114 3 4 := fun n off => opFieldAddr_ptr (k := 4) (by kernel_rfl)
theorem fai114x3 : FaI Tryz.prog 114 3 4 := fun cs off => opFieldAddr_iptr (k := 4) (by kernel_rfl)
attribute [simp] fa114x3
attribute [simp] fai114x3
theorem ix112 : IxV Tryz.prog 112 9 := fun cs len cap kk k => opIndexAddr_vsl (el := 114) (sz := 9) (by kernel_rfl) (by kernel_rfl) (by kernel_rfl) cs len cap kk k
theorem ixo112 : IxO Tryz.prog 112 9 := fun n off len cap z kk k => opIndexAddr_osl (el := 114) (sz := 9) (by kernel_rfl) (by kernel_rfl) (by kernel_rfl) n off len cap z kk k
attribute [simp] ix112
attribute [simp] ixo112
theorem bu129 : BuF Tryz.prog 129 [(0, 1), (1, 1)] [.int .i64 0, .int .i64 0] := fun parts => opBuild_struct (fs := Tryz.prog.fieldsOf 129) (z := (.agg #[(.int .i64 0), (.int .i64 0)])) (pl := [(0, 1), (1, 1)]) (by kernel_rfl) (by kernel_rfl) (by kernel_rfl) (by kernel_rfl) (by kernel_rfl)
attribute [simp] bu129
theorem bs124x1 : BsF Tryz.prog 124 1 2 [.int .i64 0, .int .i64 0] := fun nx parts => opBuildSlice_eq (el := 129) (sz := 2) (z := (.agg #[(.int .i64 0), (.int .i64 0)])) (by kernel_rfl) (by kernel_rfl) (by kernel_rfl) (by kernel_rfl) rfl (by decide) (by decide)
attribute [simp] bs124x1
theorem ap124x124 : ApF Tryz.prog 124 124 2 := fun h nx x y => opAppend_eq (el := 129) (sz := 2) (by kernel_rfl) (by kernel_rfl) (Nat.le_of_ble_eq_true (by kernel_rfl)) (by decide) (by kernel_rfl) (by kernel_rfl)
attribute [simp] ap124x124
theorem fa134x0 : FaP Tryz.prog 134 0 0 := fun n off => opFieldAddr_ptr (k := 0) (by kernel_rfl)
theorem fai134x0 : FaI Tryz.prog 134 0 0 := fun cs off => opFieldAddr_iptr (k := 0) (by kernel_rfl)
attribute [simp] fa134x0
attribute [simp] fai134x0
theorem ld131 : LdA Tryz.prog 131 2 := fun h n off => opLoad_ptrA (sz := 2) (by kernel_rfl) (by kernel_rfl) (by kernel_rfl) (by kernel_rfl)
theorem ldi131 : LdiA Tryz.prog 131 2 := fun h cs off => opLoad_iptrA (sz := 2) (by kernel_rfl) (by kernel_rfl) (by kernel_rfl) (by kernel_rfl)
attribute [simp] ld131
attribute [simp] ldi131
theorem bs312x1 : BsF Tryz.prog 312 1 2 [.int .i64 0, .int .i64 0] := fun nx parts => opBuildSlice_eq (el := 313) (sz := 2) (z := (.agg #[(.int .i64 0), (.int .i64 0)])) (by kernel_rfl) (by kernel_rfl) (by kernel_rfl) (by kernel_rfl) rfl (by decide) (by decide)
attribute [simp] bs312x1
theorem ap312x312 : ApF Tryz.prog 312 312 2 := fun h nx x y => opAppend_eq (el := 313) (sz := 2) (by kernel_rfl) (by kernel_rfl) (Nat.le_of_ble_eq_true (by kernel_rfl)) (by decide) (by kernel_rfl) (by kernel_rfl)
attribute [simp] ap312x312
theorem fa134x1 : FaP Tryz.prog 134 1 2 := fun n off => opFieldAddr_ptr (k := 2) (by kernel_rfl)
theorem fai134x1 : FaI Tryz.prog 134 1 2 := fun cs off => opFieldAddr_iptr (k := 2) (by kernel_rfl)
attribute [simp] fa134x1
attribute [simp] fai134x1
theorem ln312 : LnV Tryz.prog 312 := fun cs len cap => opLen_vsl (el := 313) (by kernel_rfl) cs len cap
theorem lno312 : LnO Tryz.prog 312 := fun n off len cap z => opLen_osl (el := 313) (by kernel_rfl) n off len cap z
theorem lnn312 : LnN Tryz.prog 312 := opLen_nilsl (el := 313) (by kernel_rfl)
attribute [simp] ln312
attribute [simp] lno312
attribute [simp] lnn312
theorem ld210 : LdA Tryz.prog 210 3 := fun h n off => opLoad_ptrA (sz := 3) (by kernel_rfl) (by kernel_rfl) (by kernel_rfl) (by kernel_rfl)
theorem ldi210 : LdiA Tryz.prog 210 3 := fun h cs off => opLoad_iptrA (sz := 3) (by kernel_rfl) (by kernel_rfl) (by kernel_rfl) (by kernel_rfl)
attribute [simp] ld210
attribute [simp] ldi210
theorem al210 : AlF Tryz.prog 210 [.int .u8 0, .int .u8 0, .int .u8 0] := fun nx => opAlloc_eq (z := (.agg #[(.int .u8 0), (.int .u8 0), (.int .u8 0)])) (by kernel_rfl) (by kernel_rfl)
attribute [simp] al210
theorem st210 : StF Tryz.prog 210 3 := fun h n off y => opStore_eq (sz := 3) (by kernel_rfl) (by kernel_rfl)
attribute [simp] st210
theorem ix312 : IxV Tryz.prog 312 2 := fun cs len cap kk k => opIndexAddr_vsl (el := 313) (sz := 2) (by kernel_rfl) (by kernel_rfl) (by kernel_rfl) cs len cap kk k
theorem ixo312 : IxO Tryz.prog 312 2 := fun n off len cap z kk k => opIndexAddr_osl (el := 313) (sz := 2) (by kernel_rfl) (by kernel_rfl) (by kernel_rfl) n off len cap z kk k
attribute [simp] ix312
attribute [simp] ixo312
theorem ld313 : LdA Tryz.prog 313 2 := fun h n off => opLoad_ptrA (sz := 2) (by kernel_rfl) (by kernel_rfl) (by kernel_rfl) (by kernel_rfl)
theorem ldi313 : LdiA Tryz.prog 313 2 := fun h cs off => opLoad_iptrA (sz := 2) (by kernel_rfl) (by kernel_rfl) (by kernel_rfl) (by kernel_rfl)
attribute [simp] ld313
attribute [simp] ldi313
theorem al313 : AlF Tryz.prog 313 [.int .i64 0, .int .i64 0] := fun nx => opAlloc_eq (z := (.agg #[(.int .i64 0), (.int .i64 0)])) (by kernel_rfl) (by kernel_rfl)
attribute [simp] al313
theorem st313 : StF Tryz.prog 313 2 := fun h n off y => opStore_eq (sz := 2) (by kernel_rfl) (by kernel_rfl)
attribute [simp] st313
theorem ix313 : IxA Tryz.prog 313 2 1 := fun n off kk k => opIndexAddr_arr (m := 2) (el := 3) (sz := 1) (by kernel_rfl) (by kernel_rfl) (by kernel_rfl) n off kk k
theorem ixo313 : IxB Tryz.prog 313 2 1 := fun cs off kk k => opIndexAddr_arri (m := 2) (el := 3) (sz := 1) (by kernel_rfl) (by kernel_rfl) (by kernel_rfl) cs off kk k
attribute [simp] ix313
attribute [simp] ixo313
theorem fa134x2 : FaP Tryz.prog 134 2 3 := fun n off => opFieldAddr_ptr (k := 3) (by kernel_rfl)
theorem fai134x2 : FaI Tryz.prog 134 2 3 := fun cs off => opFieldAddr_iptr (k := 3) (by kernel_rfl)
attribute [simp] fa134x2
attribute [simp] fai134x2
theorem ld132 : Ld1 Tryz.prog 132 := fun h n off => opLoad_ptr1 (by kernel_rfl) (by kernel_rfl) (by kernel_rfl)
theorem ldi132 : Ldi1 Tryz.prog 132 := fun h cs off => opLoad_iptr1 (by kernel_rfl) (by kernel_rfl) (by kernel_rfl)
attribute [simp] ld132
attribute [simp] ldi132
theorem ln132 : LnV Tryz.prog 132 := fun cs len cap => opLen_vsl (el := 316) (by kernel_rfl) cs len cap
theorem lno132 : LnO Tryz.prog 132 := fun n off len cap z => opLen_osl (el := 316) (by kernel_rfl) n off len cap z
theorem lnn132 : LnN Tryz.prog 132 := opLen_nilsl (el := 316) (by kernel_rfl)
attribute [simp] ln132
attribute [simp] lno132
attribute [simp] lnn132
theorem ix132 : IxV Tryz.prog 132 4 := fun cs len cap kk k => opIndexAddr_vsl (el := 316) (sz := 4) (by kernel_rfl) (by kernel_rfl) (by kernel_rfl) cs len cap kk k
theorem ixo132 : IxO Tryz.prog 132 4 := fun n off len cap z kk k => opIndexAddr_osl (el := 316) (sz := 4) (by kernel_rfl) (by kernel_rfl) (by kernel_rfl) n off len cap z kk k
attribute [simp] ix132
attribute [simp] ixo132
theorem ld316 : LdA Tryz.prog 316 4 := fun h n off => opLoad_ptrA (sz := 4) (by kernel_rfl) (by kernel_rfl) (by kernel_rfl) (by kernel_rfl)
theorem ldi316 : LdiA Tryz.prog 316 4 := fun h cs off => opLoad_iptrA (sz := 4) (by kernel_rfl) (by kernel_rfl) (by kernel_rfl) (by kernel_rfl)
attribute [simp] ld316
attribute [simp] ldi316
theorem ln173 : LnV Tryz.prog 173 := fun cs len cap => opLen_vsl (el := 4) (by kernel_rfl) cs len cap
theorem lno173 : LnO Tryz.prog 173 := fun n off len cap z => opLen_osl (el := 4) (by kernel_rfl) n off len cap z
theorem lnn173 : LnN Tryz.prog 173 := opLen_nilsl (el := 4) (by kernel_rfl)
attribute [simp] ln173
attribute [simp] lno173
attribute [simp] lnn173
theorem fa137x2 : FaP Tryz.prog 137 2 5 := fun n off => opFieldAddr_ptr (k := 5) (by kernel_rfl)
theorem fai137x2 : FaI Tryz.prog 137 2 5 := fun cs off => opFieldAddr_iptr (k := 5) (by kernel_rfl)
attribute [simp] fa137x2
attribute [simp] fai137x2
theorem fa137x3 : FaP Tryz.prog 137 3 6 := fun n off => opFieldAddr_ptr (k := 6) (by kernel_rfl)
theorem fai137x3 : FaI Tryz.prog 137 3 6 := fun cs off => opFieldAddr_iptr (k := 6) (by kernel_rfl)
attribute [simp] fa137x3
attribute [simp] fai137x3
theorem al114 : AlF Tryz.prog 114 [.int .i64 0, .nilsl, .nilsl, .nilsl, .nilsl, .nilsl, .nilsl, .int .i64 0, .nilsl] := fun nx => opAlloc_eq (z := (.agg #[(.int .i64 0), (.slice none 0 0), (.slice none 0 0), (.slice none 0 0), (.slice none 0 0), (.slice none 0 0), (.slice none 0 0), (.int .i64 0), (.slice none 0 0)])) (by kernel_rfl) (by kernel_rfl)
attribute [simp] al114
theorem bs112x1 : BsF Tryz.prog 112 1 9 [.int .i64 0, .nilsl, .nilsl, .nilsl, .nilsl, .nilsl, .nilsl, .int .i64 0, .nilsl] := fun nx parts => opBuildSlice_eq (el := 114) (sz := 9) (z := (.agg #[(.int .i64 0), (.slice none 0 0), (.slice none 0 0), (.slice none 0 0), (.slice none 0 0), (.slice none 0 0), (.slice none 0 0), (.int .i64 0), (.slice none 0 0)])) (by kernel_rfl) (by kernel_rfl) (by kernel_rfl) (by kernel_rfl) rfl (by decide) (by decide)
attribute [simp] bs112x1
theorem cv3x321 : CvF Tryz.prog 3 321 .u64 := fun kk n => opConv_eq (k' := .i64) (k := .u64) (by kernel_rfl) (by kernel_rfl)
attribute [simp] cv3x321
theorem fa154x0 : FaP Tryz.prog 154 0 0 := fun n off => opFieldAddr_ptr (k := 0) (by kernel_rfl)
theorem fai154x0 : FaI Tryz.prog 154 0 0 := fun cs off => opFieldAddr_iptr (k := 0) (by kernel_rfl)
attribute [simp] fa154x0
attribute [simp] fai154x0
theorem fa154x1 : FaP Tryz.prog 154 1 2 := fun n off => opFieldAddr_ptr (k := 2) (by kernel_rfl)
theorem fai154x1 : FaI Tryz.prog 154 1 2 := fun cs off => opFieldAddr_iptr (k := 2) (by kernel_rfl)
attribute [simp] fa154x1
attribute [simp] fai154x1
theorem bu45 : BuF Tryz.prog 45 [(0, 1), (1, 1)] [.int .i64 0, .int .i64 0] := fun parts => opBuild_struct (fs := Tryz.prog.fieldsOf 45) (z := (.agg #[(.int .i64 0), (.int .i64 0)])) (pl := [(0, 1), (1, 1)]) (by kernel_rfl) (by kernel_rfl) (by kernel_rfl) (by kernel_rfl) (by kernel_rfl)
attribute [simp] bu45
theorem bu264 : BuF Tryz.prog 264 [(0, 2), (2, 1), (3, 1), (4, 1)] [.int .i64 0, .int .i64 0, .int .i64 0, .int .i64 0, .int .i64 0] := fun parts => opBuild_struct (fs := Tryz.prog.fieldsOf 264) (z := (.agg #[(.int .i64 0), (.int .i64 0), (.int .i64 0), (.int .i64 0), (.int .i64 0)])) (pl := [(0, 2), (2, 1), (3, 1), (4, 1)]) (by kernel_rfl) (by kernel_rfl) (by kernel_rfl) (by kernel_rfl) (by kernel_rfl)
attribute [simp] bu264
theorem bs255x1 : BsF Tryz.prog 255 1 5 [.int .i64 0, .int .i64 0, .int .i64 0, .int .i64 0, .int .i64 0] := fun nx parts => opBuildSlice_eq (el := 264) (sz := 5) (z := (.agg #[(.int .i64 0), (.int .i64 0), (.int .i64 0), (.int .i64 0), (.int .i64 0)])) (by kernel_rfl) (by kernel_rfl) (by kernel_rfl) (by kernel_rfl) rfl (by decide) (by decide)
attribute [simp] bs255x1
theorem ap255x255 : ApF Tryz.prog 255 255 5 := fun h nx x y => opAppend_eq (el := 264) (sz := 5) (by kernel_rfl) (by kernel_rfl) (Nat.le_of_ble_eq_true (by kernel_rfl)) (by decide) (by kernel_rfl) (by kernel_rfl)
attribute [simp] ap255x255
theorem bs258x1 : BsF Tryz.prog 258 1 1 [.nilsl] := fun nx parts => opBuildSlice_eq (el := 26) (sz := 1) (z := (.slice none 0 0)) (by kernel_rfl) (by kernel_rfl) (by kernel_rfl) (by kernel_rfl) rfl (by decide) (by decide)
attribute [simp] bs258x1
theorem ap258x258 : ApF Tryz.prog 258 258 1 := fun h nx x y => opAppend_eq (el := 26) (sz := 1) (by kernel_rfl) (by kernel_rfl) (Nat.le_of_ble_eq_true (by kernel_rfl)) (by decide) (by kernel_rfl) (by kernel_rfl)
attribute [simp] ap258x258
theorem ln258 : LnV Tryz.prog 258 := fun cs len cap => opLen_vsl (el := 26) (by kernel_rfl) cs len cap
theorem lno258 : LnO Tryz.prog 258 := fun n off len cap z => opLen_osl (el := 26) (by kernel_rfl) n off len cap z
theorem lnn258 : LnN Tryz.prog 258 := opLen_nilsl (el := 26) (by kernel_rfl)
attribute [simp] ln258
attribute [simp] lno258
attribute [simp] lnn258
theorem bu275 : BuF Tryz.prog 275 [(0, 2), (2, 1), (3, 1), (4, 1)] [.int .i64 0, .int .i64 0, .int .i64 0, .int .i64 0, .int .i64 0] := fun parts => opBuild_struct (fs := Tryz.prog.fieldsOf 275) (z := (.agg #[(.int .i64 0), (.int .i64 0), (.int .i64 0), (.int .i64 0), (.int .i64 0)])) (pl := [(0, 2), (2, 1), (3, 1), (4, 1)]) (by kernel_rfl) (by kernel_rfl) (by kernel_rfl) (by kernel_rfl) (by kernel_rfl)
attribute [simp] bu275
theorem bs269x1 : BsF Tryz.prog 269 1 5 [.int .i64 0, .int .i64 0, .int .i64 0, .int .i64 0, .int .i64 0] := fun nx parts => opBuildSlice_eq (el := 275) (sz := 5) (z := (.agg #[(.int .i64 0), (.int .i64 0), (.int .i64 0), (.int .i64 0), (.int .i64 0)])) (by kernel_rfl) (by kernel_rfl) (by kernel_rfl) (by kernel_rfl) rfl (by decide) (by decide)
attribute [simp] bs269x1
theorem ap269x269 : ApF Tryz.prog 269 269 5 := fun h nx x y => opAppend_eq (el := 275) (sz := 5) (by kernel_rfl) (by kernel_rfl) (Nat.le_of_ble_eq_true (by kernel_rfl)) (by decide) (by kernel_rfl) (by kernel_rfl)
attribute [simp] ap269x269
theorem ld275 : LdA Tryz.prog 275 5 := fun h n off => opLoad_ptrA (sz := 5) (by kernel_rfl) (by kernel_rfl) (by kernel_rfl) (by kernel_rfl)
theorem ldi275 : LdiA Tryz.prog 275 5 := fun h cs off => opLoad_iptrA (sz := 5) (by kernel_rfl) (by kernel_rfl) (by kernel_rfl) (by kernel_rfl)
attribute [simp] ld275
attribute [simp] ldi275
theorem al275 : AlF Tryz.prog 275 [.int .i64 0, .int .i64 0, .int .i64 0, .int .i64 0, .int .i64 0] := fun nx => opAlloc_eq (z := (.agg #[(.int .i64 0), (.int .i64 0), (.int .i64 0), (.int .i64 0), (.int .i64 0)])) (by kernel_rfl) (by kernel_rfl)
attribute [simp] al275
theorem st275 : StF Tryz.prog 275 5 := fun h n off y => opStore_eq (sz := 5) (by kernel_rfl) (by kernel_rfl)
attribute [simp] st275
theorem sl22 : SlV Tryz.prog 22 4 := fun cs len cap lo hi mx => opSlice_vsl (el := 157) (sz := 4) (by kernel_rfl) (by kernel_rfl) cs len cap lo hi mx
theorem slo22 : SlO Tryz.prog 22 4 := fun n off len cap lo hi mx => opSlice_osl (el := 157) (sz := 4) (by kernel_rfl) (by kernel_rfl) n off len cap lo hi mx
attribute [simp] sl22
attribute [simp] slo22
theorem sl155 : SlV Tryz.prog 155 4 := fun cs len cap lo hi mx => opSlice_vsl (el := 160) (sz := 4) (by kernel_rfl) (by kernel_rfl) cs len cap lo hi mx
theorem slo155 : SlO Tryz.prog 155 4 := fun n off len cap lo hi mx => opSlice_osl (el := 160) (sz := 4) (by kernel_rfl) (by kernel_rfl) n off len cap lo hi mx
attribute [simp] sl155
attribute [simp] slo155
theorem sl23 : SlV Tryz.prog 23 7 := fun cs len cap lo hi mx => opSlice_vsl (el := 81) (sz := 7) (by kernel_rfl) (by kernel_rfl) cs len cap lo hi mx
theorem slo23 : SlO Tryz.prog 23 7 := fun n off len cap lo hi mx => opSlice_osl (el := 81) (sz := 7) (by kernel_rfl) (by kernel_rfl) n off len cap lo hi mx
attribute [simp] sl23
attribute [simp] slo23
theorem ln190 : LnV Tryz.prog 190 := fun cs len cap => opLen_vsl (el := 55) (by kernel_rfl) cs len cap
theorem lno190 : LnO Tryz.prog 190 := fun n off len cap z => opLen_osl (el := 55) (by kernel_rfl) n off len cap z
theorem lnn190 : LnN Tryz.prog 190 := opLen_nilsl (el := 55) (by kernel_rfl)
attribute [simp] ln190
attribute [simp] lno190
attribute [simp] lnn190
theorem ix190 : IxV Tryz.prog 190 3 := fun cs len cap kk k => opIndexAddr_vsl (el := 55) (sz := 3) (by kernel_rfl) (by kernel_rfl) (by kernel_rfl) cs len cap kk k
theorem ixo190 : IxO Tryz.prog 190 3 := fun n off len cap z kk k => opIndexAddr_osl (el := 55) (sz := 3) (by kernel_rfl) (by kernel_rfl) (by kernel_rfl) n off len cap z kk k
attribute [simp] ix190
attribute [simp] ixo190
theorem ld288 : Ld1 Tryz.prog 288 := fun h n off => opLoad_ptr1 (by kernel_rfl) (by kernel_rfl) (by kernel_rfl)
theorem ldi288 : Ldi1 Tryz.prog 288 := fun h cs off => opLoad_iptr1 (by kernel_rfl) (by kernel_rfl) (by kernel_rfl)
attribute [simp] ld288
attribute [simp] ldi288
theorem bs26x4 : BsF Tryz.prog 26 4 1 [.int .i64 0] := fun nx parts => opBuildSlice_eq (el := 3) (sz := 1) (z := (.int .i64 0)) (by kernel_rfl) (by kernel_rfl) (by kernel_rfl) (by kernel_rfl) rfl (by decide) (by decide)
attribute [simp] bs26x4
theorem bs155x0 : BsF Tryz.prog 155 0 4 [.str ⟨#[]⟩, .int .i64 0, .int .i64 0, .nilsl] := fun nx parts => opBuildSlice_eq (el := 160) (sz := 4) (z := (.agg #[(.string ⟨#[]⟩), (.int .i64 0), (.int .i64 0), (.slice none 0 0)])) (by kernel_rfl) (by kernel_rfl) (by kernel_rfl) (by kernel_rfl) rfl (by decide) (by decide)
attribute [simp] bs155x0
theorem cv321x3 : CvF Tryz.prog 321 3 .i64 := fun kk n => opConv_eq (k' := .u64) (k := .i64) (by kernel_rfl) (by kernel_rfl)
attribute [simp] cv321x3
theorem fa305x1 : FaP Tryz.prog 305 1 1 := fun n off => opFieldAddr_ptr (k := 1) (by kernel_rfl)
theorem fai305x1 : FaI Tryz.prog 305 1 1 := fun cs off => opFieldAddr_iptr (k := 1) (by kernel_rfl)
attribute [simp] fa305x1
attribute [simp] fai305x1
theorem fa305x0 : FaP Tryz.prog 305 0 0 := fun n off => opFieldAddr_ptr (k := 0) (by kernel_rfl)
theorem fai305x0 : FaI Tryz.prog 305 0 0 := fun cs off => opFieldAddr_iptr (k := 0) (by kernel_rfl)
attribute [simp] fa305x0
attribute [simp] fai305x0
theorem sl30 : SlV Tryz.prog 30 4 := fun cs len cap lo hi mx => opSlice_vsl (el := 175) (sz := 4) (by kernel_rfl) (by kernel_rfl) cs len cap lo hi mx
theorem slo30 : SlO Tryz.prog 30 4 := fun n off len cap lo hi mx => opSlice_osl (el := 175) (sz := 4) (by kernel_rfl) (by kernel_rfl) n off len cap lo hi mx
attribute [simp] sl30
attribute [simp] slo30
theorem ld305 : LdA Tryz.prog 305 3 := fun h n off => opLoad_ptrA (sz := 3) (by kernel_rfl) (by kernel_rfl) (by kernel_rfl) (by kernel_rfl)
theorem ldi305 : LdiA Tryz.prog 305 3 := fun h cs off => opLoad_iptrA (sz := 3) (by kernel_rfl) (by kernel_rfl) (by kernel_rfl) (by kernel_rfl)
attribute [simp] ld305
attribute [simp] ldi305
theorem al305 : AlF Tryz.prog 305 [.int .i64 0, .str ⟨#[]⟩, .int .i64 0] := fun nx => opAlloc_eq (z := (.agg #[(.int .i64 0), (.string ⟨#[]⟩), (.int .i64 0)])) (by kernel_rfl) (by kernel_rfl)
attribute [simp] al305
theorem st305 : StF Tryz.prog 305 3 := fun h n off y => opStore_eq (sz := 3) (by kernel_rfl) (by kernel_rfl)
attribute [simp] st305
theorem fa131x0 : FaP Tryz.prog 131 0 0 := fun n off => opFieldAddr_ptr (k := 0) (by kernel_rfl)
theorem fai131x0 : FaI Tryz.prog 131 0 0 := fun cs off => opFieldAddr_iptr (k := 0) (by kernel_rfl)
attribute [simp] fa131x0
attribute [simp] fai131x0
theorem fa131x1 : FaP Tryz.prog 131 1 1 := fun n off => opFieldAddr_ptr (k := 1) (by kernel_rfl)
theorem fai131x1 : FaI Tryz.prog 131 1 1 := fun cs off => opFieldAddr_iptr (k := 1) (by kernel_rfl)
attribute [simp] fa131x1
attribute [simp] fai131x1
theorem ix316 : IxA Tryz.prog 316 4 1 := fun n off kk k => opIndexAddr_arr (m := 4) (el := 315) (sz := 1) (by kernel_rfl) (by kernel_rfl) (by kernel_rfl) n off kk k
theorem ixo316 : IxB Tryz.prog 316 4 1 := fun cs off kk k => opIndexAddr_arri (m := 4) (el := 315) (sz := 1) (by kernel_rfl) (by kernel_rfl) (by kernel_rfl) cs off kk k
attribute [simp] ix316
attribute [simp] ixo316
theorem ld315 : Ld1 Tryz.prog 315 := fun h n off => opLoad_ptr1 (by kernel_rfl) (by kernel_rfl) (by kernel_rfl)
theorem ldi315 : Ldi1 Tryz.prog 315 := fun h cs off => opLoad_iptr1 (by kernel_rfl) (by kernel_rfl) (by kernel_rfl)
attribute [simp] ld315
attribute [simp] ldi315
theorem cv315x3 : CvF Tryz.prog 315 3 .i64 := fun kk n => opConv_eq (k' := .i8) (k := .i64) (by kernel_rfl) (by kernel_rfl)
attribute [simp] cv315x3
theorem bs173x0 : BsF Tryz.prog 173 0 1 [.bool false] := fun nx parts => opBuildSlice_eq (el := 4) (sz := 1) (z := (.bool false)) (by kernel_rfl) (by kernel_rfl) (by kernel_rfl) (by kernel_rfl) rfl (by decide) (by decide)
attribute [simp] bs173x0
theorem ap173x173 : ApF Tryz.prog 173 173 1 := fun h nx x y => opAppend_eq (el := 4) (sz := 1) (by kernel_rfl) (by kernel_rfl) (Nat.le_of_ble_eq_true (by kernel_rfl)) (by decide) (by kernel_rfl) (by kernel_rfl)
attribute [simp] ap173x173
theorem cv321x359 : CvF Tryz.prog 321 359 .u32 := fun kk n => opConv_eq (k' := .u64) (k := .u32) (by kernel_rfl) (by kernel_rfl)
attribute [simp] cv321x359
theorem bs361x2 : BsF Tryz.prog 361 2 2 [.nilsl, .nilsl] := fun nx parts => opBuildSlice_eq (el := 29) (sz := 2) (z := (.agg #[(.slice none 0 0), (.slice none 0 0)])) (by kernel_rfl) (by kernel_rfl) (by kernel_rfl) (by kernel_rfl) rfl (by decide) (by decide)
attribute [simp] bs361x2
theorem ln361 : LnV Tryz.prog 361 := fun cs len cap => opLen_vsl (el := 29) (by kernel_rfl) cs len cap
theorem lno361 : LnO Tryz.prog 361 := fun n off len cap z => opLen_osl (el := 29) (by kernel_rfl) n off len cap z
theorem lnn361 : LnN Tryz.prog 361 := opLen_nilsl (el := 29) (by kernel_rfl)
attribute [simp] ln361
attribute [simp] lno361
attribute [simp] lnn361
theorem ix361 : IxV Tryz.prog 361 2 := fun cs len cap kk k => opIndexAddr_vsl (el := 29) (sz := 2) (by kernel_rfl) (by kernel_rfl) (by kernel_rfl) cs len cap kk k
theorem ixo361 : IxO Tryz.prog 361 2 := fun n off len cap z kk k => opIndexAddr_osl (el := 29) (sz := 2) (by kernel_rfl) (by kernel_rfl) (by kernel_rfl) n off len cap z kk k
attribute [simp] ix361
attribute [simp] ixo361
theorem in9 : InS Tryz.prog 9 := fun s kk k => opIndex_str (by kernel_rfl) s kk k
attribute [simp] in9
theorem al3 : AlF Tryz.prog 3 [.int .i64 0] := fun nx => opAlloc_eq (z := (.int .i64 0)) (by kernel_rfl) (by kernel_rfl)
attribute [simp] al3
theorem cv3x388 : CvF Tryz.prog 3 388 .u64 := fun kk n => opConv_eq (k' := .i64) (k := .u64) (by kernel_rfl) (by kernel_rfl)
attribute [simp] cv3x388
theorem al388 : AlF Tryz.prog 388 [.int .u64 0] := fun nx => opAlloc_eq (z := (.int .u64 0)) (by kernel_rfl) (by kernel_rfl)
attribute [simp] al388
theorem st388 : StF Tryz.prog 388 1 := fun h n off y => opStore_eq (sz := 1) (by kernel_rfl) (by kernel_rfl)
attribute [simp] st388
theorem cv359x5 : CvF Tryz.prog 359 5 .u8 := fun kk n => opConv_eq (k' := .u32) (k := .u8) (by kernel_rfl) (by kernel_rfl)
attribute [simp] cv359x5
theorem cv135x5 : CvF Tryz.prog 135 5 .u8 := fun kk n => opConv_eq (k' := .u64) (k := .u8) (by kernel_rfl) (by kernel_rfl)
attribute [simp] cv135x5
theorem bu398 : BuF Tryz.prog 398 [(0, 2), (2, 2), (4, 1), (5, 2), (7, 1), (8, 1), (9, 1), (10, 1), (11, 1)] [.nilsl, .nilsl, .nilsl, .nilsl, .nilsl, .nilsl, .nilsl, .bool false, .int .i64 0, .nilsl, .nilsl, .nilsl] := fun parts => opBuild_struct (fs := Tryz.prog.fieldsOf 398) (z := (.agg #[(.slice none 0 0), (.slice none 0 0), (.slice none 0 0), (.slice none 0 0), (.slice none 0 0), (.slice none 0 0), (.slice none 0 0), (.bool false), (.int .i64 0), (.slice none 0 0), (.slice none 0 0), (.slice none 0 0)])) (pl := [(0, 2), (2, 2), (4, 1), (5, 2), (7, 1), (8, 1), (9, 1), (10, 1), (11, 1)]) (by kernel_rfl) (by kernel_rfl) (by kernel_rfl) (by kernel_rfl) (by kernel_rfl)
attribute [simp] bu398
theorem fa398x8 : FaP Tryz.prog 398 8 11 := fun n off => opFieldAddr_ptr (k := 11) (by kernel_rfl)
theorem fai398x8 : FaI Tryz.prog 398 8 11 := fun cs off => opFieldAddr_iptr (k := 11) (by kernel_rfl)
attribute [simp] fa398x8
attribute [simp] fai398x8
theorem ld249 : Ld1 Tryz.prog 249 := fun h n off => opLoad_ptr1 (by kernel_rfl) (by kernel_rfl) (by kernel_rfl)
theorem ldi249 : Ldi1 Tryz.prog 249 := fun h cs off => opLoad_iptr1 (by kernel_rfl) (by kernel_rfl) (by kernel_rfl)
attribute [simp] ld249
attribute [simp] ldi249
theorem cv3x135 : CvF Tryz.prog 3 135 .u64 := fun kk n => opConv_eq (k' := .i64) (k := .u64) (by kernel_rfl) (by kernel_rfl)
attribute [simp] cv3x135
theorem cv135x3 : CvF Tryz.prog 135 3 .i64 := fun kk n => opConv_eq (k' := .u64) (k := .i64) (by kernel_rfl) (by kernel_rfl)
attribute [simp] cv135x3
theorem cv359x321 : CvF Tryz.prog 359 321 .u64 := fun kk n => opConv_eq (k' := .u32) (k := .u64) (by kernel_rfl) (by kernel_rfl)
attribute [simp] cv359x321
theorem sl158 : SlV Tryz.prog 158 1 := fun cs len cap lo hi mx => opSlice_vsl (el := 9) (sz := 1) (by kernel_rfl) (by kernel_rfl) cs len cap lo hi mx
theorem slo158 : SlO Tryz.prog 158 1 := fun n off len cap lo hi mx => opSlice_osl (el := 9) (sz := 1) (by kernel_rfl) (by kernel_rfl) n off len cap lo hi mx
attribute [simp] sl158
attribute [simp] slo158
theorem bs158x5 : BsF Tryz.prog 158 5 1 [.str ⟨#[]⟩] := fun nx parts => opBuildSlice_eq (el := 9) (sz := 1) (z := (.string ⟨#[]⟩)) (by kernel_rfl) (by kernel_rfl) (by kernel_rfl) (by kernel_rfl) rfl (by decide) (by decide)
attribute [simp] bs158x5
theorem bs158x25 : BsF Tryz.prog 158 25 1 [.str ⟨#[]⟩] := fun nx parts => opBuildSlice_eq (el := 9) (sz := 1) (z := (.string ⟨#[]⟩)) (by kernel_rfl) (by kernel_rfl) (by kernel_rfl) (by kernel_rfl) rfl (by decide) (by decide)
attribute [simp] bs158x25
theorem ld388 : Ld1 Tryz.prog 388 := fun h n off => opLoad_ptr1 (by kernel_rfl) (by kernel_rfl) (by kernel_rfl)
theorem ldi388 : Ldi1 Tryz.prog 388 := fun h cs off => opLoad_iptr1 (by kernel_rfl) (by kernel_rfl) (by kernel_rfl)
attribute [simp] ld388
attribute [simp] ldi388
theorem bs395x1 : BsF Tryz.prog 395 1 1 [.nilsl] := fun nx parts => opBuildSlice_eq (el := 173) (sz := 1) (z := (.slice none 0 0)) (by kernel_rfl) (by kernel_rfl) (by kernel_rfl) (by kernel_rfl) rfl (by decide) (by decide)
attribute [simp] bs395x1
theorem ap395x395 : ApF Tryz.prog 395 395 1 := fun h nx x y => opAppend_eq (el := 173) (sz := 1) (by kernel_rfl) (by kernel_rfl) (Nat.le_of_ble_eq_true (by kernel_rfl)) (by decide) (by kernel_rfl) (by kernel_rfl)
attribute [simp] ap395x395
theorem fa398x5 : FaP Tryz.prog 398 5 8 := fun n off => opFieldAddr_ptr (k := 8) (by kernel_rfl)
theorem fai398x5 : FaI Tryz.prog 398 5 8 := fun cs off => opFieldAddr_iptr (k := 8) (by kernel_rfl)
attribute [simp] fa398x5
attribute [simp] fai398x5
theorem fa398x6 : FaP Tryz.prog 398 6 9 := fun n off => opFieldAddr_ptr (k := 9) (by kernel_rfl)
theorem fai398x6 : FaI Tryz.prog 398 6 9 := fun cs off => opFieldAddr_iptr (k := 9) (by kernel_rfl)
attribute [simp] fa398x6
attribute [simp] fai398x6
theorem fa398x0 : FaP Tryz.prog 398 0 0 := fun n off => opFieldAddr_ptr (k := 0) (by kernel_rfl)
theorem fai398x0 : FaI Tryz.prog 398 0 0 := fun cs off => opFieldAddr_iptr (k := 0) (by kernel_rfl)
attribute [simp] fa398x0
attribute [simp] fai398x0
theorem fa398x1 : FaP Tryz.prog 398 1 2 := fun n off => opFieldAddr_ptr (k := 2) (by kernel_rfl)
theorem fai398x1 : FaI Tryz.prog 398 1 2 := fun cs off => opFieldAddr_iptr (k := 2) (by kernel_rfl)
attribute [simp] fa398x1
attribute [simp] fai398x1
theorem fa398x3 : FaP Tryz.prog 398 3 5 := fun n off => opFieldAddr_ptr (k := 5) (by kernel_rfl)
theorem fai398x3 : FaI Tryz.prog 398 3 5 := fun cs off => opFieldAddr_iptr (k := 5) (by kernel_rfl)
attribute [simp] fa398x3
attribute [simp] fai398x3
theorem fa398x2 : FaP Tryz.prog 398 2 4 := fun n off => opFieldAddr_ptr (k := 4) (by kernel_rfl)
theorem fai398x2 : FaI Tryz.prog 398 2 4 := fun cs off => opFieldAddr_iptr (k := 4) (by kernel_rfl)
attribute [simp] fa398x2
attribute [simp] fai398x2
theorem ld395 : Ld1 Tryz.prog 395 := fun h n off => opLoad_ptr1 (by kernel_rfl) (by kernel_rfl) (by kernel_rfl)
theorem ldi395 : Ldi1 Tryz.prog 395 := fun h cs off => opLoad_iptr1 (by kernel_rfl) (by kernel_rfl) (by kernel_rfl)
attribute [simp] ld395
attribute [simp] ldi395
theorem ix395 : IxV Tryz.prog 395 1 := fun cs len cap kk k => opIndexAddr_vsl (el := 173) (sz := 1) (by kernel_rfl) (by kernel_rfl) (by kernel_rfl) cs len cap kk k
theorem ixo395 : IxO Tryz.prog 395 1 := fun n off len cap z kk k => opIndexAddr_osl (el := 173) (sz := 1) (by kernel_rfl) (by kernel_rfl) (by kernel_rfl) n off len cap z kk k
attribute [simp] ix395
attribute [simp] ixo395
theorem ld173 : Ld1 Tryz.prog 173 := fun h n off => opLoad_ptr1 (by kernel_rfl) (by kernel_rfl) (by kernel_rfl)
theorem ldi173 : Ldi1 Tryz.prog 173 := fun h cs off => opLoad_iptr1 (by kernel_rfl) (by kernel_rfl) (by kernel_rfl)
attribute [simp] ld173
attribute [simp] ldi173
theorem fa398x4 : FaP Tryz.prog 398 4 7 := fun n off => opFieldAddr_ptr (k := 7) (by kernel_rfl)
theorem fai398x4 : FaI Tryz.prog 398 4 7 := fun cs off => opFieldAddr_iptr (k := 7) (by kernel_rfl)
attribute [simp] fa398x4
attribute [simp] fai398x4
theorem fa398x7 : FaP Tryz.prog 398 7 10 := fun n off => opFieldAddr_ptr (k := 10) (by kernel_rfl)
theorem fai398x7 : FaI Tryz.prog 398 7 10 := fun cs off => opFieldAddr_iptr (k := 10) (by kernel_rfl)
attribute [simp] fa398x7
attribute [simp] fai398x7
theorem bs249x1 : BsF Tryz.prog 249 1 2 [.nilsl, .nilsl] := fun nx parts => opBuildSlice_eq (el := 68) (sz := 2) (z := (.agg #[(.slice none 0 0), (.slice none 0 0)])) (by kernel_rfl) (by kernel_rfl) (by kernel_rfl) (by kernel_rfl) rfl (by decide) (by decide)
attribute [simp] bs249x1
theorem ap249x249 : ApF Tryz.prog 249 249 2 := fun h nx x y => opAppend_eq (el := 68) (sz := 2) (by kernel_rfl) (by kernel_rfl) (Nat.le_of_ble_eq_true (by kernel_rfl)) (by decide) (by kernel_rfl) (by kernel_rfl)
attribute [simp] ap249x249
theorem st249 : StF Tryz.prog 249 1 := fun h n off y => opStore_eq (sz := 1) (by kernel_rfl) (by kernel_rfl)
attribute [simp] st249
theorem cv359x135 : CvF Tryz.prog 359 135 .u64 := fun kk n => opConv_eq (k' := .u32) (k := .u64) (by kernel_rfl) (by kernel_rfl)
attribute [simp] cv359x135
theorem cv135x359 : CvF Tryz.prog 135 359 .u32 := fun kk n => opConv_eq (k' := .u64) (k := .u32) (by kernel_rfl) (by kernel_rfl)
attribute [simp] cv135x359
end Go.Av
