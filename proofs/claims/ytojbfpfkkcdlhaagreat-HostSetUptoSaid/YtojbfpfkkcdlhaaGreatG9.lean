/- HostSet returns true for every input of bulk at most 1048576, and its arguments read as they did. -/
import Derived.Test.YtojbfpfkkcdlhaaGreatRdT
import Derived.Test.YtojbfpfkkcdlhaaGreatB8
import Derived.Test.YtojbfpfkkcdlhaaGreatRows
import Derived.WalkKit
import Derived.JoinedCond
import Derived.ProofKit
import Derived.OpenShut
import Derived.Test.YtojbfpfkkcdlhaaGreatJ9
namespace Go.Av
set_option linter.unusedVariables false
set_option linter.unusedSimpArgs false
open Go.ChangeShapes Go.WideShapes Go.Proofs Go.Proofs.YtojbfpfkkcdlhaaGreat
theorem rd_place {H : Type} {enc : TypeId × Value → H} {W : World} {base : Nat} {spare : Nat → Bool} {held : Bool} {fuel : Nat} {cs : List Value} {x : DataW H × List MemPlace} (h : DataW.trod enc Tryz.prog W base spare held fuel 92 cs = some x) :
    ∃ a b c : Int, I64 c ∧ Rd W cs (placeC a b c) := by
  obtain ⟨xs, n, _, rfl, hl, hlen, hf⟩ := DataW.trod_struct Tryz.underlying92 h
  have c3 : Tryz.prog.cellsOf 3 = 1 := by kernel_rfl
  have c92 : Tryz.prog.cellsOf 92 = 3 := by kernel_rfl
  rw [c92] at hl
  obtain ⟨a, b, c, rfl⟩ := len3 hl
  obtain ⟨y0, y1, y2, rfl⟩ := len3 (cs := xs) hlen
  have f0 : DataW.trod enc Tryz.prog W base spare held n 3 (([a, b, c].drop 0).take (Tryz.prog.cellsOf 3)) = some y0 := hf 0 _ rfl
  have f1 : DataW.trod enc Tryz.prog W base spare held n 3 (([a, b, c].drop 1).take (Tryz.prog.cellsOf 3)) = some y1 := hf 1 _ rfl
  have f2 : DataW.trod enc Tryz.prog W base spare held n 3 (([a, b, c].drop 2).take (Tryz.prog.cellsOf 3)) = some y2 := hf 2 _ rfl
  rw [c3] at f0 f1 f2
  obtain ⟨x0, w0, _, r0⟩ := rd_int (x := y0) Tryz.underlying3 f0
  obtain ⟨x1, w1, _, r1⟩ := rd_int (x := y1) Tryz.underlying3 f1
  obtain ⟨x2, w2, _, r2⟩ := rd_int (x := y2) Tryz.underlying3 f2
  exact ⟨x0, x1, x2, i64_wf w2, Rd.app (cs := [a]) r0 (Rd.app (cs := [b]) r1 r2)⟩

set_option maxRecDepth 100000 in
theorem open_place {H : Type} {enc : TypeId × Value → H} {W : World} {base b0 : Nat} {spare : Nat → Bool} {held : Bool} {v : Value} {d : DataW H} {p : List MemPlace} (hv : Value.okWide Tryz.prog W .any b0 92 v) (h : DataW.Trod enc Tryz.prog W base spare held 92 v d p) :
    ∃ a b c : Int, I64 c ∧ VR (e0 W) W (.agg (placeC a b c)) v := by
  obtain ⟨cs, rfl, _⟩ := okWide_struct Tryz.underlying92 hv
  obtain ⟨fuel, hf⟩ := h
  obtain ⟨a, b, c, h1, h2⟩ := rd_place hf
  exact ⟨a, b, c, h1, Rd.agg (by simpa [Value.cells] using h2)⟩
end Go.Av

namespace Go.Proofs.YtojbfpfkkcdlhaaGreat.hostSet
set_option linter.unusedVariables false
set_option linter.unusedSimpArgs false
open Go.ChangeShapes Go.WideShapes Go.ChangeAt Go.RowKit Go.Av

theorem own : ownKnob Tryz.prog.godebug = none := by kernel_rfl
theorem laid : laidOutB Tryz.prog = true := by kernel_rfl

set_option maxRecDepth 100000 in
theorem contract (H : Type) (enc : TypeId × Value → H) (W : World) (base : Nat) (args : Array Value) (ds gs : List (DataW H)) (before : List MemPlace)
    (hval : ∀ (j : Nat) t v, Tryz.f9.params[j]? = some t → args[j]? = some v → Value.okWide Tryz.prog W .any base t v)
    (hW : DataW.Whole enc Tryz.prog Tryz.f9.params.toList Rows.hostSetSpec.vars false W args.toList ds gs before) (hk : Rows.uptoSmall H (ds ++ gs) = true) :
    Calls Tryz.prog 9 args W fun e W' => ∃ v, e = .returned v ∧ Rows.hostSetSpec.post enc Tryz.prog Tryz.f9 false true false false W args v W' := by
  have hW' := hW
  obtain ⟨p, q, hA0, hV, rfl, hfz, hnd⟩ := hW
  have hA : DataW.TrodAll enc Tryz.prog W 0 (fun _ => true) true Tryz.f9.params.toList args.toList ds p := hA0
  rw [Tryz.params9] at hA hval
  obtain ⟨v0, vs0, d0, ds0, p0, q0, hargs, rfl, rfl, h0, r0⟩ := trodAll_cons hA
  obtain ⟨v1, vs1, d1, ds1, p1, q1, rfl, rfl, rfl, h1, r1⟩ := trodAll_cons r0
  obtain ⟨v2, vs2, d2, ds2, p2, q2, rfl, rfl, rfl, h2, r2⟩ := trodAll_cons r1
  obtain ⟨rfl, rfl, rfl⟩ := trodAll_nil r2
  obtain rfl : args = #[v0, v1, v2] := by cases args; simp_all
  obtain ⟨rfl, rfl⟩ := trodVars_none hV
  clear hA0
  have hB0 : Rows.uptoBulk d0 ≤ 1048576 := by
    have h : Rows.uptoBulkAll ((d0 :: d1 :: d2 :: []) ++ []) ≤ 1048576 := of_decide_eq_true hk
    exact Nat.le_trans (bulk_part (by simp)) h
  obtain ⟨t, ht, k0⟩ := open_types (hval 0 25 v0 rfl rfl) h0 hB0
  obtain ⟨m, f, u, hu, k1⟩ := open_host (hval 1 55 v1 rfl rfl) h1
  obtain ⟨a, b, c, hc, k2⟩ := open_place (hval 2 92 v2 rfl rfl) h2
  refine (call_of_spec (spec9 0 t ht m f u hu a b c hc) (W := W) (vs := #[v0, v1, v2]) rfl (fun j a x hj hx => ?_)).mono fun en W' hh => ?_
  · match j with
    | 0 => simp at hj hx; subst hj hx; exact k0
    | 1 => simp at hj hx; subst hj hx; exact k1
    | 2 => simp at hj hx; subst hj hx; exact k2
    | j + 3 => simp at hj
  obtain ⟨r, e', rfl, hr, hg, hk⟩ := hh
  cases hr
  have hlt := hW'.lt
  have stay : ∀ {t : TypeId} {v : Value} {d : DataW H} {ps : List MemPlace} (sp : Nat → Bool), Tryz.prog.readableRec t = true → t < Tryz.prog.types.size → DataW.Trod enc Tryz.prog W 0 (fun _ => true) true t v d ps → (∀ p ∈ ps, p ∈ (p0 ++ (p1 ++ (p2 ++ []))) ++ []) → (∀ p ∈ (p0 ++ (p1 ++ (p2 ++ []))) ++ [], sp p.block = true) →
      DataW.Trod enc Tryz.prog W' 0 sp true t v d ps := fun sp hr hs ht hin hsp =>
    WideElems.Trod_stays laid hr hs ht (fun p hp => sameAt_of hk p (hlt p (hin p hp))) (fun p hp => hsp p (hin p hp))
  refine ⟨_, rfl, post_of_same (pa := p0 ++ (p1 ++ (p2 ++ []))) (pv := []) hW' (fun _ _ _ => trodAll_cons_mk (shut_bool Tryz.underlying4 _) trodAll_mk0)
    (fun sp hsp => trodAll_cons_mk (stay sp (by kernel_rfl) (of_decide_eq_true (by kernel_rfl)) h0 (fun p hp => by simp [hp]) hsp) (trodAll_cons_mk (stay sp (by kernel_rfl) (of_decide_eq_true (by kernel_rfl)) h1 (fun p hp => by simp [hp]) hsp) (trodAll_cons_mk (stay sp (by kernel_rfl) (of_decide_eq_true (by kernel_rfl)) h2 (fun p hp => by simp [hp]) hsp) trodAll_mk0)))
    (fun _ _ => rfl) rfl (hg.frame _) hg.2.1 (ok_one (by kernel_rfl) rfl (okWide_bool_mk Tryz.underlying4 _))⟩

end Go.Proofs.YtojbfpfkkcdlhaaGreat.hostSet
/- HostSet returns true for every input of bulk at most 1048576, and its arguments read as they did: the statement. -/
namespace Go.Proofs.YtojbfpfkkcdlhaaGreat.hostSet
set_option linter.unusedVariables false
set_option linter.unusedSimpArgs false
open Go.ChangeShapes Go.WideShapes Go.ChangeAt Go.RowKit Go.Av

set_option maxRecDepth 100000 in
theorem lifted (os : Os) (started : os.Started) (H : Type) (enc : TypeId × Value → H) (F : Stop.Interp) :
    ReturnsInHanded {} Tryz.checked os 9 .any ((Rows.OpenSpec.upto Rows.hostSetSpec).pre6 enc Tryz.prog Tryz.f9 Rows.hostSetUptoRow.domain false) (((Rows.OpenSpec.upto Rows.hostSetSpec).at F).post enc Tryz.prog Tryz.f9 false true false false) := by
  refine returnsInHanded_of_cond (C := Tryz.checked) (s := Rows.OpenSpec.upto Rows.hostSetSpec) (k := Rows.uptoSmall) rfl own started (by kernel_rfl) Tryz.func9
    (OpenSpec.witness (enc := enc) (C := Tryz.checked) (s := Rows.OpenSpec.upto Rows.hostSetSpec) (k := Rows.uptoSmall) rfl false ⟨#[], #[.agg #[.slice none 0 0, .slice none 0 0], .agg #[.slice none 0 0, .slice none 0 0, .slice none 0 0], .agg #[.int .i64 0, .int .i64 0, .int .i64 0]], []⟩ 8 (by kernel_rfl) (by kernel_rfl) (by kernel_rfl)
      (x := ([.agg [.nil, .nil], .agg [.agg [.nil, .nil], .nil], .agg [.lit (.int .i64 0), .lit (.int .i64 0), .lit (.int .i64 0)]], [], [])) (by kernel_rfl) rfl (by kernel_rfl)) ?_
  intro W base args ds gs before hval hW _ hk _
  exact contract H enc W base args ds gs before hval hW hk

end Go.Proofs.YtojbfpfkkcdlhaaGreat.hostSet
/- HostSet returns true for every input of bulk at most 1048576, and its arguments read as they did: the statement. -/
namespace Go.Proofs.YtojbfpfkkcdlhaaGreat.hostSet
set_option linter.unusedVariables false
set_option linter.unusedSimpArgs false
open Go.ChangeShapes Go.WideShapes Go.ChangeAt Go.RowKit Go.Av

set_option maxRecDepth 100000 in
theorem closed : joinedFacts Tryz.prog 9 Tryz.f9 (Rows.OpenSpec.upto Rows.hostSetSpec).bare Rows.hostSetUptoRow = true := by
  unfold joinedFacts
  exact (and_mk (and_mk (and_mk (and_mk (and_mk (and_mk (and_mk (and_mk (and_mk (and_mk (and_mk (and_mk (and_mk (and_mk (and_mk (and_mk (and_mk (and_mk (and_mk (and_mk (and_mk (and_mk (and_mk (and_mk (and_mk (and_mk (and_mk (and_mk (and_mk (and_mk (and_mk k1 k2) k3) k4) k5) k6) k7) k8) k9) k10) k11) k12) k13) k14) k15) k16) k17) k18) k19) k20) k21) k22) k23) k24) k25) k26) k27) k28) k29) k30) k31) k32)

theorem over : Rows.hostSetUptoRow.holds Tryz.pinned (Rows.OpenSpec.upto Rows.hostSetSpec) :=
  OpenClaim.holds_of_cond 9 Tryz.f9 rfl rfl rfl rfl rfl rfl rfl ⟨rfl, rfl, rfl, rfl, rfl⟩ rfl rfl rfl rfl rfl (by kernel_rfl) Tryz.func9 closed
    (of_decide_eq_true (by kernel_rfl)) (by unfold Func.isWrapper; first | (rw [if_pos (by decide +kernel)]; kernel_rfl) | (rw [if_neg (by decide +kernel)]; exact ⟨rfl, rfl⟩))
    (fun os started H enc _ F => lifted os started H enc F)

theorem proved : Rows.HostSetUptoSaid :=
  over
end Go.Proofs.YtojbfpfkkcdlhaaGreat.hostSet
#print axioms Go.Proofs.YtojbfpfkkcdlhaaGreat.hostSet.proved
