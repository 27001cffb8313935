/- HostValid returns true for every input of bulk at most 1048576, and its arguments read as they did. -/
import Derived.Test.YtojbfpfkkcdlhaaGreatRdT
import Derived.Test.YtojbfpfkkcdlhaaGreatRows
import Derived.WalkKit
import Derived.JoinedCond
import Derived.ProofKit
import Derived.OpenShut
import Derived.Test.YtojbfpfkkcdlhaaGreatJ5
namespace Go.Proofs.YtojbfpfkkcdlhaaGreat.hostValid
set_option linter.unusedVariables false
set_option linter.unusedSimpArgs false
open Go.ChangeShapes Go.WideShapes Go.ChangeAt Go.RowKit Go.Av

theorem own : ownKnob Tryz.prog.godebug = none := by kernel_rfl
theorem laid : laidOutB Tryz.prog = true := by kernel_rfl

set_option maxRecDepth 100000 in
theorem contract (H : Type) (enc : TypeId × Value → H) (W : World) (base : Nat) (args : Array Value) (ds gs : List (DataW H)) (before : List MemPlace)
    (hval : ∀ (j : Nat) t v, Tryz.f5.params[j]? = some t → args[j]? = some v → Value.okWide Tryz.prog W .any base t v)
    (hW : DataW.Whole enc Tryz.prog Tryz.f5.params.toList Rows.hostValidSpec.vars false W args.toList ds gs before) (hk : Rows.uptoSmall H (ds ++ gs) = true) :
    Calls Tryz.prog 5 args W fun e W' => ∃ v, e = .returned v ∧ Rows.hostValidSpec.post enc Tryz.prog Tryz.f5 false true false false W args v W' := by
  have hW' := hW
  obtain ⟨p, q, hA0, hV, rfl, hfz, hnd⟩ := hW
  have hA : DataW.TrodAll enc Tryz.prog W 0 (fun _ => true) true Tryz.f5.params.toList args.toList ds p := hA0
  rw [Tryz.params5] at hA hval
  obtain ⟨v0, vs0, d0, ds0, p0, q0, hargs, rfl, rfl, h0, r0⟩ := trodAll_cons hA
  obtain ⟨v1, vs1, d1, ds1, p1, q1, rfl, rfl, rfl, h1, r1⟩ := trodAll_cons r0
  obtain ⟨rfl, rfl, rfl⟩ := trodAll_nil r1
  obtain rfl : args = #[v0, v1] := by cases args; simp_all
  obtain ⟨rfl, rfl⟩ := trodVars_none hV
  clear hA0
  have hB0 : Rows.uptoBulk d0 ≤ 1048576 := by
    have h : Rows.uptoBulkAll ((d0 :: d1 :: []) ++ []) ≤ 1048576 := of_decide_eq_true hk
    exact Nat.le_trans (bulk_part (by simp)) h
  obtain ⟨t, ht, k0⟩ := open_types (hval 0 25 v0 rfl rfl) h0 hB0
  obtain ⟨m, f, u, hu, k1⟩ := open_host (hval 1 55 v1 rfl rfl) h1
  refine (call_of_spec (spec5 0 t ht m f u) (W := W) (vs := #[v0, v1]) rfl (fun j a x hj hx => ?_)).mono fun en W' hh => ?_
  · match j with
    | 0 => simp at hj hx; subst hj hx; exact k0
    | 1 => simp at hj hx; subst hj hx; exact k1
    | j + 2 => simp at hj
  obtain ⟨r, e', rfl, hr, hg, hk⟩ := hh
  cases hr
  have hlt := hW'.lt
  have stay : ∀ {t : TypeId} {v : Value} {d : DataW H} {ps : List MemPlace} (sp : Nat → Bool), Tryz.prog.readableRec t = true → t < Tryz.prog.types.size → DataW.Trod enc Tryz.prog W 0 (fun _ => true) true t v d ps → (∀ p ∈ ps, p ∈ (p0 ++ (p1 ++ [])) ++ []) → (∀ p ∈ (p0 ++ (p1 ++ [])) ++ [], sp p.block = true) →
      DataW.Trod enc Tryz.prog W' 0 sp true t v d ps := fun sp hr hs ht hin hsp =>
    WideElems.Trod_stays laid hr hs ht (fun p hp => sameAt_of hk p (hlt p (hin p hp))) (fun p hp => hsp p (hin p hp))
  refine ⟨_, rfl, post_of_same (pa := p0 ++ (p1 ++ [])) (pv := []) hW' (fun _ _ _ => trodAll_cons_mk (shut_bool Tryz.underlying4 _) trodAll_mk0)
    (fun sp hsp => trodAll_cons_mk (stay sp (by kernel_rfl) (of_decide_eq_true (by kernel_rfl)) h0 (fun p hp => by simp [hp]) hsp) (trodAll_cons_mk (stay sp (by kernel_rfl) (of_decide_eq_true (by kernel_rfl)) h1 (fun p hp => by simp [hp]) hsp) trodAll_mk0))
    (fun _ _ => rfl) rfl (hg.frame _) hg.2.1 (ok_one (by kernel_rfl) rfl (okWide_bool_mk Tryz.underlying4 _))⟩

end Go.Proofs.YtojbfpfkkcdlhaaGreat.hostValid
/- HostValid returns true for every input of bulk at most 1048576, and its arguments read as they did: the statement. -/
namespace Go.Proofs.YtojbfpfkkcdlhaaGreat.hostValid
set_option linter.unusedVariables false
set_option linter.unusedSimpArgs false
open Go.ChangeShapes Go.WideShapes Go.ChangeAt Go.RowKit Go.Av

set_option maxRecDepth 100000 in
theorem lifted (os : Os) (started : os.Started) (H : Type) (enc : TypeId × Value → H) (F : Stop.Interp) :
    ReturnsInHanded {} Tryz.checked os 5 .any ((Rows.OpenSpec.upto Rows.hostValidSpec).pre6 enc Tryz.prog Tryz.f5 Rows.hostValidUptoRow.domain false) (((Rows.OpenSpec.upto Rows.hostValidSpec).at F).post enc Tryz.prog Tryz.f5 false true false false) := by
  refine returnsInHanded_of_cond (C := Tryz.checked) (s := Rows.OpenSpec.upto Rows.hostValidSpec) (k := Rows.uptoSmall) rfl own started (by kernel_rfl) Tryz.func5
    (OpenSpec.witness (enc := enc) (C := Tryz.checked) (s := Rows.OpenSpec.upto Rows.hostValidSpec) (k := Rows.uptoSmall) rfl false ⟨#[], #[.agg #[.slice none 0 0, .slice none 0 0], .agg #[.slice none 0 0, .slice none 0 0, .slice none 0 0]], []⟩ 8 (by kernel_rfl) (by kernel_rfl) (by kernel_rfl)
      (x := ([.agg [.nil, .nil], .agg [.agg [.nil, .nil], .nil]], [], [])) (by kernel_rfl) rfl (by kernel_rfl)) ?_
  intro W base args ds gs before hval hW _ hk _
  exact contract H enc W base args ds gs before hval hW hk

end Go.Proofs.YtojbfpfkkcdlhaaGreat.hostValid
/- HostValid returns true for every input of bulk at most 1048576, and its arguments read as they did: the statement. -/
namespace Go.Proofs.YtojbfpfkkcdlhaaGreat.hostValid
set_option linter.unusedVariables false
set_option linter.unusedSimpArgs false
open Go.ChangeShapes Go.WideShapes Go.ChangeAt Go.RowKit Go.Av

set_option maxRecDepth 100000 in
theorem closed : joinedFacts Tryz.prog 5 Tryz.f5 (Rows.OpenSpec.upto Rows.hostValidSpec).bare Rows.hostValidUptoRow = true := by
  unfold joinedFacts
  exact (and_mk (and_mk (and_mk (and_mk (and_mk (and_mk (and_mk (and_mk (and_mk (and_mk (and_mk (and_mk (and_mk (and_mk (and_mk (and_mk (and_mk (and_mk (and_mk (and_mk (and_mk (and_mk (and_mk (and_mk (and_mk (and_mk (and_mk (and_mk (and_mk (and_mk (and_mk k1 k2) k3) k4) k5) k6) k7) k8) k9) k10) k11) k12) k13) k14) k15) k16) k17) k18) k19) k20) k21) k22) k23) k24) k25) k26) k27) k28) k29) k30) k31) k32)

theorem over : Rows.hostValidUptoRow.holds Tryz.pinned (Rows.OpenSpec.upto Rows.hostValidSpec) :=
  OpenClaim.holds_of_cond 5 Tryz.f5 rfl rfl rfl rfl rfl rfl rfl ⟨rfl, rfl, rfl, rfl, rfl⟩ rfl rfl rfl rfl rfl (by kernel_rfl) Tryz.func5 closed
    (of_decide_eq_true (by kernel_rfl)) (by unfold Func.isWrapper; first | (rw [if_pos (by decide +kernel)]; kernel_rfl) | (rw [if_neg (by decide +kernel)]; exact ⟨rfl, rfl⟩))
    (fun os started H enc _ F => lifted os started H enc F)

theorem proved : Rows.HostValidUptoSaid :=
  over
end Go.Proofs.YtojbfpfkkcdlhaaGreat.hostValid
#print axioms Go.Proofs.YtojbfpfkkcdlhaaGreat.hostValid.proved
