/- The law of sameness of hosts: what the walk gives. -/
import Derived.Test.YtojbfpfkkcdlhaaGreatS4
namespace Go.Av
set_option linter.unusedVariables false
set_option linter.unusedSimpArgs false
open Go.Proofs

/-- Rows and their numbers are in range. -/
def okRows (v : List (List Int)) : Prop := ∀ r ∈ v, ∀ x ∈ r, I64 x

theorem spec8 (R : Nat) (n m : List Int) (e f : List (Int × Int × Int)) (v u : List (List Int)) (hv : okRows v) (hu : okRows u) :
    Spec Tryz.prog R 0 8 [.agg (hostC n e v), .agg (hostC m f u)] [] (.bool true) [] := by
  refine spec_intro hmix Tryz.func8 c8 (fun vs w => Tryz.call8 vs w) (by simp) (by simp [Tryz.ntmps8]) ?_
  show awb _ _ _ (retK _ _ _ _ _) _
  have nmH : ∀ (S : Nat → Prop) n e v, nmL S (hostC n e v) := fun S n e v => by simp [hostC]
  have lenH : ∀ n e v, (hostC n e v).length = 3 := fun n e v => rfl
  have takeH : ∀ n e v, (hostC n e v).take 3 = hostC n e v := fun n e v => rfl
  simp [lenH, takeH, Nat.add_assoc]
  refine call_val (spec30 _) (by simp) ?_
  simp [lenH, takeH]
  refine call_val (spec47 _ n e v) (by simp [nmH]) ?_
  cases h1 : fewH n e v with
  | false =>
    simp
    refine call_val (spec30 _) (by simp) ?_
    simp
    exact ret_pure (by simp [resA, resOne]) (by simp)
  | true =>
  simp [lenH, takeH]
  refine call_val (spec47 _ m f u) (by simp [nmH]) ?_
  cases h2 : fewH m f u with
  | false =>
    simp
    refine call_val (spec30 _) (by simp) ?_
    simp
    exact ret_pure (by simp [resA, resOne]) (by simp)
  | true =>
  have rows : ∀ w : List (List Int), (w.all fun r => decide (r.length ≤ 12)) = true → ∀ r ∈ w, r.length ≤ 12 := fun w hw r hr => of_decide_eq_true (List.all_eq_true.1 hw r hr)
  simp only [fewH, Bool.and_eq_true, decide_eq_true_eq] at h1 h2
  obtain ⟨⟨⟨a1, a2⟩, a3⟩, b3⟩ := h1
  have b4 := rows v b3
  have b5 := rows u h2.2
  have a4 : ∀ r ∈ v, r.length < 4611686018427387904 := fun r hr => by have := b4 r hr; omega
  have a5 : ∀ r ∈ v, r.length ≤ 1000000 := fun r hr => by have := b4 r hr; omega
  have a6 : ∀ r ∈ v, r.length < 4611686018427387904 ∧ ∀ x ∈ r, I64 x := fun r hr => ⟨a4 r hr, hv r hr⟩
  have a7 : ∀ r ∈ u, r.length < 4611686018427387904 ∧ ∀ x ∈ r, I64 x := fun r hr => ⟨by have := b5 r hr; omega, hu r hr⟩
  simp [lenH, takeH]
  refine call_val (spec33 _ n e v (by omega) (by omega) (by omega) a5) (by simp [nmH]) ?_
  simp [lenH, takeH]
  refine call_val (spec48 _ n m e f v u (by omega) (by omega) (by omega) a4) (by simp [nmH]) ?_
  simp [lenH, takeH]
  refine call_val (spec41 _ n m e f v u (by omega) (by omega) (by omega) a6 a7) (by simp [nmH]) ?_
  simp [lenH, takeH]
  refine call_val (spec33 _ n e v (by omega) (by omega) (by omega) a5) (by simp [nmH]) ?_
  simp [lenH, takeH]
  refine call_val (spec48 _ n n e e v v (by omega) (by omega) (by omega) a4) (by simp [nmH]) ?_
  simp [lenH, takeH]
  exact ret_pure (by simp [resA, resOne]) (by simp)
end Go.Av
