/- What the functions of HostSameness compute, third part. -/
import Derived.Test.YtojbfpfkkcdlhaaGreatS1
namespace Go.Av
set_option linter.unusedVariables false
set_option linter.unusedSimpArgs false
open Go.Proofs

/-- A graph, a host, as cells. -/
def graphC (n : List Int) (e : List (Int × Int × Int)) : List AV := [encInts n, encEdges e]
def hostC (n : List Int) (e : List (Int × Int × Int)) (v : List (List Int)) : List AV := [encInts n, encEdges e, encIntss v]

theorem spec110 (R : Nat) (n m : List Int) (e f : List (Int × Int × Int)) (hn : n.length < 4611686018427387904) (he : e.length < 4611686018427387904) :
    Spec Tryz.prog R 0 110 [.agg (graphC n e), .agg (graphC m f)] [] (.bool (decide (n = m) && decide (e = f))) [] := by
  refine spec_intro hmix Tryz.func110 c110 (fun vs w => Tryz.call110 vs w) (by simp) (by simp [Tryz.ntmps110]) ?_
  show awb _ _ _ (retK _ _ _ _ _) _
  simp [graphC]
  refine call_val (spec211 _ _ _ hn) (by simp [nmL, nm_encInts]) ?_
  by_cases hnm : n = m
  case neg =>
    simp [hnm, encEdges]
    exact ret_pure (by simp [resA, resOne]) (by simp [AV.nm])
  subst hnm
  by_cases hl : e.length = f.length
  case neg =>
    have : ¬ e = f := by rintro rfl; exact hl rfl
    simp [encEdges, Int.ofNat_inj, hl]
    exact ret_pure (by simp [resA, resOne, this]) (by simp [AV.nm])
  simp [encEdges, hl]
  rw [← hl]
  refine loop_sub (ι := { k : Nat // k ≤ e.length ∧ e.take k = f.take k }) (fun k => ⟨[(2, .ptr R 0), (3, .ptr (R + 1) 0), (5, .int .i64 k.1)], [(R, graphC n e), (R + 1, graphC n f)], R + 2⟩) (fun k => e.length - k.1) ⟨0, by simp⟩ ?_ ?_ (Nat.le_refl _) ?_
  · simp
  · simp [graphC, encEdges, hl]
  · rintro ⟨k, hk, hp⟩
    rcases Nat.lt_or_ge k e.length with hlt | hge
    · have hlt' := hl ▸ hlt
      have h3 : k * 3 + 3 ≤ e.length * 3 := by omega
      have h3' : k * 3 + 3 ≤ f.length * 3 := by omega
      by_cases hxy : e[k] = f[k]
      · simp [graphC, encEdges, hlt, hlt', hxy, h3, h3', edgeCs_at _ _ hlt, edgeCs_at _ _ hlt', edgeC, neq84, wrap_nat (show k < 4611686018427387904 by omega), -Subtype.exists]
        refine ⟨⟨k + 1, hlt, ?_⟩, ?_, shift_sub ?_ ?_ (Nat.le_refl _)⟩
        · rw [List.take_add_one, List.take_add_one, hp]; simp [hlt, hlt', hxy]
        · simp only; omega
        · simp
        · simp
      · have : ¬ e = f := by rintro rfl; exact hxy rfl
        have hd : ¬ (e[k].1 = f[k].1 ∧ e[k].2.1 = f[k].2.1 ∧ e[k].2.2 = f[k].2.2) := fun h => hxy (Prod.ext h.1 (Prod.ext h.2.1 h.2.2))
        have hd2 : (decide (e[k].1 = f[k].1) && (decide (e[k].2.1 = f[k].2.1) && (decide (e[k].2.2 = f[k].2.2) && true))) = false := by simpa using hd
        simp [graphC, encEdges, hlt, hlt', h3, h3', edgeCs_at _ _ hlt, edgeCs_at _ _ hlt', edgeC, neq84, hd2, -Bool.and_true]
        exact ret_pure (by simp [resA, resOne, this]) (by simp [AV.nm])
    · have : e = f := by
        have ek : k = e.length := by omega
        rw [ek, List.take_length, hl, List.take_length] at hp
        exact hp
      simp [graphC, encEdges, Nat.not_lt.2 hge]
      exact ret_pure (by simp [resA, resOne, this]) (by simp [AV.nm])

theorem spec83 (R : Nat) (n : List Int) (e : List (Int × Int × Int)) : Spec Tryz.prog R 0 83 [.agg (graphC n e)] [] (.bool (decide (n.length ≤ 45) && decide (e.length ≤ 90))) [] := by
  refine spec_intro hmix Tryz.func83 c83 (fun vs w => Tryz.call83 vs w) (by simp) (by simp [Tryz.ntmps83]) ?_
  show awb _ _ _ (retK _ _ _ _ _) _
  have h1 : (decide ((n.length : Int) ≤ 45)) = decide (n.length ≤ 45) := by simp; omega
  have h2 : (decide ((e.length : Int) ≤ 90)) = decide (e.length ≤ 90) := by simp; omega
  by_cases hn : n.length ≤ 45
  · simp [graphC, encInts, encEdges, h1, h2, hn, -decide_eq_true_eq, -decide_eq_false_iff_not]
    exact ret_pure (by simp [resA, resOne]) (by simp [AV.nm])
  · simp [graphC, encInts, encEdges, h1, h2, hn, -decide_eq_true_eq, -decide_eq_false_iff_not]
    exact ret_pure (by simp [resA, resOne]) (by simp [AV.nm])

theorem spec48 (R : Nat) (n m : List Int) (e f : List (Int × Int × Int)) (v u : List (List Int)) (hn : n.length < 4611686018427387904) (he : e.length < 4611686018427387904) (hv : v.length < 4611686018427387904) (hr : ∀ r ∈ v, r.length < 4611686018427387904) :
    Spec Tryz.prog R 0 48 [.agg (hostC n e v), .agg (hostC m f u)] [] (.bool (decide (n = m ∧ e = f ∧ v = u))) [] := by
  refine spec_intro hmix Tryz.func48 c48 (fun vs w => Tryz.call48 vs w) (by simp) (by simp [Tryz.ntmps48]) ?_
  show awb _ _ _ (retK _ _ _ _ _) _
  simp [hostC]
  refine call_val (spec56 _ _ _ hn) (by simp [nmL, nm_encInts]) ?_
  by_cases hnm : n = m
  case neg =>
    simp [hnm]
    exact ret_pure (by simp [resA, resOne, hnm]) (by simp [AV.nm])
  subst hnm
  simp
  refine call_val (spec133 _ _ _ he) (by simp [nmL, nm_encEdges]) ?_
  by_cases hef : e = f
  case neg =>
    simp [hef]
    exact ret_pure (by simp [resA, resOne, hef]) (by simp [AV.nm])
  subst hef
  simp
  refine call_val (spec134 _ _ _ hv hr) (by simp [nmL, nm_encIntss, AV.nm]) ?_
  simp
  exact ret_pure (by simp [resA, resOne]) (by simp [AV.nm])
end Go.Av
