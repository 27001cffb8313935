/- What the functions of HostSameness compute, fourth part. -/
import Derived.Test.YtojbfpfkkcdlhaaGreatS2
namespace Go.Av
set_option linter.unusedVariables false
set_option linter.unusedSimpArgs false
open Go.Proofs

theorem spec41 (R : Nat) (n m : List Int) (e f : List (Int × Int × Int)) (v u : List (List Int)) (hn : n.length < 4611686018427387904) (he : e.length < 4611686018427387904) (hv : v.length < 4611686018427387904)
    (hr : ∀ r ∈ v, r.length < 4611686018427387904 ∧ ∀ x ∈ r, I64 x) (hr' : ∀ r ∈ u, r.length < 4611686018427387904 ∧ ∀ x ∈ r, I64 x) :
    Spec Tryz.prog R 0 41 [.agg (hostC n e v), .agg (hostC m f u)] [] (.bool (decide (n = m ∧ e = f ∧ v = u))) [] := by
  refine spec_intro hmix Tryz.func41 c41 (fun vs w => Tryz.call41 vs w) (by simp) (by simp [Tryz.ntmps41]) ?_
  show awb _ _ _ (retK _ _ _ _ _) _
  simp [hostC]
  refine call_val (spec110 _ n m e f hn he) (by simp [nmL, AV.nm, nm_encInts, nm_encEdges, graphC]) ?_
  by_cases hnm : n = m ∧ e = f
  case neg =>
    have h1 : (decide (n = m) && decide (e = f)) = false := by simpa using hnm
    have h2 : ¬ (n = m ∧ e = f ∧ v = u) := fun h => hnm ⟨h.1, h.2.1⟩
    simp [h1, -Bool.and_eq_false_imp]
    exact ret_pure (by simp [resA, resOne, -not_and]; simpa using h2) (by simp [AV.nm])
  obtain ⟨rfl, rfl⟩ := hnm
  by_cases hl : v.length = u.length
  case neg =>
    have : ¬ v = u := by rintro rfl; exact hl rfl
    simp [encIntss, Int.ofNat_inj, hl]
    exact ret_pure (by simp [resA, resOne, this]) (by simp [AV.nm])
  simp [encIntss, hl]
  rw [← hl]
  refine loop_sub (ι := { k : Nat // k ≤ v.length ∧ v.take k = u.take k }) (fun k => ⟨[(2, .ptr R 0), (3, .ptr (R + 1) 0), (5, .int .i64 k.1)], [(R, hostC n e v), (R + 1, hostC n e u)], R + 2⟩) (fun k => v.length - k.1) ⟨0, by simp⟩ ?_ ?_ (Nat.le_refl _) ?_
  · simp
  · simp [hostC, encIntss, hl]
  · rintro ⟨k, hk, hp⟩
    rcases Nat.lt_or_ge k v.length with hlt | hge
    · have hlt' := hl ▸ hlt
      simp [hostC, encIntss, hlt, hlt', -Subtype.exists]
      refine call_val (spec127 _ _ _ (hr _ (List.getElem_mem hlt)).1) (by simp [nmL, nm_encInts]) ?_
      have hz := cmpI_zero v[k] u[k] (hr _ (List.getElem_mem hlt)).2 (hr' _ (List.getElem_mem hlt')).2 (hr _ (List.getElem_mem hlt)).1 (hr' _ (List.getElem_mem hlt')).1
      by_cases hxy : v[k] = u[k]
      · have hz0 : cmpI u[k] u[k] = 0 := by have := hz.2 hxy; rwa [hxy] at this
        simp [hz0, hxy, wrap_nat (show k < 4611686018427387904 by omega), -Subtype.exists]
        refine ⟨⟨k + 1, hlt, ?_⟩, ?_, shift_sub ?_ ?_ (Nat.le_refl _)⟩
        · rw [List.take_add_one, List.take_add_one, hp]; simp [hlt, hlt', hxy]
        · simp only; omega
        · simp
        · simp
      · have : ¬ v = u := by rintro rfl; exact hxy rfl
        have hz' : ¬ cmpI v[k] u[k] = 0 := fun h => hxy (hz.1 h)
        simp [hz']
        exact ret_pure (by simp [resA, resOne, this]) (by simp [AV.nm])
    · have : v = u := by
        have ek : k = v.length := by omega
        rw [ek, List.take_length, hl, List.take_length] at hp
        exact hp
      simp [hostC, encIntss, Nat.not_lt.2 hge]
      exact ret_pure (by simp [resA, resOne, this]) (by simp [AV.nm])

/-- Hosts that are taken. -/
def fewH (n : List Int) (e : List (Int × Int × Int)) (v : List (List Int)) : Bool := decide (n.length ≤ 45) && decide (e.length ≤ 90) && decide (v.length ≤ 45) && v.all fun r => decide (r.length ≤ 12)

theorem spec47 (R : Nat) (n : List Int) (e : List (Int × Int × Int)) (v : List (List Int)) : Spec Tryz.prog R 0 47 [.agg (hostC n e v)] [] (.bool (fewH n e v)) [] := by
  refine spec_intro hmix Tryz.func47 c47 (fun vs w => Tryz.call47 vs w) (by simp) (by simp [Tryz.ntmps47]) ?_
  show awb _ _ _ (retK _ _ _ _ _) _
  simp [hostC]
  refine call_val (spec83 _ n e) (by simp [nmL, AV.nm, nm_encInts, nm_encEdges, graphC]) ?_
  cases h1 : (decide (n.length ≤ 45) && decide (e.length ≤ 90)) with
  | false =>
    simp [-Bool.and_eq_false_imp]
    exact ret_pure (by simp [resA, resOne, fewH, h1]) (by simp [AV.nm])
  | true =>
  have h2 : (decide ((45 : Int) < (v.length : Int))) = !decide (v.length ≤ 45) := by
    by_cases h : v.length ≤ 45
    · simp [h]; omega
    · simp [h]; omega
  by_cases hv : v.length ≤ 45
  case neg =>
    simp [encIntss, h2, hv, -decide_eq_true_eq, -decide_eq_false_iff_not]
    exact ret_pure (by simp [resA, resOne, fewH, hv]) (by simp [AV.nm])
  simp [encIntss, h2, hv, -decide_eq_true_eq, -decide_eq_false_iff_not]
  refine loop_sub (ι := { k : Nat // k ≤ v.length ∧ ∀ r ∈ v.take k, r.length ≤ 12 }) (fun k => ⟨[(1, .ptr R 0), (3, .int .i64 k.1)], [(R, hostC n e v)], R + 1⟩) (fun k => v.length - k.1) ⟨0, by simp⟩ ?_ ?_ (Nat.le_refl _) ?_
  · simp
  · simp [hostC, encIntss]
  · rintro ⟨k, hk, hp⟩
    rcases Nat.lt_or_ge k v.length with hlt | hge
    · by_cases hxy : v[k].length ≤ 12
      · have h3 : ¬ ((12 : Int) < (v[k].length : Int)) := by omega
        simp [hostC, encIntss, encInts, hlt, h3, wrap_nat (show k < 4611686018427387904 by omega), -Subtype.exists]
        refine ⟨⟨k + 1, hlt, ?_⟩, ?_, shift_sub ?_ ?_ (Nat.le_refl _)⟩
        · intro r hr
          rw [List.take_add_one, List.mem_append] at hr
          rcases hr with hr | hr
          · exact hp r hr
          · rw [List.getElem?_eq_getElem hlt] at hr
            have hr2 : r = v[k] := by simpa using hr
            rw [hr2]; exact hxy
        · simp only; omega
        · simp
        · simp
      · have h3 : ((12 : Int) < (v[k].length : Int)) := by omega
        have h4 : (v.all fun r => decide (r.length ≤ 12)) = false := by
          rw [List.all_eq_false]
          exact ⟨v[k], List.getElem_mem hlt, by simpa using hxy⟩
        simp [hostC, encIntss, encInts, hlt, h3]
        exact ret_pure (by simp [resA, resOne, fewH, h4, -List.all_eq_false]) (by simp [AV.nm])
    · have h4 : (v.all fun r => decide (r.length ≤ 12)) = true := by
        rw [List.all_eq_true]
        intro r hr
        have ek : k = v.length := by omega
        rw [ek, List.take_length] at hp
        simpa using hp r hr
      simp [hostC, encIntss, Nat.not_lt.2 hge]
      exact ret_pure (by simp [resA, resOne, fewH, h4, h1, hv, -List.all_eq_true]) (by simp [AV.nm])
end Go.Av
