/- What the functions of HostSameness compute. -/
import Derived.Test.YtojbfpfkkcdlhaaGreatAv21
import Derived.Test.YtojbfpfkkcdlhaaGreatTy1
import Derived.Test.YtojbfpfkkcdlhaaGreatCs0
import Derived.Test.YtojbfpfkkcdlhaaGreatCs1
import Derived.Test.YtojbfpfkkcdlhaaGreatCs2
import Derived.Test.YtojbfpfkkcdlhaaGreatAw30
namespace Go.Av
set_option linter.unusedVariables false
set_option linter.unusedSimpArgs false
open Go.Proofs

theorem neq84 (a b c a' b' c' : Int) : opBin Tryz.prog .neq 84 (.agg [.int .i64 a, .int .i64 b, .int .i64 c]) (.agg [.int .i64 a', .int .i64 b', .int .i64 c']) = some (.bool (!(decide (a = a') && (decide (b = b') && (decide (c = c') && true))))) := by kernel_rfl

theorem spec211 (R : Nat) (a b : List Int) (ha : a.length < 4611686018427387904) : Spec Tryz.prog R 0 211 [encInts a, encInts b] [] (.bool (decide (a = b))) [] := by
  refine spec_intro hmix Tryz.func211 c211 (fun vs w => Tryz.call211 vs w) (by simp) (by simp [Tryz.ntmps211]) ?_
  show awb _ _ _ (retK _ _ _ _ _) _
  by_cases hl : a.length = b.length
  case neg =>
    have : ¬ a = b := by rintro rfl; exact hl rfl
    simp [encInts, Int.ofNat_inj, hl]
    exact ret_pure (by simp [resA, resOne, this]) (by simp [AV.nm])
  simp [encInts, hl]
  rw [← hl]
  refine loop_sub (ι := { k : Nat // k ≤ a.length ∧ a.take k = b.take k }) (fun k => ⟨[(0, encInts a), (1, encInts b), (5, .int .i64 k.1)], [], R⟩) (fun k => a.length - k.1) ⟨0, by simp⟩ ?_ ?_ (Nat.le_refl _) ?_
  · simp [encInts, hl]
  · simp
  · rintro ⟨k, hk, hp⟩
    rcases Nat.lt_or_ge k a.length with hlt | hge
    · have hlt' := hl ▸ hlt
      by_cases hxy : a[k] = b[k]
      · simp [encInts, hlt, hlt', hxy, wrap_nat (show k < 4611686018427387904 by omega), -Subtype.exists]
        refine ⟨⟨k + 1, hlt, ?_⟩, ?_, shift_sub ?_ ?_ (Nat.le_refl _)⟩
        · rw [List.take_add_one, List.take_add_one, hp]; simp [hlt, hlt', hxy]
        · simp only; omega
        · simp
        · simp
      · have : ¬ a = b := by rintro rfl; exact hxy rfl
        simp [encInts, hlt, hlt', hxy]
        exact ret_pure (by simp [resA, resOne, this]) (by simp [AV.nm])
    · have : a = b := by
        have e : k = a.length := by omega
        rw [e, List.take_length, hl, List.take_length] at hp
        exact hp
      simp [encInts, Nat.not_lt.2 hge]
      exact ret_pure (by simp [resA, resOne, this]) (by simp [AV.nm])

theorem spec56 (R : Nat) (a b : List Int) (ha : a.length < 4611686018427387904) : Spec Tryz.prog R 0 56 [encInts a, encInts b] [] (.bool (decide (a = b))) [] := by
  refine spec_intro hmix Tryz.func56 c56 (fun vs w => Tryz.call56 vs w) (by simp) (by simp [Tryz.ntmps56]) ?_
  show awb _ _ _ (retK _ _ _ _ _) _
  by_cases hl : a.length = b.length
  case neg =>
    have : ¬ a = b := by rintro rfl; exact hl rfl
    simp [encInts, Int.ofNat_inj, hl]
    exact ret_pure (by simp [resA, resOne, this]) (by simp [AV.nm])
  simp [encInts, hl]
  rw [← hl]
  refine loop_sub (ι := { k : Nat // k ≤ a.length ∧ a.take k = b.take k }) (fun k => ⟨[(0, encInts a), (1, encInts b), (12, .int .i64 a.length), (13, .int .i64 k.1)], [], R⟩) (fun k => a.length - k.1) ⟨0, by simp⟩ ?_ ?_ (Nat.le_refl _) ?_
  · simp [encInts, hl]
  · simp
  · rintro ⟨k, hk, hp⟩
    rcases Nat.lt_or_ge k a.length with hlt | hge
    · have hlt' := hl ▸ hlt
      by_cases hxy : a[k] = b[k]
      · simp [encInts, hlt, hlt', hxy, wrap_nat (show k < 4611686018427387904 by omega), -Subtype.exists]
        refine ⟨⟨k + 1, hlt, ?_⟩, ?_, shift_sub ?_ ?_ (Nat.le_refl _)⟩
        · rw [List.take_add_one, List.take_add_one, hp]; simp [hlt, hlt', hxy]
        · simp only; omega
        · simp
        · simp
      · have : ¬ a = b := by rintro rfl; exact hxy rfl
        simp [encInts, hlt, hlt', hxy]
        exact ret_pure (by simp [resA, resOne, this]) (by simp [AV.nm])
    · have : a = b := by
        have e : k = a.length := by omega
        rw [e, List.take_length, hl, List.take_length] at hp
        exact hp
      simp [encInts, Nat.not_lt.2 hge]
      exact ret_pure (by simp [resA, resOne, this]) (by simp [AV.nm])

theorem spec133 (R : Nat) (a b : List (Int × Int × Int)) (ha : a.length < 4611686018427387904) : Spec Tryz.prog R 0 133 [encEdges a, encEdges b] [] (.bool (decide (a = b))) [] := by
  refine spec_intro hmix Tryz.func133 c133 (fun vs w => Tryz.call133 vs w) (by simp) (by simp [Tryz.ntmps133]) ?_
  show awb _ _ _ (retK _ _ _ _ _) _
  by_cases hl : a.length = b.length
  case neg =>
    have : ¬ a = b := by rintro rfl; exact hl rfl
    simp [encEdges, Int.ofNat_inj, hl]
    exact ret_pure (by simp [resA, resOne, this]) (by simp [AV.nm])
  simp [encEdges, hl]
  rw [← hl]
  refine loop_sub (ι := { k : Nat // k ≤ a.length ∧ a.take k = b.take k }) (fun k => ⟨[(0, encEdges a), (1, encEdges b), (12, .int .i64 a.length), (13, .int .i64 k.1)], [], R⟩) (fun k => a.length - k.1) ⟨0, by simp⟩ ?_ ?_ (Nat.le_refl _) ?_
  · simp [encEdges, hl]
  · simp
  · rintro ⟨k, hk, hp⟩
    rcases Nat.lt_or_ge k a.length with hlt | hge
    · have hlt' := hl ▸ hlt
      by_cases hxy : a[k] = b[k]
      · have h3 : k * 3 + 3 ≤ a.length * 3 := by omega
        have h3' : k * 3 + 3 ≤ b.length * 3 := by omega
        simp [encEdges, hlt, hlt', hxy, h3, h3', edgeCs_at _ _ hlt, edgeCs_at _ _ hlt', edgeC, neq84, wrap_nat (show k < 4611686018427387904 by omega), -Subtype.exists]
        refine ⟨⟨k + 1, hlt, ?_⟩, ?_, shift_sub ?_ ?_ (Nat.le_refl _)⟩
        · rw [List.take_add_one, List.take_add_one, hp]; simp [hlt, hlt', hxy]
        · simp only; omega
        · simp
        · simp
      · have : ¬ a = b := by rintro rfl; exact hxy rfl
        have h3 : k * 3 + 3 ≤ a.length * 3 := by omega
        have h3' : k * 3 + 3 ≤ b.length * 3 := by omega
        have hd : ¬ (a[k].1 = b[k].1 ∧ a[k].2.1 = b[k].2.1 ∧ a[k].2.2 = b[k].2.2) := fun h => hxy (Prod.ext h.1 (Prod.ext h.2.1 h.2.2))
        have hd2 : (decide (a[k].1 = b[k].1) && (decide (a[k].2.1 = b[k].2.1) && (decide (a[k].2.2 = b[k].2.2) && true))) = false := by simpa using hd
        simp [encEdges, hlt, hlt', h3, h3', edgeCs_at _ _ hlt, edgeCs_at _ _ hlt', edgeC, neq84, hd2, -Bool.and_true]
        exact ret_pure (by simp [resA, resOne, this]) (by simp [AV.nm])
    · have : a = b := by
        have e : k = a.length := by omega
        rw [e, List.take_length, hl, List.take_length] at hp
        exact hp
      simp [encEdges, Nat.not_lt.2 hge]
      exact ret_pure (by simp [resA, resOne, this]) (by simp [AV.nm])
end Go.Av
