/- What the functions of HostSameness compute, second part. -/
import Derived.Test.YtojbfpfkkcdlhaaGreatS0
namespace Go.Av
set_option linter.unusedVariables false
set_option linter.unusedSimpArgs false
open Go.Proofs

theorem spec134 (R : Nat) (a b : List (List Int)) (ha : a.length < 4611686018427387904) (hr : ∀ r ∈ a, r.length < 4611686018427387904) : Spec Tryz.prog R 0 134 [encIntss a, encIntss b, .fn 56 []] [] (.bool (decide (a = b))) [] := by
  refine spec_intro hmix Tryz.func134 c134 (fun vs w => Tryz.call134 vs w) (by simp) (by simp [Tryz.ntmps134]) ?_
  show awb _ _ _ (retK _ _ _ _ _) _
  by_cases hl : a.length = b.length
  case neg =>
    have : ¬ a = b := by rintro rfl; exact hl rfl
    simp [encIntss, Int.ofNat_inj, hl]
    exact ret_pure (by simp [resA, resOne, this]) (by simp [AV.nm])
  simp [encIntss, hl]
  rw [← hl]
  refine loop_sub (ι := { k : Nat // k ≤ a.length ∧ a.take k = b.take k }) (fun k => ⟨[(0, encIntss a), (1, encIntss b), (2, .fn 56 []), (15, encIntss a), (16, .int .i64 a.length), (17, .int .i64 k.1)], [], R⟩) (fun k => a.length - k.1) ⟨0, by simp⟩ ?_ ?_ (Nat.le_refl _) ?_
  · simp [encIntss, hl]
  · simp
  · rintro ⟨k, hk, hp⟩
    rcases Nat.lt_or_ge k a.length with hlt | hge
    · have hlt' := hl ▸ hlt
      simp [encIntss, hlt, hlt', -Subtype.exists]
      refine call_val (spec56 _ _ _ (hr _ (List.getElem_mem hlt))) (by simp [nmL, nm_encInts]) ?_
      by_cases hxy : a[k] = b[k]
      · simp [hxy, wrap_nat (show k < 4611686018427387904 by omega), -Subtype.exists]
        refine ⟨⟨k + 1, hlt, ?_⟩, ?_, shift_sub ?_ ?_ (Nat.le_refl _)⟩
        · rw [List.take_add_one, List.take_add_one, hp]; simp [hlt, hlt', hxy]
        · simp only; omega
        · simp
        · simp
      · have : ¬ a = b := by rintro rfl; exact hxy rfl
        simp [hxy]
        exact ret_pure (by simp [resA, resOne, this]) (by simp [AV.nm])
    · have : a = b := by
        have e : k = a.length := by omega
        rw [e, List.take_length, hl, List.take_length] at hp
        exact hp
      simp [encIntss, Nat.not_lt.2 hge]
      exact ret_pure (by simp [resA, resOne, this]) (by simp [AV.nm])

/-- The order of the reference: zero where they are equal. -/
def cmpI : List Int → List Int → Int
  | x :: a, y :: b => if x = y then cmpI a b else IntKind.i64.wrap (x - y)
  | a, b => IntKind.i64.wrap ((a.length : Int) - b.length)

theorem wrap_ne {x y : Int} (hx : I64 x) (hy : I64 y) (h : x ≠ y) : IntKind.i64.wrap (x - y) ≠ 0 := by
  obtain ⟨h1, h2⟩ := hx
  obtain ⟨h3, h4⟩ := hy
  simp [IntKind.wrap, IntKind.bits, IntKind.signed]
  omega

theorem cmpI_zero : ∀ (a b : List Int), (∀ x ∈ a, I64 x) → (∀ x ∈ b, I64 x) → a.length < 4611686018427387904 → b.length < 4611686018427387904 → (cmpI a b = 0 ↔ a = b)
  | [], [], _, _, _, _ => by simp [cmpI, wrap_id]
  | [], y :: b, _, _, _, hb => by
    simp only [List.length_cons] at hb
    have : IntKind.i64.wrap (((([] : List Int).length : Nat) : Int) - ((y :: b).length : Nat)) ≠ 0 := by
      rw [wrap_id (by simp; omega) (by simp; omega)]; simp; omega
    simp [cmpI]; simpa using this
  | x :: a, [], _, _, ha, _ => by
    simp only [List.length_cons] at ha
    have : IntKind.i64.wrap ((((x :: a).length : Nat) : Int) - ((([] : List Int).length : Nat) : Int)) ≠ 0 := by
      rw [wrap_id (by simp; omega) (by simp; omega)]; simp; omega
    simp [cmpI]; simpa using this
  | x :: a, y :: b, hx, hy, ha, hb => by
    simp only [cmpI]
    by_cases h : x = y
    · subst h
      simp only [if_true]
      rw [cmpI_zero a b (fun z hz => hx z (by simp [hz])) (fun z hz => hy z (by simp [hz])) (by simp at ha; omega) (by simp at hb; omega)]
      simp
    · simp only [h, if_false]
      have := wrap_ne (hx x (by simp)) (hy y (by simp)) h
      simp [this, h]

theorem cmpI_step (a b : List Int) (k : Nat) (h1 : k < a.length) (h2 : k < b.length) : cmpI (a.drop k) (b.drop k) = if a[k] = b[k] then cmpI (a.drop (k + 1)) (b.drop (k + 1)) else IntKind.i64.wrap (a[k] - b[k]) := by
  rw [List.drop_eq_getElem_cons h1, List.drop_eq_getElem_cons h2]
  simp [cmpI]

theorem cmpI_end (a b : List Int) (k : Nat) (hk : k ≤ a.length) (hk' : k ≤ b.length) (h : k = a.length ∨ k = b.length) : cmpI (a.drop k) (b.drop k) = IntKind.i64.wrap ((a.length : Int) - b.length) := by
  rcases h with h | h
  · subst h
    rw [List.drop_length]
    unfold cmpI
    simp
    congr 1; omega
  · subst h
    rw [List.drop_length]
    cases hd : a.drop b.length with
    | nil =>
      have := congrArg List.length hd
      simp at this
      unfold cmpI
      congr 1; simp; omega
    | cons x l =>
      have := congrArg List.length hd
      simp at this
      unfold cmpI
      congr 1; simp; omega

theorem spec127 (R : Nat) (a b : List Int) (ha : a.length < 4611686018427387904) : Spec Tryz.prog R 0 127 [encInts a, encInts b] [] (.int .i64 (cmpI a b)) [] := by
  refine spec_intro hmix Tryz.func127 c127 (fun vs w => Tryz.call127 vs w) (by simp) (by simp [Tryz.ntmps127]) ?_
  show awb _ _ _ (retK _ _ _ _ _) _
  simp [encInts]
  refine loop_sub (ι := { k : Nat // k ≤ a.length ∧ k ≤ b.length ∧ cmpI a b = cmpI (a.drop k) (b.drop k) }) (fun k => ⟨[(0, encInts a), (1, encInts b), (5, .int .i64 k.1)], [], R⟩) (fun k => a.length - k.1) ⟨0, by simp⟩ ?_ ?_ (Nat.le_refl _) ?_
  · simp [encInts]
  · simp
  · rintro ⟨k, hk, hk', hp⟩
    rcases Nat.lt_or_ge k a.length with hlt | hge
    · rcases Nat.lt_or_ge k b.length with hlt' | hge'
      · by_cases hxy : a[k] = b[k]
        · simp [encInts, hlt, hlt', hxy, wrap_nat (show k < 4611686018427387904 by omega), -Subtype.exists]
          refine ⟨⟨k + 1, hlt, hlt', ?_⟩, ?_, shift_sub ?_ ?_ (Nat.le_refl _)⟩
          · rw [hp, cmpI_step a b k hlt hlt', if_pos hxy]
          · simp only; omega
          · simp
          · simp
        · simp [encInts, hlt, hlt', hxy]
          exact ret_pure (by simp [resA, resOne]; rw [hp, cmpI_step a b k hlt hlt', if_neg hxy]) (by simp [AV.nm])
      · simp [encInts, hlt, Nat.not_lt.2 hge']
        exact ret_pure (by simp [resA, resOne]; rw [hp, cmpI_end a b k hk hk' (.inr (by omega))]) (by simp [AV.nm])
    · simp [encInts, Nat.not_lt.2 hge]
      exact ret_pure (by simp [resA, resOne]; rw [hp, cmpI_end a b k hk hk' (.inl (by omega))]) (by simp [AV.nm])
end Go.Av
