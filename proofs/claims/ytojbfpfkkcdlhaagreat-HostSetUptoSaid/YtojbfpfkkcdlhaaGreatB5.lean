/- What the functions of names compute, in the program. -/
import Derived.Test.YtojbfpfkkcdlhaaGreatB4
import Derived.Test.YtojbfpfkkcdlhaaGreatAv23
import Derived.Test.YtojbfpfkkcdlhaaGreatN1
import Derived.Lib.Bytealg
namespace Go.Av
set_option linter.unusedVariables false
set_option linter.unusedSimpArgs false
open Go.Proofs

theorem spec340 (R : Nat) (c : Int) : Spec Tryz.prog R 0 340 [.int .u8 c] [] (.bool (letterN c)) [] := by
  refine spec_intro hmix Tryz.func340 c340 (fun vs w => Tryz.call340 vs w) (by simp) (by simp [Tryz.ntmps340]) ?_
  show awb _ _ _ (retK _ _ _ _ _) _
  by_cases h1 : 97 ≤ c <;> by_cases h2 : c ≤ 122 <;> by_cases h3 : 65 ≤ c <;> by_cases h4 : c ≤ 90 <;> first
    | omega
    | (simp [h1, h2, h3, h4]
       exact ret_pure (by simp [resA, resOne, letterN, h1, h2, h3, h4]) (by simp [AV.nm]))

theorem spec343 (R : Nat) (c : Int) : Spec Tryz.prog R 0 343 [.int .u8 c] [] (.bool (digitN c)) [] := by
  refine spec_intro hmix Tryz.func343 c343 (fun vs w => Tryz.call343 vs w) (by simp) (by simp [Tryz.ntmps343]) ?_
  show awb _ _ _ (retK _ _ _ _ _) _
  by_cases h1 : 48 ≤ c <;> by_cases h2 : c ≤ 57 <;> first
    | omega
    | (simp [h1, h2]
       exact ret_pure (by simp [resA, resOne, digitN, h1, h2]) (by simp [AV.nm]))

theorem spec342 (R : Nat) (c : Int) : Spec Tryz.prog R 0 342 [.int .u8 c] [] (.bool (partN c)) [] := by
  refine spec_intro hmix Tryz.func342 c342 (fun vs w => Tryz.call342 vs w) (by simp) (by simp [Tryz.ntmps342]) ?_
  show awb _ _ _ (retK _ _ _ _ _) _
  simp
  refine call_val (spec340 _ c) (by simp) ?_
  cases h1 : letterN c with
  | true =>
    simp
    exact ret_pure (by simp [resA, resOne, partN, h1]) (by simp [AV.nm])
  | false =>
    simp
    refine call_val (spec343 _ c) (by simp) ?_
    cases h2 : digitN c with
    | true =>
      simp
      exact ret_pure (by simp [resA, resOne, partN, h1, h2]) (by simp [AV.nm])
    | false =>
      by_cases h3 : c = 95
      · simp [h3]
        exact ret_pure (by simp [resA, resOne, partN, h3]) (by simp [AV.nm])
      · simp [h3]
        exact ret_pure (by simp [resA, resOne, partN, h1, h2, h3]) (by simp [AV.nm])

def quoteN (c : Int) : Bool := (decide (32 ≤ c) && decide (c ≤ 126)) && decide (c ≠ 34)
theorem spec376 (R : Nat) (c : Int) : Spec Tryz.prog R 0 376 [.int .u8 c] [] (.bool (quoteN c)) [] := by
  refine spec_intro hmix Tryz.func376 c376 (fun vs w => Tryz.call376 vs w) (by simp) (by simp [Tryz.ntmps376]) ?_
  show awb _ _ _ (retK _ _ _ _ _) _
  by_cases h1 : 32 ≤ c <;> by_cases h2 : c ≤ 126 <;> by_cases h3 : c = 34 <;> first
    | omega
    | (simp [h1, h2, h3]
       exact ret_pure (by simp [resA, resOne, quoteN, h1, h2, h3]) (by simp [AV.nm]))

theorem spec341 (R g : Nat) (p : Int → Bool) (hg : ∀ (R : Nat) (c : Int), Spec Tryz.prog R 0 g [.int .u8 c] [] (.bool (p c)) []) (s : ByteArray) (hs : s.size ≤ 1048576) :
    Spec Tryz.prog R 0 341 [.str s, .fn g []] [] (.int .i64 (runFrom p s 0)) [] := by
  refine spec_intro hmix Tryz.func341 c341 (fun vs w => Tryz.call341 vs w) (by simp) (by simp [Tryz.ntmps341]) ?_
  show awb _ _ _ (retK _ _ _ _ _) _
  simp
  refine loop_sub (ι := { k : Nat // k ≤ s.size ∧ runFrom p s 0 = runFrom p s k }) (fun k => ⟨[(0, .str s), (1, .fn g []), (5, .int .i64 k.1)], [], R⟩) (fun k => s.size - k.1) ⟨0, by simp⟩ ?_ ?_ (Nat.le_refl _) ?_
  · simp
  · simp
  · rintro ⟨k, hk, hp⟩
    rcases Nat.lt_or_ge k s.size with hlt | hge
    · simp [hlt, bget s k hlt, -Subtype.exists]
      refine call_val (hg _ _) (by simp) ?_
      cases hpk : p s[k].toNat with
      | true =>
        simp [wrap_nat (show k < 4611686018427387904 by omega), -Subtype.exists]
        refine ⟨⟨k + 1, hlt, by rw [hp, runFrom_step hlt hpk]⟩, ?_, shift_sub ?_ ?_ (Nat.le_refl _)⟩
        · simp only; omega
        · simp
        · simp
      | false =>
        simp
        exact ret_pure (by simp [resA, resOne]; rw [hp, runFrom_stop hlt hpk]) (by simp [AV.nm])
    · simp [Nat.not_lt.2 hge]
      exact ret_pure (by simp [resA, resOne]; rw [hp, runFrom_end (by omega)]) (by simp [AV.nm])

/-- Where a string stands in a list, or -1. -/
def idxI {α : Type} [DecidableEq α] (l : List α) (x : α) : Int := ((firstE l.length fun i => if l[i]? = some x then some (i : Int) else none)).getD (-1)

theorem idxI_nonneg {α : Type} [DecidableEq α] (l : List α) (x : α) : decide (0 ≤ idxI l x) = l.any fun y => decide (y = x) := by
  unfold idxI
  by_cases h : ∃ i, i < l.length ∧ l[i]? = some x
  · obtain ⟨i, h1, h2⟩ := h
    have hm : (l.any fun y => decide (y = x)) = true := List.any_eq_true.2 ⟨x, List.mem_of_getElem? h2, by simp⟩
    cases hf : firstE l.length fun i => if l[i]? = some x then some (i : Int) else none with
    | none =>
      have := (List.findSome?_eq_none_iff.1 hf) i (by simpa using h1)
      simp [h2] at this
    | some y =>
      obtain ⟨k, _, hk⟩ := List.exists_of_findSome?_eq_some hf
      split at hk
      · cases hk; rw [hm]; simp
      · cases hk
  · have hm : (l.any fun y => decide (y = x)) = false := by
      rw [List.any_eq_false]
      intro y hy
      obtain ⟨i, h1, h2⟩ := List.getElem_of_mem hy
      simp only [decide_eq_true_eq]
      rintro rfl
      exact h ⟨i, h1, by rw [List.getElem?_eq_getElem h1, h2]⟩
    rw [firstE_none (fun j hj => by
      split
      · rename_i he; exact absurd ⟨j, hj, he⟩ h
      · rfl), hm]
    simp

theorem spec385 (R : Nat) (l : List ByteArray) (x : ByteArray) (hl : l.length ≤ 1048576) : Spec Tryz.prog R 0 385 [encStrs l, .str x] [] (.int .i64 (idxI l x)) [] := by
  refine spec_intro hmix Tryz.func385 c385 (fun vs w => Tryz.call385 vs w) (by simp) (by simp [Tryz.ntmps385]) ?_
  show awb _ _ _ (retK _ _ _ _ _) _
  simp [encStrs]
  refine loop_sub (ι := { k : Nat // k ≤ l.length ∧ ∀ j, j < k → l[j]? ≠ some x }) (fun k => ⟨[(0, encStrs l), (1, .str x), (7, .int .i64 l.length), (8, .int .i64 k.1)], [], R⟩) (fun k => l.length - k.1) ⟨0, by simp⟩ ?_ ?_ (Nat.le_refl _) ?_
  · simp [encStrs]
  · simp
  · rintro ⟨k, hk, hp⟩
    rcases Nat.lt_or_ge k l.length with hlt | hge
    · by_cases hxy : x = l[k]
      · simp [encStrs, hlt, ← hxy]
        exact ret_pure (by simp [resA, resOne]; unfold idxI; rw [firstE_some hlt (fun j hj => if_neg (hp j hj)) (x := (k : Int)) (by simp [hlt, hxy])]; rfl) (by simp [AV.nm])
      · simp [encStrs, hlt, hxy, wrap_nat (show k < 4611686018427387904 by omega), -Subtype.exists]
        refine ⟨⟨k + 1, hlt, fun j hj => ?_⟩, ?_, shift_sub ?_ ?_ (Nat.le_refl _)⟩
        · rcases Nat.lt_or_ge j k with h | h
          · exact hp j h
          · have : j = k := by omega
            subst this; rw [List.getElem?_eq_getElem hlt]; intro he; exact hxy (Option.some.inj he).symm
        · simp only; omega
        · simp [encStrs]
        · simp
    · simp [encStrs, Nat.not_lt.2 hge]
      exact ret_pure (by simp [resA, resOne]; unfold idxI; rw [firstE_none (fun j hj => if_neg (hp j (by omega)))]; rfl) (by simp [AV.nm])

theorem spec374 (R : Nat) (l : List ByteArray) (x : ByteArray) (hl : l.length ≤ 1048576) : Spec Tryz.prog R 0 374 [encStrs l, .str x] [] (.bool (hasS l x)) [] := by
  refine spec_intro hmix Tryz.func374 c374 (fun vs w => Tryz.call374 vs w) (by simp) (by simp [Tryz.ntmps374]) ?_
  show awb _ _ _ (retK _ _ _ _ _) _
  simp
  refine call_val (spec385 _ l x hl) (by simp) ?_
  simp [idxI_nonneg l x]
  exact ret_pure (by simp [resA, resOne, hasS]) (by simp [AV.nm])

def pairs2 : List ByteArray := [⟨#[45, 62]⟩, ⟨#[60, 61]⟩, ⟨#[62, 61]⟩, ⟨#[61, 61]⟩, ⟨#[33, 61]⟩]
def pairB (s : ByteArray) : Bool := decide (2 ≤ s.size) && hasS pairs2 (s.extract 0 2)

theorem spec345 (R : Nat) (s : ByteArray) (hs : s.size ≤ 1048576) : Spec Tryz.prog R 0 345 [.str s] [] (.bool (pairB s)) [] := by
  refine spec_intro hmix Tryz.func345 c345 (fun vs w => Tryz.call345 vs w) (by simp) (by simp [Tryz.ntmps345]) ?_
  show awb _ _ _ (retK _ _ _ _ _) _
  by_cases h2 : 2 ≤ s.size
  · have h2' : (2 : Int) ≤ s.size := by omega
    simp [h2, h2', aFill, repL, spl]
    refine call_lend [(R, pairs2.map .str)] (spec374 _ pairs2 (s.extract 0 2) (by decide)) ?_ rfl (by simp) ?_ ?_
    · simp [encStrs, pairs2, lookF, toL_cons, toL_nil]
    · simp [pairs2, hget]
    · simp
      exact ret_pure (by simp [resA, resOne, pairB, h2]) (by simp [AV.nm])
  · have h2' : ¬ (2 : Int) ≤ s.size := by omega
    simp [h2']
    exact ret_pure (by simp [resA, resOne, pairB, h2]) (by simp [AV.nm])

/-- A string in quotes at the beginning. -/
def quotedR (s : ByteArray) : Int × Int :=
  if h : runFrom quoteN (s.extract 1 s.size) 0 + 1 < s.size then
    if s[runFrom quoteN (s.extract 1 s.size) 0 + 1].toNat ≠ 34 then (0, 2) else if runFrom quoteN (s.extract 1 s.size) 0 > 60 then (0, 3) else ((runFrom quoteN (s.extract 1 s.size) 0 : Int) + 2, 0)
  else (0, 2)

theorem spec344 (R : Nat) (s : ByteArray) (hs : s.size ≤ 1048576) (h1 : 1 ≤ s.size) : Spec Tryz.prog R 0 344 [.str s] [] (.tup [.int .i64 (quotedR s).1, .int .i64 (quotedR s).2]) [] := by
  refine spec_intro hmix Tryz.func344 c344 (fun vs w => Tryz.call344 vs w) (by simp) (by simp [Tryz.ntmps344]) ?_
  show awb _ _ _ (retK _ _ _ _ _) _
  have h1' : (1 : Int) ≤ s.size := by omega
  have hz : (s.extract 1 s.size).size = s.size - 1 := by simp
  have hle := runFrom_le quoteN (s.extract 1 s.size) 0 (by simp)
  simp [h1, h1']
  refine call_val (spec341 _ 376 quoteN (fun R c => spec376 R c) (s.extract 1 s.size) (by omega)) (by simp) ?_
  unfold quotedR
  generalize runFrom quoteN (s.extract 1 s.size) 0 = n at *
  have hw : IntKind.i64.wrap (1 + (n : Int)) = (n : Int) + 1 := by rw [wrap_id (by omega) (by omega)]; omega
  have hnn : (0 : Int) ≤ n + 1 := by omega
  have hw2 : IntKind.i64.wrap ((n : Int) + 2) = (n : Int) + 2 := wrap_id (by omega) (by omega)
  by_cases he : n + 1 = s.size
  · have he' : (n : Int) + 1 = s.size := by omega
    simp [hw, he']
    exact ret_pure (by simp [resA, resOne, he]) (by simp [AV.nm])
  · have hlt : n + 1 < s.size := by omega
    have he' : ¬ (n : Int) + 1 = s.size := by omega
    by_cases hq : s[n + 1].toNat = 34
    · by_cases h60 : n > 60
      · have h60' : (60 : Int) < n := by omega
        simp [hw, he', hnn, bget s _ hlt, hq, h60']
        exact ret_pure (by simp [resA, resOne, hlt, hq, h60]) (by simp [AV.nm])
      · have h60' : ¬ (60 : Int) < n := by omega
        simp [hw, he', hnn, bget s _ hlt, hq, h60', hw2]
        exact ret_pure (by simp [resA, resOne, hlt, hq, h60]) (by simp [AV.nm])
    · have hq' : ¬ ((s[n + 1].toNat : Int) = 34) := by omega
      simp [hw, he', hnn, bget s _ hlt, hq']
      exact ret_pure (by simp [resA, resOne, hlt, hq]) (by simp [AV.nm])

/-- strings.IndexByte. -/
theorem spec377 (R : Nat) (s : ByteArray) (c : Int) : Spec Tryz.prog R 0 377 [.str s, .int .u8 c] [] (.int .i64 (Go.Lib.indexByte s.data.toList c.toNat.toUInt8)) [] := by
  refine spec_calls (fun vs w => Tryz.call377 vs w) (fun e w vs hl hv => ?_)
  obtain ⟨l⟩ := vs
  match l, hl with
  | [a, b], _ =>
    have h0 := hv 0 _ a rfl (by simp)
    have h1 := hv 1 _ b rfl (by simp)
    cases h0; cases h1
    exact ⟨_, fun e w => .int _ _, calls377 s c w⟩

theorem spec346 (R : Nat) (s : ByteArray) (c : Int) : Spec Tryz.prog R 0 346 [.str s, .int .u8 c] [] (.int .i64 (Go.Lib.indexByte s.data.toList c.toNat.toUInt8)) [] := by
  refine spec_intro hmix Tryz.func346 c346 (fun vs w => Tryz.call346 vs w) (by simp) (by simp [Tryz.ntmps346]) ?_
  show awb _ _ _ (retK _ _ _ _ _) _
  simp
  refine call_val (spec377 _ s c) (by simp) ?_
  simp
  exact ret_pure (by simp [resA, resOne]) (by simp [AV.nm])

def singles : ByteArray := ⟨#[123, 125, 40, 41, 91, 93, 44, 59, 58, 61, 43, 45, 42, 60, 62, 33, 38, 124, 46, 63]⟩

/-- The token at the beginning: its kind, its length, the error. -/
def nextR (s : ByteArray) : Int × Int × Int :=
  if h : 0 < s.size then
    if letterN s[0].toNat = true then (if runFrom partN s 0 > 20 then (0, 0, 3) else (1, runFrom partN s 0, 0))
    else if digitN s[0].toNat = true then (if runFrom digitN s 0 > 9 then (0, 0, 3) else (2, runFrom digitN s 0, 0))
    else if s[0].toNat = 34 then (3, (quotedR s).1, (quotedR s).2)
    else if pairB s = true then (4, 2, 0)
    else if 0 ≤ Go.Lib.indexByte singles.data.toList s[0] then (4, 1, 0) else (0, 0, 2)
  else (0, 0, 2)

theorem spec292 (R : Nat) (s : ByteArray) (hs : s.size ≤ 1048576) (h1 : 0 < s.size) : Spec Tryz.prog R 0 292 [.str s] [] (.tup [.int .i64 (nextR s).1, .int .i64 (nextR s).2.1, .int .i64 (nextR s).2.2]) [] := by
  refine spec_intro hmix Tryz.func292 c292 (fun vs w => Tryz.call292 vs w) (by simp) (by simp [Tryz.ntmps292]) ?_
  show awb _ _ _ (retK _ _ _ _ _) _
  simp [bget s 0 h1]
  refine call_val (spec340 _ _) (by simp) ?_
  unfold nextR
  rw [dif_pos h1]
  cases hl : letterN s[0].toNat with
  | true =>
    simp
    refine call_val (spec341 _ 342 partN (fun R c => spec342 R c) s hs) (by simp) ?_
    by_cases h20 : runFrom partN s 0 > 20
    · have h20' : (20 : Int) < runFrom partN s 0 := by omega
      simp [h20']
      exact ret_pure (by simp [resA, resOne, h20]) (by simp [AV.nm])
    · have h20' : ¬ (20 : Int) < runFrom partN s 0 := by omega
      simp [h20']
      exact ret_pure (by simp [resA, resOne, h20]) (by simp [AV.nm])
  | false =>
  simp
  refine call_val (spec343 _ _) (by simp) ?_
  cases hd : digitN s[0].toNat with
  | true =>
    simp
    refine call_val (spec341 _ 343 digitN (fun R c => spec343 R c) s hs) (by simp) ?_
    by_cases h20 : runFrom digitN s 0 > 9
    · have h20' : (9 : Int) < runFrom digitN s 0 := by omega
      simp [h20']
      exact ret_pure (by simp [resA, resOne, h20]) (by simp [AV.nm])
    · have h20' : ¬ (9 : Int) < runFrom digitN s 0 := by omega
      simp [h20']
      exact ret_pure (by simp [resA, resOne, h20]) (by simp [AV.nm])
  | false =>
  by_cases hq : s[0].toNat = 34
  · simp [hq]
    refine call_val (spec344 _ s hs h1) (by simp) ?_
    simp
    exact ret_pure (by simp [resA, resOne]) (by simp [AV.nm])
  have hq' : ¬ ((s[0].toNat : Int) = 34) := by omega
  simp [hq, hq']
  refine call_val (spec345 _ s hs) (by simp) ?_
  cases hp : pairB s with
  | true =>
    simp
    exact ret_pure (by simp [resA, resOne]) (by simp [AV.nm])
  | false =>
  simp
  have e : ((s[0].toNat : Int).toNat.toUInt8) = s[0] := by simp
  have h346 : ∀ R, Spec Tryz.prog R 0 346 [.str singles, .int .u8 s[0].toNat] [] (.int .i64 (Go.Lib.indexByte singles.data.toList s[0])) [] := fun R => by
    have := spec346 R singles s[0].toNat
    rwa [e] at this
  refine call_val (h346 _) (by simp) ?_
  generalize Go.Lib.indexByte singles.data.toList s[0] = z
  by_cases hi : 0 ≤ z
  · simp [hi]
    exact ret_pure (by simp [resA, resOne, hi]) (by simp [AV.nm])
  · simp [hi]
    exact ret_pure (by simp [resA, resOne, hi]) (by simp [AV.nm])

theorem isName_next (s : ByteArray) (h1 : 0 < s.size) : (decide ((nextR s).2.2 = 0) && (decide ((nextR s).1 = 1) && decide ((nextR s).2.1 = (s.size : Int)))) = isName s := by
  unfold nextR isName
  rw [dif_pos h1, dif_pos h1]
  cases hl : letterN s[0].toNat with
  | true =>
    simp only [if_true, Bool.true_and]
    by_cases h20 : runFrom partN s 0 > 20
    · rw [if_pos h20]
      by_cases he : runFrom partN s 0 = s.size
      · have : ¬ s.size ≤ 20 := by omega
        simp [this]
      · simp [he]
    · rw [if_neg h20]
      by_cases he : runFrom partN s 0 = s.size
      · have : s.size ≤ 20 := by omega
        simp [this, he]
      · simp [he, Int.ofNat_inj]
  | false =>
    simp only [Bool.false_and, Bool.false_eq_true, if_false]
    split
    · split <;> simp
    split
    · simp
    split
    · simp
    split <;> simp

theorem empty_of_size {s : ByteArray} (h : ¬ 0 < s.size) : s = ⟨#[]⟩ := by
  obtain ⟨a⟩ := s
  have : a.size = 0 := by simpa [ByteArray.size] using h
  rw [Array.size_eq_zero_iff.1 this]

theorem spec240 (R : Nat) (s : ByteArray) (hs : s.size ≤ 1048576) : Spec Tryz.prog R 0 240 [.agg [.int .i64 1, .str s, .int .i64 0]] [] (.tup [.str s, .bool (isName s)]) [] := by
  refine spec_intro hmix Tryz.func240 c240 (fun vs w => Tryz.call240 vs w) (by simp) (by simp [Tryz.ntmps240]) ?_
  show awb _ _ _ (retK _ _ _ _ _) _
  by_cases h1 : 0 < s.size
  · have hne : s ≠ ⟨#[]⟩ := by rintro rfl; simp [ByteArray.size] at h1
    simp [hne]
    refine call_val (spec292 _ s hs h1) (by simp) ?_
    have key := isName_next s h1
    by_cases h2 : (nextR s).2.2 = 0
    · by_cases h3 : (nextR s).1 = 1
      · simp [h2, h3]
        exact ret_pure (by simp [resA, resOne, ← key, h2, h3]) (by simp [AV.nm])
      · simp [h2, h3]
        exact ret_pure (by simp [resA, resOne, ← key, h2, h3]) (by simp [AV.nm])
    · simp [h2]
      exact ret_pure (by simp [resA, resOne, ← key, h2]) (by simp [AV.nm])
  · have he := empty_of_size h1
    have hn : isName s = false := by unfold isName; rw [dif_neg h1]
    rw [hn]
    subst he
    simp
    exact ret_pure (by simp [resA, resOne]) (by simp [AV.nm])

theorem spec148 (R : Nat) (s : ByteArray) (hs : s.size ≤ 1048576) : Spec Tryz.prog R 0 148 [.str s] [] (.bool (isName s)) [] := by
  refine spec_intro hmix Tryz.func148 c148 (fun vs w => Tryz.call148 vs w) (by simp) (by simp [Tryz.ntmps148]) ?_
  show awb _ _ _ (retK _ _ _ _ _) _
  simp [aFill, spl, repL]
  refine call_val (spec240 _ s hs) (by simp) ?_
  simp
  exact ret_pure (by simp [resA, resOne]) (by simp [AV.nm])
end Go.Av
/- What the functions of type graphs compute, in the program. -/
namespace Go.Av
set_option linter.unusedVariables false
set_option linter.unusedSimpArgs false
open Go.Proofs

theorem nodeTCs_get (l : List NodeT) (k j : Nat) (h : k < l.length) (hj : j < 4) : (nodeTCs l)[k * 4 + j]? = (nodeTC l[k])[j]? := flat_get nodeTC_len l k j h hj
theorem edgeTCs_get (l : List EdgeT) (k j : Nat) (h : k < l.length) (hj : j < 7) : (edgeTCs l)[k * 7 + j]? = (edgeTC l[k])[j]? := flat_get edgeTC_len l k j h hj
theorem attrCs_get (l : List AttrT) (k j : Nat) (h : k < l.length) (hj : j < 4) : (attrCs l)[k * 4 + j]? = (attrC l[k])[j]? := flat_get attrC_len l k j h hj
theorem attrCs_take (l : List AttrT) (k : Nat) : (attrCs l).take (k * 4) = attrCs (l.take k) := flat_take attrC_len l k
theorem nodeTCs_take (l : List NodeT) (k : Nat) : (nodeTCs l).take (k * 4) = nodeTCs (l.take k) := flat_take nodeTC_len l k
theorem edgeTCs_take (l : List EdgeT) (k : Nat) : (edgeTCs l).take (k * 7) = edgeTCs (l.take k) := flat_take edgeTC_len l k

@[simp] theorem attrCs_full (l : List AttrT) : (attrCs l).take (l.length * 4) = attrCs l := List.take_of_length_le (by simp)
@[simp] theorem nodeTCs_full (l : List NodeT) : (nodeTCs l).take (l.length * 4) = nodeTCs l := List.take_of_length_le (by simp)
@[simp] theorem edgeTCs_full (l : List EdgeT) : (edgeTCs l).take (l.length * 7) = edgeTCs l := List.take_of_length_le (by simp)

/-- Where the first element stands that a predicate accepts, or -1. -/
def findI {α : Type} (l : List α) (p : α → Bool) : Int := (firstE l.length fun i => (l[i]?).bind fun x => if p x = true then some (i : Int) else none).getD (-1)

theorem findI_hit {α : Type} {l : List α} {p : α → Bool} {k : Nat} (hk : k < l.length) (h : ∀ j (hj : j < l.length), j < k → p l[j] = false) (hp : p l[k] = true) : findI l p = k := by
  unfold findI
  rw [firstE_some hk (x := (k : Int)) (fun j hj => ?_) (by simp [hk, hp])]
  · rfl
  · have hj' : j < l.length := by omega
    simp [hj', h j hj' hj]

theorem findI_none {α : Type} {l : List α} {p : α → Bool} (h : ∀ j (hj : j < l.length), p l[j] = false) : findI l p = -1 := by
  unfold findI
  rw [firstE_none (fun j hj => by simp [hj, h j hj])]
  rfl

theorem findI_nonneg {α : Type} (l : List α) (p : α → Bool) : decide (0 ≤ findI l p) = l.any p := by
  cases hl : l.any p with
  | false =>
    rw [List.any_eq_false] at hl
    rw [findI_none fun j hj => by simpa using hl _ (List.getElem_mem hj)]
    rfl
  | true =>
    rw [List.any_eq_true] at hl
    obtain ⟨x, hx, hp⟩ := hl
    obtain ⟨i, hi, rfl⟩ := List.getElem_of_mem hx
    unfold findI
    cases hf : firstE l.length fun i => (l[i]?).bind fun x => if p x = true then some (i : Int) else none with
    | none =>
      have := firstE_of_none hf i hi
      simp [hi, hp] at this
    | some y =>
      obtain ⟨k, hk, hk2⟩ := List.exists_of_findSome?_eq_some hf
      have hk' : k < l.length := by simpa using hk
      rw [List.getElem?_eq_getElem hk'] at hk2
      simp only [Option.bind_some] at hk2
      split at hk2
      · cases hk2; simp
      · cases hk2

theorem spec373 (R g : Nat) (caps : List AV) (p : AttrT → Bool) (hg : ∀ (R : Nat) (y : AttrT), Spec Tryz.prog R 0 g ([.agg (attrC y)] ++ caps) [] (.bool (p y)) []) (hc : nmL (fun _ => False) caps) (l : List AttrT) (hl : l.length ≤ 1048576) :
    Spec Tryz.prog R 0 373 [encAttrs l, .fn g caps] [] (.int .i64 (findI l p)) [] := by
  refine spec_intro hmix Tryz.func373 c373 (fun vs w => Tryz.call373 vs w) (by simp) (by simp [Tryz.ntmps373]) ?_
  show awb _ _ _ (retK _ _ _ _ _) _
  simp [encAttrs]
  refine loop_sub (ι := { k : Nat // k ≤ l.length ∧ ∀ j (hj : j < l.length), j < k → p l[j] = false }) (fun k => ⟨[(0, encAttrs l), (1, .fn g caps), (7, .int .i64 l.length), (8, .int .i64 k.1)], [], R⟩) (fun k => l.length - k.1) ⟨0, by simp⟩ ?_ ?_ (Nat.le_refl _) ?_
  · simp [encAttrs]
  · simp
  · rintro ⟨k, hk, hp⟩
    rcases Nat.lt_or_ge k l.length with hlt | hge
    · have h4 : k * 4 + 4 ≤ l.length * 4 := by omega
      simp [encAttrs, hlt, h4, attrCs_at _ _ hlt, -Subtype.exists]
      refine call_val (hg _ _) (by simp [hc]) ?_
      cases hxy : p l[k] with
      | true =>
        simp
        exact ret_pure (by simp [resA, resOne, findI_hit hlt hp hxy]) (by simp [AV.nm])
      | false =>
        simp [wrap_nat (show k < 4611686018427387904 by omega), -Subtype.exists]
        refine ⟨⟨k + 1, hlt, fun j hj hjk => ?_⟩, ?_, shift_sub ?_ ?_ (Nat.le_refl _)⟩
        · rcases Nat.lt_or_ge j k with h | h
          · exact hp j hj h
          · have : j = k := by omega
            subst this; exact hxy
        · simp only; omega
        · simp [encAttrs]
        · simp
    · simp [encAttrs, Nat.not_lt.2 hge]
      exact ret_pure (by simp [resA, resOne]; rw [findI_none fun j hj => hp j hj (by omega)]) (by simp [AV.nm])

theorem spec327 (R g : Nat) (caps : List AV) (p : AttrT → Bool) (hg : ∀ (R : Nat) (y : AttrT), Spec Tryz.prog R 0 g ([.agg (attrC y)] ++ caps) [] (.bool (p y)) []) (hc : nmL (fun _ => False) caps) (l : List AttrT) (hl : l.length ≤ 1048576) :
    Spec Tryz.prog R 0 327 [encAttrs l, .fn g caps] [] (.bool (l.any p)) [] := by
  refine spec_intro hmix Tryz.func327 c327 (fun vs w => Tryz.call327 vs w) (by simp) (by simp [Tryz.ntmps327]) ?_
  show awb _ _ _ (retK _ _ _ _ _) _
  simp
  refine call_val (spec373 _ g caps p hg hc l hl) (by simp [hc]) ?_
  simp [findI_nonneg]
  exact ret_pure (by simp [resA, resOne]) (by simp [AV.nm])

theorem spec326 (R g : Nat) (caps : List AV) (p : NodeT → Bool) (hg : ∀ (R : Nat) (y : NodeT), Spec Tryz.prog R 0 g ([.agg (nodeTC y)] ++ caps) [] (.bool (p y)) []) (hc : nmL (fun _ => False) caps) (l : List NodeT) (hl : l.length ≤ 1048576) :
    Spec Tryz.prog R 0 326 [encNodes l, .fn g caps] [] (.int .i64 (findI l p)) [] := by
  refine spec_intro hmix Tryz.func326 c326 (fun vs w => Tryz.call326 vs w) (by simp) (by simp [Tryz.ntmps326]) ?_
  show awb _ _ _ (retK _ _ _ _ _) _
  simp [encNodes]
  refine loop_sub (ι := { k : Nat // k ≤ l.length ∧ ∀ j (hj : j < l.length), j < k → p l[j] = false }) (fun k => ⟨[(0, encNodes l), (1, .fn g caps), (7, .int .i64 l.length), (8, .int .i64 k.1)], [], R⟩) (fun k => l.length - k.1) ⟨0, by simp⟩ ?_ ?_ (Nat.le_refl _) ?_
  · simp [encNodes]
  · simp
  · rintro ⟨k, hk, hp⟩
    rcases Nat.lt_or_ge k l.length with hlt | hge
    · have h4 : k * 4 + 4 ≤ l.length * 4 := by omega
      simp [encNodes, hlt, h4, nodeTCs_at _ _ hlt, -Subtype.exists]
      refine call_val (hg _ _) (by simp [hc]) ?_
      cases hxy : p l[k] with
      | true =>
        simp
        exact ret_pure (by simp [resA, resOne, findI_hit hlt hp hxy]) (by simp [AV.nm])
      | false =>
        simp [wrap_nat (show k < 4611686018427387904 by omega), -Subtype.exists]
        refine ⟨⟨k + 1, hlt, fun j hj hjk => ?_⟩, ?_, shift_sub ?_ ?_ (Nat.le_refl _)⟩
        · rcases Nat.lt_or_ge j k with h | h
          · exact hp j hj h
          · have : j = k := by omega
            subst this; exact hxy
        · simp only; omega
        · simp [encNodes]
        · simp
    · simp [encNodes, Nat.not_lt.2 hge]
      exact ret_pure (by simp [resA, resOne]; rw [findI_none fun j hj => hp j hj (by omega)]) (by simp [AV.nm])

theorem spec269 (R g : Nat) (caps : List AV) (p : NodeT → Bool) (hg : ∀ (R : Nat) (y : NodeT), Spec Tryz.prog R 0 g ([.agg (nodeTC y)] ++ caps) [] (.bool (p y)) []) (hc : nmL (fun _ => False) caps) (l : List NodeT) (hl : l.length ≤ 1048576) :
    Spec Tryz.prog R 0 269 [encNodes l, .fn g caps] [] (.bool (l.any p)) [] := by
  refine spec_intro hmix Tryz.func269 c269 (fun vs w => Tryz.call269 vs w) (by simp) (by simp [Tryz.ntmps269]) ?_
  show awb _ _ _ (retK _ _ _ _ _) _
  simp
  refine call_val (spec326 _ g caps p hg hc l hl) (by simp [hc]) ?_
  simp [findI_nonneg]
  exact ret_pure (by simp [resA, resOne]) (by simp [AV.nm])

theorem spec330 (R g : Nat) (caps : List AV) (p : EdgeT → Bool) (hg : ∀ (R : Nat) (y : EdgeT), Spec Tryz.prog R 0 g ([.agg (edgeTC y)] ++ caps) [] (.bool (p y)) []) (hc : nmL (fun _ => False) caps) (l : List EdgeT) (hl : l.length ≤ 1048576) :
    Spec Tryz.prog R 0 330 [encETypes l, .fn g caps] [] (.int .i64 (findI l p)) [] := by
  refine spec_intro hmix Tryz.func330 c330 (fun vs w => Tryz.call330 vs w) (by simp) (by simp [Tryz.ntmps330]) ?_
  show awb _ _ _ (retK _ _ _ _ _) _
  simp [encETypes]
  refine loop_sub (ι := { k : Nat // k ≤ l.length ∧ ∀ j (hj : j < l.length), j < k → p l[j] = false }) (fun k => ⟨[(0, encETypes l), (1, .fn g caps), (7, .int .i64 l.length), (8, .int .i64 k.1)], [], R⟩) (fun k => l.length - k.1) ⟨0, by simp⟩ ?_ ?_ (Nat.le_refl _) ?_
  · simp [encETypes]
  · simp
  · rintro ⟨k, hk, hp⟩
    rcases Nat.lt_or_ge k l.length with hlt | hge
    · have h4 : k * 7 + 7 ≤ l.length * 7 := by omega
      simp [encETypes, hlt, h4, edgeTCs_at _ _ hlt, -Subtype.exists]
      refine call_val (hg _ _) (by simp [hc]) ?_
      cases hxy : p l[k] with
      | true =>
        simp
        exact ret_pure (by simp [resA, resOne, findI_hit hlt hp hxy]) (by simp [AV.nm])
      | false =>
        simp [wrap_nat (show k < 4611686018427387904 by omega), -Subtype.exists]
        refine ⟨⟨k + 1, hlt, fun j hj hjk => ?_⟩, ?_, shift_sub ?_ ?_ (Nat.le_refl _)⟩
        · rcases Nat.lt_or_ge j k with h | h
          · exact hp j hj h
          · have : j = k := by omega
            subst this; exact hxy
        · simp only; omega
        · simp [encETypes]
        · simp
    · simp [encETypes, Nat.not_lt.2 hge]
      exact ret_pure (by simp [resA, resOne]; rw [findI_none fun j hj => hp j hj (by omega)]) (by simp [AV.nm])

theorem spec273 (R g : Nat) (caps : List AV) (p : EdgeT → Bool) (hg : ∀ (R : Nat) (y : EdgeT), Spec Tryz.prog R 0 g ([.agg (edgeTC y)] ++ caps) [] (.bool (p y)) []) (hc : nmL (fun _ => False) caps) (l : List EdgeT) (hl : l.length ≤ 1048576) :
    Spec Tryz.prog R 0 273 [encETypes l, .fn g caps] [] (.bool (l.any p)) [] := by
  refine spec_intro hmix Tryz.func273 c273 (fun vs w => Tryz.call273 vs w) (by simp) (by simp [Tryz.ntmps273]) ?_
  show awb _ _ _ (retK _ _ _ _ _) _
  simp
  refine call_val (spec330 _ g caps p hg hc l hl) (by simp [hc]) ?_
  simp [findI_nonneg]
  exact ret_pure (by simp [resA, resOne]) (by simp [AV.nm])

theorem spec328 (R : Nat) (x y : AttrT) : Spec Tryz.prog R 0 328 [.agg (attrC y), .iptr (attrC x) 0] [] (.bool (decide (y.name = x.name))) [] := by
  refine spec_intro hmix Tryz.func328 c328 (fun vs w => Tryz.call328 vs w) (by simp) (by simp [Tryz.ntmps328]) ?_
  show awb _ _ _ (retK _ _ _ _ _) _
  simp [attrC]
  exact ret_pure (by simp [resA, resOne]) (by simp [AV.nm])

theorem spec270 (R : Nat) (x y : NodeT) : Spec Tryz.prog R 0 270 [.agg (nodeTC y), .iptr (nodeTC x) 0] [] (.bool (decide (y.name = x.name))) [] := by
  refine spec_intro hmix Tryz.func270 c270 (fun vs w => Tryz.call270 vs w) (by simp) (by simp [Tryz.ntmps270]) ?_
  show awb _ _ _ (retK _ _ _ _ _) _
  simp [nodeTC]
  exact ret_pure (by simp [resA, resOne]) (by simp [AV.nm])

theorem spec274 (R : Nat) (x y : EdgeT) : Spec Tryz.prog R 0 274 [.agg (edgeTC y), .iptr (edgeTC x) 0] [] (.bool (decide (y.name = x.name))) [] := by
  refine spec_intro hmix Tryz.func274 c274 (fun vs w => Tryz.call274 vs w) (by simp) (by simp [Tryz.ntmps274]) ?_
  show awb _ _ _ (retK _ _ _ _ _) _
  simp [edgeTC]
  exact ret_pure (by simp [resA, resOne]) (by simp [AV.nm])

theorem spec275 (R : Nat) (a b : Int) : Spec Tryz.prog R 0 275 [.int .i64 a, .int .i64 b] [] (.bool (boundedB a b)) [] := by
  refine spec_intro hmix Tryz.func275 c275 (fun vs w => Tryz.call275 vs w) (by simp) (by simp [Tryz.ntmps275]) ?_
  show awb _ _ _ (retK _ _ _ _ _) _
  by_cases h1 : 0 ≤ a <;> by_cases h2 : a ≤ 40 <;> by_cases h3 : b = -1 <;> by_cases h4 : a ≤ b <;> by_cases h5 : b ≤ 40 <;> first
    | omega
    | (simp [h1, h2, h3, h4, h5]
       exact ret_pure (by simp [resA, resOne, boundedB, h1, h2, h3, h4, h5]) (by simp [AV.nm]))

theorem spec272 (R : Nat) (t : TypesT) (a : Int) : Spec Tryz.prog R 0 272 [.int .i64 a, .iptr (typesC t) 0] [] (.bool (insideB t a)) [] := by
  refine spec_intro hmix Tryz.func272 c272 (fun vs w => Tryz.call272 vs w) (by simp) (by simp [Tryz.ntmps272]) ?_
  show awb _ _ _ (retK _ _ _ _ _) _
  by_cases h1 : 0 ≤ a
  · by_cases h2 : a < t.nodes.length
    · simp [typesC, encNodes, h1, h2]
      exact ret_pure (by simp [resA, resOne, insideB, h1, h2]) (by simp [AV.nm])
    · simp [typesC, encNodes, h1, h2]
      exact ret_pure (by simp [resA, resOne, insideB, h1, h2]) (by simp [AV.nm])
  · simp [h1]
    exact ret_pure (by simp [resA, resOne, insideB, h1]) (by simp [AV.nm])

theorem spec280 (R : Nat) (t : TypesT) (a : Int) : Spec Tryz.prog R 0 280 [.int .i64 a, .iptr (typesC t) 0] [] (.bool (!insideB t a)) [] := by
  refine spec_intro hmix Tryz.func280 c280 (fun vs w => Tryz.call280 vs w) (by simp) (by simp [Tryz.ntmps280]) ?_
  show awb _ _ _ (retK _ _ _ _ _) _
  by_cases h1 : a < 0
  · have h1' : ¬ 0 ≤ a := by omega
    simp [h1]
    exact ret_pure (by simp [resA, resOne, insideB, h1']) (by simp [AV.nm])
  · have h1' : 0 ≤ a := by omega
    by_cases h2 : (t.nodes.length : Int) ≤ a
    · have h2' : ¬ a < t.nodes.length := by omega
      simp [typesC, encNodes, h1, h2]
      exact ret_pure (by simp [resA, resOne, insideB, h1', h2']) (by simp [AV.nm])
    · have h2' : a < t.nodes.length := by omega
      simp [typesC, encNodes, h1, h2]
      exact ret_pure (by simp [resA, resOne, insideB, h1', h2']) (by simp [AV.nm])
end Go.Av
/- What the functions of type graphs compute, in the program, second part. -/
namespace Go.Av
set_option linter.unusedVariables false
set_option linter.unusedSimpArgs false
open Go.Proofs

theorem spec329 (R : Nat) (l : List ByteArray) (hl : l.length ≤ 1048576) (hs : ∀ s ∈ l, s.size ≤ 1048576) : Spec Tryz.prog R 0 329 [encStrs l] [] (.int .i64 (namesE l)) [] := by
  refine spec_intro hmix Tryz.func329 c329 (fun vs w => Tryz.call329 vs w) (by simp) (by simp [Tryz.ntmps329]) ?_
  show awb _ _ _ (retK _ _ _ _ _) _
  by_cases h20 : l.length > 20
  · have h20' : (20 : Int) < l.length := by omega
    simp [encStrs, h20']
    exact ret_pure (by simp [resA, resOne, namesE, h20]) (by simp [AV.nm])
  have h20' : ¬ (20 : Int) < l.length := by omega
  simp [encStrs, h20']
  refine loop_sub (ι := { k : Nat // k ≤ l.length ∧ ∀ j, j < k → namesAt l j = none }) (fun k => ⟨[(0, encStrs l), (8, encStrs l), (9, .int .i64 l.length), (10, .int .i64 k.1)], [], R⟩) (fun k => l.length - k.1) ⟨0, by simp⟩ ?_ ?_ (Nat.le_refl _) ?_
  · simp [encStrs]
  · simp
  · rintro ⟨k, hk, hp⟩
    rcases Nat.lt_or_ge k l.length with hlt | hge
    · simp [encStrs, hlt, -Subtype.exists]
      refine call_val (spec148 _ l[k] (hs _ (List.getElem_mem hlt))) (by simp) ?_
      cases h1 : isName l[k] with
      | false =>
        simp
        exact ret_pure (by simp [resA, resOne]; unfold namesE; rw [if_neg h20, firstE_some hlt hp (by rw [namesAt_eq hlt, h1]; rfl)]; rfl) (by simp [AV.nm])
      | true =>
        have hk' : (k : Int) ≤ l.length := by omega
        simp [hk', -Subtype.exists]
        refine call_val (r := .bool (hasS (l.take k) l[k])) (by
          have := spec374 R (l.take k) l[k] (by simp; omega)
          simpa [encStrs, Nat.min_eq_left hk, List.map_take] using this) (by simp) ?_
        cases h2 : hasS (l.take k) l[k] with
        | true =>
          simp
          exact ret_pure (by simp [resA, resOne]; unfold namesE; rw [if_neg h20, firstE_some hlt hp (by rw [namesAt_eq hlt, h1, if_neg (by simp), if_pos h2])]; rfl) (by simp [AV.nm])
        | false =>
          simp [wrap_nat (show k < 4611686018427387904 by omega), -Subtype.exists]
          refine ⟨⟨k + 1, hlt, fun j hj => ?_⟩, ?_, shift_sub ?_ ?_ (Nat.le_refl _)⟩
          · rcases Nat.lt_or_ge j k with h | h
            · exact hp j h
            · have : j = k := by omega
              subst this; rw [namesAt_eq hlt, h1, if_neg (by simp), if_neg (by simp [h2])]
          · simp only; omega
          · simp [encStrs]
          · simp
    · simp [encStrs, Nat.not_lt.2 hge]
      exact ret_pure (by simp [resA, resOne]; unfold namesE; rw [if_neg h20, firstE_none fun j hj => hp j (by omega)]; rfl) (by simp [AV.nm])

/-- The bounds of an attribute. -/
def lowHigh (x : AttrT) : Bool := decide (-1000000 ≤ x.low) && (decide (x.low ≤ x.high) && decide (x.high ≤ 1000000))
theorem rangeOk_eq (x : AttrT) : rangeOk x = if 0 < x.names.length then decide (x.low = 0) && decide (x.high = (x.names.length : Int) - 1) else lowHigh x := by
  unfold rangeOk lowHigh
  split <;> simp [Bool.and_assoc, *]

set_option maxRecDepth 100000 in
theorem cut271 (R : Nat) (x : AttrT) (r : Int) (hr : r = if rangeOk x = true then 0 else 6) (hn : x.names.length ≤ 1048576) (o : Bool) (ho : o = lowHigh x) (rs : List (Nat × AV)) (h2 : rget rs 2 = .ptr R 0) (h6 : rget rs 6 = .bool o) :
    awb Tryz.prog R b271x15 (retK Tryz.prog R #[.tmp 4] (.int .i64 r) []) ⟨rs, [(R, attrC x)], R + 1⟩ := by
  rw [rangeOk_eq] at hr
  have hw : IntKind.i64.wrap ((x.names.length : Int) - 1) = (x.names.length : Int) - 1 := wrap_id (by omega) (by omega)
  by_cases hpos : 0 < x.names.length
  · have hpos' : (0 : Int) < x.names.length := by omega
    rw [if_pos hpos] at hr
    cases b1 : decide (x.low = 0) with
    | false =>
      rw [b1] at hr
      simp [h2, h6, attrC, encStrs, hpos, hpos', hw, b1]
      exact ret_pure (by simp [resA, resOne]; simpa using hr.symm) (by simp [AV.nm])
    | true =>
      rw [b1] at hr
      cases b2 : decide (x.high = (x.names.length : Int) - 1) with
      | false =>
        rw [b2] at hr
        simp [h2, h6, attrC, encStrs, hpos, hpos', hw, b1, b2]
        exact ret_pure (by simp [resA, resOne]; simpa using hr.symm) (by simp [AV.nm])
      | true =>
        rw [b2] at hr
        simp [h2, h6, attrC, encStrs, hpos, hpos', hw, b1, b2]
        exact ret_pure (by simp [resA, resOne]; simpa using hr.symm) (by simp [AV.nm])
  · rw [if_neg hpos, ← ho] at hr
    have he : x.names = [] := List.eq_nil_of_length_eq_zero (by omega)
    cases o with
    | false =>
      simp [h2, h6, attrC, encStrs, he]
      exact ret_pure (by simp [resA, resOne]; simpa using hr.symm) (by simp [AV.nm])
    | true =>
      simp [h2, h6, attrC, encStrs, he]
      exact ret_pure (by simp [resA, resOne]; simpa using hr.symm) (by simp [AV.nm])

set_option maxRecDepth 100000 in
theorem spec271 (R : Nat) (x : AttrT) (b : List AttrT) (hx : x.ok) (hb : b.length ≤ 1048576) : Spec Tryz.prog R 0 271 [.agg (attrC x), encAttrs b] [] (.int .i64 (attributeE x b)) [] := by
  obtain ⟨x1, x2, x3, x4, x5⟩ := hx
  refine spec_intro hmix Tryz.func271 c271 (fun vs w => Tryz.call271 vs w) (by simp) (by simp [Tryz.ntmps271]) ?_
  show awb _ _ (.seq b271x0 (.seq b271x5 (.seq (.seq b271x6 (.seq b271x7 (.cond (T 20) (.seq b271x8 .ret) .skip))) (.seq b271x9 b271x15)))) (retK _ _ _ _ _) _
  generalize hbb : b271x15 = bb
  simp [attrC]
  refine call_val (spec148 _ x.name x1) (by simp) ?_
  cases h1 : isName x.name with
  | false =>
    simp
    exact ret_pure (by simp [resA, resOne, attributeE, h1]) (by simp [AV.nm])
  | true =>
  simp
  refine call_lend [(R, attrC x)] (spec327 _ 328 [.iptr (attrC x) 0] (fun y => decide (y.name = x.name)) (fun R y => spec328 R x y) (by simp) b hb) ?_ rfl (by simp) ?_ ?_
  · simp [lookF, toL_cons, toL_nil]
  · simp [attrC, hget]
  cases h2 : (b.any fun y => decide (y.name = x.name)) with
  | true =>
    simp
    exact ret_pure (by simp [resA, resOne, attributeE, h1, h2]) (by simp [AV.nm])
  | false =>
  simp [attrC]
  refine call_val (spec329 _ x.names x2 x3) (by simp) ?_
  by_cases h3 : namesE x.names = 0
  case neg =>
    simp [h3]
    exact ret_pure (by simp [resA, resOne, attributeE, h1, h2, h3]) (by simp [AV.nm])
  have hE : attributeE x b = if rangeOk x = true then 0 else 6 := by
    unfold attributeE
    rw [if_neg (by simp [h1]), if_neg (by simp [h2]), if_neg (by simp [h3])]
  by_cases a1 : -1000000 ≤ x.low
  · by_cases a2 : x.low ≤ x.high
    · by_cases a3 : x.high ≤ 1000000 <;>
        (simp [h3, a1, a2, a3]
         subst hbb
         exact cut271 R x _ hE x2 _ (by simp [lowHigh, a1, a2, a3]) _ rfl rfl)
    · simp [h3, a1, a2]
      subst hbb
      exact cut271 R x _ hE x2 _ (by simp [lowHigh, a1, a2]) _ rfl rfl
  · simp [h3, a1]
    subst hbb
    exact cut271 R x _ hE x2 _ (by simp [lowHigh, a1]) _ rfl rfl
end Go.Av
/- What the functions of graphs compute, in the program; looking for numbers and edges. -/
namespace Go.Av
set_option linter.unusedVariables false
set_option linter.unusedSimpArgs false
open Go.Proofs

theorem spec200 (R g : Nat) (caps : List AV) (p : Int → Bool) (hg : ∀ (R : Nat) (y : Int), Spec Tryz.prog R 0 g ([.int .i64 y] ++ caps) [] (.bool (p y)) []) (hc : nmL (fun _ => False) caps) (l : List Int) (hl : l.length ≤ 1048576) :
    Spec Tryz.prog R 0 200 [encInts l, .fn g caps] [] (.int .i64 (findI l p)) [] := by
  refine spec_intro hmix Tryz.func200 c200 (fun vs w => Tryz.call200 vs w) (by simp) (by simp [Tryz.ntmps200]) ?_
  show awb _ _ _ (retK _ _ _ _ _) _
  simp [encInts]
  refine loop_sub (ι := { k : Nat // k ≤ l.length ∧ ∀ j (hj : j < l.length), j < k → p l[j] = false }) (fun k => ⟨[(0, encInts l), (1, .fn g caps), (7, .int .i64 l.length), (8, .int .i64 k.1)], [], R⟩) (fun k => l.length - k.1) ⟨0, by simp⟩ ?_ ?_ (Nat.le_refl _) ?_
  · simp [encInts]
  · simp
  · rintro ⟨k, hk, hp⟩
    rcases Nat.lt_or_ge k l.length with hlt | hge
    · simp [encInts, hlt, -Subtype.exists]
      refine call_val (hg _ _) (by simp [hc]) ?_
      cases hxy : p l[k] with
      | true =>
        simp
        exact ret_pure (by simp [resA, resOne, findI_hit hlt hp hxy]) (by simp [AV.nm])
      | false =>
        simp [wrap_nat (show k < 4611686018427387904 by omega), -Subtype.exists]
        refine ⟨⟨k + 1, hlt, fun j hj hjk => ?_⟩, ?_, shift_sub ?_ ?_ (Nat.le_refl _)⟩
        · rcases Nat.lt_or_ge j k with h | h
          · exact hp j hj h
          · have : j = k := by omega
            subst this; exact hxy
        · simp only; omega
        · simp [encInts]
        · simp
    · simp [encInts, Nat.not_lt.2 hge]
      exact ret_pure (by simp [resA, resOne]; rw [findI_none fun j hj => hp j hj (by omega)]) (by simp [AV.nm])

theorem spec91 (R g : Nat) (caps : List AV) (p : Int → Bool) (hg : ∀ (R : Nat) (y : Int), Spec Tryz.prog R 0 g ([.int .i64 y] ++ caps) [] (.bool (p y)) []) (hc : nmL (fun _ => False) caps) (l : List Int) (hl : l.length ≤ 1048576) :
    Spec Tryz.prog R 0 91 [encInts l, .fn g caps] [] (.bool (l.any p)) [] := by
  refine spec_intro hmix Tryz.func91 c91 (fun vs w => Tryz.call91 vs w) (by simp) (by simp [Tryz.ntmps91]) ?_
  show awb _ _ _ (retK _ _ _ _ _) _
  simp
  refine call_val (spec200 _ g caps p hg hc l hl) (by simp [hc]) ?_
  simp [findI_nonneg]
  exact ret_pure (by simp [resA, resOne]) (by simp [AV.nm])

theorem spec201 (R g : Nat) (caps : List AV) (p : Int × Int × Int → Bool) (hg : ∀ (R : Nat) (y : Int × Int × Int), Spec Tryz.prog R 0 g ([.agg (edgeC y)] ++ caps) [] (.bool (p y)) []) (hc : nmL (fun _ => False) caps) (l : List (Int × Int × Int)) (hl : l.length ≤ 1048576) :
    Spec Tryz.prog R 0 201 [encEdges l, .fn g caps] [] (.int .i64 (findI l p)) [] := by
  refine spec_intro hmix Tryz.func201 c201 (fun vs w => Tryz.call201 vs w) (by simp) (by simp [Tryz.ntmps201]) ?_
  show awb _ _ _ (retK _ _ _ _ _) _
  simp [encEdges]
  refine loop_sub (ι := { k : Nat // k ≤ l.length ∧ ∀ j (hj : j < l.length), j < k → p l[j] = false }) (fun k => ⟨[(0, encEdges l), (1, .fn g caps), (7, .int .i64 l.length), (8, .int .i64 k.1)], [], R⟩) (fun k => l.length - k.1) ⟨0, by simp⟩ ?_ ?_ (Nat.le_refl _) ?_
  · simp [encEdges]
  · simp
  · rintro ⟨k, hk, hp⟩
    rcases Nat.lt_or_ge k l.length with hlt | hge
    · have h4 : k * 3 + 3 ≤ l.length * 3 := by omega
      simp [encEdges, hlt, h4, edgeCs_at _ _ hlt, -Subtype.exists]
      refine call_val (hg _ _) (by simp [hc]) ?_
      cases hxy : p l[k] with
      | true =>
        simp
        exact ret_pure (by simp [resA, resOne, findI_hit hlt hp hxy]) (by simp [AV.nm])
      | false =>
        simp [wrap_nat (show k < 4611686018427387904 by omega), -Subtype.exists]
        refine ⟨⟨k + 1, hlt, fun j hj hjk => ?_⟩, ?_, shift_sub ?_ ?_ (Nat.le_refl _)⟩
        · rcases Nat.lt_or_ge j k with h | h
          · exact hp j hj h
          · have : j = k := by omega
            subst this; exact hxy
        · simp only; omega
        · simp [encEdges]
        · simp
    · simp [encEdges, Nat.not_lt.2 hge]
      exact ret_pure (by simp [resA, resOne]; rw [findI_none fun j hj => hp j hj (by omega)]) (by simp [AV.nm])

theorem spec93 (R g : Nat) (caps : List AV) (p : Int × Int × Int → Bool) (hg : ∀ (R : Nat) (y : Int × Int × Int), Spec Tryz.prog R 0 g ([.agg (edgeC y)] ++ caps) [] (.bool (p y)) []) (hc : nmL (fun _ => False) caps) (l : List (Int × Int × Int)) (hl : l.length ≤ 1048576) :
    Spec Tryz.prog R 0 93 [encEdges l, .fn g caps] [] (.bool (l.any p)) [] := by
  refine spec_intro hmix Tryz.func93 c93 (fun vs w => Tryz.call93 vs w) (by simp) (by simp [Tryz.ntmps93]) ?_
  show awb _ _ _ (retK _ _ _ _ _) _
  simp
  refine call_val (spec201 _ g caps p hg hc l hl) (by simp [hc]) ?_
  simp [findI_nonneg]
  exact ret_pure (by simp [resA, resOne]) (by simp [AV.nm])

theorem spec231 (R : Nat) (l : List Int) (x : Int) (hl : l.length ≤ 1048576) : Spec Tryz.prog R 0 231 [encInts l, .int .i64 x] [] (.int .i64 (idxI l x)) [] := by
  refine spec_intro hmix Tryz.func231 c231 (fun vs w => Tryz.call231 vs w) (by simp) (by simp [Tryz.ntmps231]) ?_
  show awb _ _ _ (retK _ _ _ _ _) _
  simp [encInts]
  refine loop_sub (ι := { k : Nat // k ≤ l.length ∧ ∀ j, j < k → l[j]? ≠ some x }) (fun k => ⟨[(0, encInts l), (1, .int .i64 x), (7, .int .i64 l.length), (8, .int .i64 k.1)], [], R⟩) (fun k => l.length - k.1) ⟨0, by simp⟩ ?_ ?_ (Nat.le_refl _) ?_
  · simp [encInts]
  · simp
  · rintro ⟨k, hk, hp⟩
    rcases Nat.lt_or_ge k l.length with hlt | hge
    · by_cases hxy : x = l[k]
      · simp [encInts, hlt, ← hxy]
        exact ret_pure (by simp [resA, resOne]; unfold idxI; rw [firstE_some hlt (fun j hj => if_neg (hp j hj)) (x := (k : Int)) (by simp [hlt, hxy])]; rfl) (by simp [AV.nm])
      · simp [encInts, hlt, hxy, wrap_nat (show k < 4611686018427387904 by omega), -Subtype.exists]
        refine ⟨⟨k + 1, hlt, fun j hj => ?_⟩, ?_, shift_sub ?_ ?_ (Nat.le_refl _)⟩
        · rcases Nat.lt_or_ge j k with h | h
          · exact hp j h
          · have : j = k := by omega
            subst this; rw [List.getElem?_eq_getElem hlt]; intro he; exact hxy (Option.some.inj he).symm
        · simp only; omega
        · simp [encInts]
        · simp
    · simp [encInts, Nat.not_lt.2 hge]
      exact ret_pure (by simp [resA, resOne]; unfold idxI; rw [firstE_none (fun j hj => if_neg (hp j (by omega)))]; rfl) (by simp [AV.nm])

theorem spec138 (R : Nat) (l : List Int) (x : Int) (hl : l.length ≤ 1048576) : Spec Tryz.prog R 0 138 [encInts l, .int .i64 x] [] (.bool (decide (x ∈ l))) [] := by
  refine spec_intro hmix Tryz.func138 c138 (fun vs w => Tryz.call138 vs w) (by simp) (by simp [Tryz.ntmps138]) ?_
  show awb _ _ _ (retK _ _ _ _ _) _
  simp
  refine call_val (spec231 _ l x hl) (by simp) ?_
  have hm : (l.any fun y => decide (y = x)) = decide (x ∈ l) := by
    rw [Bool.eq_iff_iff, List.any_eq_true, decide_eq_true_eq]
    exact ⟨fun ⟨y, h, e⟩ => by simp at e; exact e ▸ h, fun h => ⟨x, h, by simp⟩⟩
  simp [idxI_nonneg, hm]
  exact ret_pure (by simp [resA, resOne, hm]) (by simp [AV.nm])

theorem spec197 (R : Nat) (a b : Int) : Spec Tryz.prog R 0 197 [.int .i64 a, .int .i64 b] [] (.bool (decide (0 ≤ a) && decide (a ≤ b))) [] := by
  refine spec_intro hmix Tryz.func197 c197 (fun vs w => Tryz.call197 vs w) (by simp) (by simp [Tryz.ntmps197]) ?_
  show awb _ _ _ (retK _ _ _ _ _) _
  by_cases h1 : 0 ≤ a <;> by_cases h2 : a ≤ b <;>
    (simp [h1, h2]
     exact ret_pure (by simp [resA, resOne, h1, h2]) (by simp [AV.nm]))

theorem spec196 (R : Nat) (a : Int) : Spec Tryz.prog R 0 196 [.int .i64 a] [] (.bool (!kindG a)) [] := by
  refine spec_intro hmix Tryz.func196 c196 (fun vs w => Tryz.call196 vs w) (by simp) (by simp [Tryz.ntmps196]) ?_
  show awb _ _ _ (retK _ _ _ _ _) _
  simp
  refine call_val (spec197 _ a 99) (by simp) ?_
  simp
  exact ret_pure (by simp [resA, resOne, kindG]) (by simp [AV.nm])

theorem spec199 (R : Nat) (x : Int × Int × Int) (n : Nat) (hn : n ≤ 1048576) : Spec Tryz.prog R 0 199 [.agg (edgeC x), .int .i64 n] [] (.bool (rightG x n)) [] := by
  refine spec_intro hmix Tryz.func199 c199 (fun vs w => Tryz.call199 vs w) (by simp) (by simp [Tryz.ntmps199]) ?_
  show awb _ _ _ (retK _ _ _ _ _) _
  have hw : IntKind.i64.wrap ((n : Int) - 1) = (n : Int) - 1 := wrap_id (by omega) (by omega)
  simp [edgeC]
  refine call_val (spec197 _ x.1 99) (by simp) ?_
  cases h1 : (decide (0 ≤ x.1) && decide (x.1 ≤ 99)) with
  | false =>
    simp
    exact ret_pure (by simp [resA, resOne, rightG, kindG, h1]) (by simp [AV.nm])
  | true =>
  simp [hw]
  refine call_val (spec197 _ x.2.1 ((n : Int) - 1)) (by simp) ?_
  cases h2 : (decide (0 ≤ x.2.1) && decide (x.2.1 ≤ (n : Int) - 1)) with
  | false =>
    simp
    exact ret_pure (by simp [resA, resOne, rightG, kindG, h1, h2]) (by simp [AV.nm])
  | true =>
  simp [hw]
  refine call_val (spec197 _ x.2.2 ((n : Int) - 1)) (by simp) ?_
  simp
  exact ret_pure (by simp [resA, resOne, rightG, kindG, h1, h2]) (by simp [AV.nm])

theorem spec198 (R : Nat) (n : List Int) (e : List (Int × Int × Int)) (hn : n.length ≤ 1048576) (x : Int × Int × Int) : Spec Tryz.prog R 0 198 [.agg (edgeC x), .iptr (graphC n e) 0] [] (.bool (!rightG x n.length)) [] := by
  refine spec_intro hmix Tryz.func198 c198 (fun vs w => Tryz.call198 vs w) (by simp) (by simp [Tryz.ntmps198]) ?_
  show awb _ _ _ (retK _ _ _ _ _) _
  simp [edgeC, graphC, encInts]
  refine call_val (spec199 _ x n.length hn) (by simp [edgeC]) ?_
  simp
  exact ret_pure (by simp [resA, resOne]) (by simp [AV.nm])

theorem spec90 (R : Nat) (n : List Int) (e : List (Int × Int × Int)) (hn : n.length ≤ 1048576) (he : e.length ≤ 1048576) : Spec Tryz.prog R 0 90 [.agg (graphC n e)] [] (.int .i64 (validG n e)) [] := by
  refine spec_intro hmix Tryz.func90 c90 (fun vs w => Tryz.call90 vs w) (by simp) (by simp [Tryz.ntmps90]) ?_
  show awb _ _ _ (retK _ _ _ _ _) _
  by_cases h1 : n.length > 40
  · have h1' : (40 : Int) < n.length := by omega
    simp [graphC, encInts, encEdges, h1']
    exact ret_pure (by simp [resA, resOne, validG, h1]) (by simp [AV.nm])
  have h1' : ¬ (40 : Int) < n.length := by omega
  by_cases h2 : e.length > 80
  · have h2' : (80 : Int) < e.length := by omega
    simp [graphC, encInts, encEdges, h1', h2']
    exact ret_pure (by simp [resA, resOne, validG, h2]) (by simp [AV.nm])
  have h2' : ¬ (80 : Int) < e.length := by omega
  have k1 : ¬ (n.length > 40 ∨ e.length > 80) := by omega
  have a1 : ∀ l : List Int, (l.any fun x => !kindG x) = !l.all kindG := fun l => by rw [List.all_eq_not_any_not]; simp
  have a2 : ∀ l : List (Int × Int × Int), (l.any fun x => !rightG x n.length) = !l.all fun x => rightG x n.length := fun l => by rw [List.all_eq_not_any_not]; simp
  simp [graphC, encInts, encEdges, h1', h2']
  refine call_val (spec91 _ 196 [] (fun x => !kindG x) (fun R y => spec196 R y) (by simp) n hn) (by simp [encInts]) ?_
  rw [a1]
  cases h3 : n.all kindG with
  | false =>
    simp
    exact ret_pure (by simp [resA, resOne, validG, k1, h3, -List.all_eq_true, -List.all_eq_false]) (by simp [AV.nm])
  | true =>
  simp
  refine call_lend [(R, graphC n e)] (spec93 _ 198 [.iptr (graphC n e) 0] (fun x => !rightG x n.length) (fun R y => spec198 R n e hn y) (by simp [graphC]) e he) ?_ rfl (by simp [encEdges]) ?_ ?_
  · simp [lookF, toL_cons, toL_nil, encEdges]
  · simp [graphC, hget, encInts, encEdges]
  rw [a2]
  cases h4 : (e.all fun x => rightG x n.length) with
  | false =>
    simp
    exact ret_pure (by simp [resA, resOne, validG, k1, h3, h4, -List.all_eq_true, -List.all_eq_false]) (by simp [AV.nm])
  | true =>
    simp
    exact ret_pure (by simp [resA, resOne, validG, k1, h3, h4, -List.all_eq_true, -List.all_eq_false]) (by simp [AV.nm])
end Go.Av
/- What the functions of type graphs compute, in the program, third part. -/
namespace Go.Av
set_option linter.unusedVariables false
set_option linter.unusedSimpArgs false
open Go.Proofs

theorem attrsT_len {ns : List NodeT} {M : Nat} (h : ∀ n ∈ ns, n.attrs.length ≤ M) (a : Nat) : (attrsT ns a).length ≤ (a + 1) * M := by
  induction a using Nat.strongRecOn with
  | ind a ih =>
  rw [attrsT]
  split
  · simp
  · rename_i n hn
    have hm := h n (List.mem_of_getElem? hn)
    rw [List.length_append, Nat.succ_mul]
    split
    · rename_i hh
      have := ih _ hh.2
      have hle : (n.parent.toNat + 1) * M ≤ a * M := Nat.mul_le_mul_right _ (by omega)
      omega
    · simp; omega

theorem attrsT_mem {ns : List NodeT} {p : AttrT → Prop} (h : ∀ n ∈ ns, ∀ x ∈ n.attrs, p x) (a : Nat) : ∀ x ∈ attrsT ns a, p x := by
  induction a using Nat.strongRecOn with
  | ind a ih =>
  rw [attrsT]
  split
  · simp
  · rename_i n hn
    intro x hx
    rw [List.mem_append] at hx
    rcases hx with hx | hx
    · split at hx
      · rename_i hh; exact ih _ hh.2 x hx
      · cases hx
    · exact h n (List.mem_of_getElem? hn) x hx

theorem spec228 (t : TypesT) (ht : t.ok) (h12 : t.nodes.length ≤ 12) : ∀ (a : Nat) (ha : a < t.nodes.length) (hp : Par t.nodes a) (R : Nat),
    Spec Tryz.prog R 1 228 [.agg (typesC t), .int .i64 a] [] (.osl R 0 (attrsT t.nodes a).length none 4) [(R, attrCs (attrsT t.nodes a))] := by
  intro a
  induction a using Nat.strongRecOn with
  | ind a ih =>
  intro ha hp R
  refine spec_intro hmix Tryz.func228 c228 (fun vs w => Tryz.call228 vs w) (by simp) (by simp [Tryz.ntmps228]) ?_
  show awb _ _ _ (retK _ _ _ _ _) _
  have hpar := hp a _ (Nat.le_refl _) (List.getElem?_eq_getElem ha)
  have hlen : (attrsT t.nodes a).length ≤ 13 * 1048576 := Nat.le_trans (attrsT_len (M := 1048576) (fun n hn => (ht.n n hn).2.1) a) (Nat.mul_le_mul_right _ (by omega))
  have g1 := nodeTCs_get t.nodes a 1 ha (by omega)
  have g3 := nodeTCs_get t.nodes a 3 ha (by omega)
  by_cases h0 : 0 ≤ t.nodes[a].parent
  · obtain ⟨m, hm⟩ : ∃ m : Nat, t.nodes[a].parent = (m : Int) := ⟨_, (Int.toNat_of_nonneg h0).symm⟩
    have hma : m < a := by omega
    have hat : attrsT t.nodes a = attrsT t.nodes m ++ t.nodes[a].attrs := by
      rw [attrsT_eq ha hp, if_pos h0, hm]; rfl
    have hl2 : (attrsT t.nodes a).length = (attrsT t.nodes m).length + t.nodes[a].attrs.length := by rw [hat, List.length_append]
    simp [typesC, encNodes, ha, g1, nodeTC, hm, Nat.add_assoc]
    refine call_own (ih m hma (by omega) (fun j n hj hn => hp j n (by omega) hn) (R + 1)) (by simp) ?_
    have h4 : (attrsT t.nodes m).length + t.nodes[a].attrs.length ≤ 4294967296 := by omega
    simp [ha, g3, nodeTC, encAttrs, h4, Nat.add_assoc]
    refine ret_ren (v := .osl (R + 2) 0 ((attrsT t.nodes m).length + t.nodes[a].attrs.length) none 4) ?_ [(R + 2, R)] [] [R + 2] ?_ ?_ ?_ ?_
    · simp [resA, resOne]
    · simp [NsOK]
    · simp [FzL, look]
    · simp [look, hl2]
    · simp [HpTo_cons, HpTo_nil, look, hat, attrCs_append]
      rw [List.take_of_length_le (by simp)]
      exact toL_append (toL_refl (nmL_attrCs _)) (toL_refl (nmL_attrCs _))
  · have hat : attrsT t.nodes a = t.nodes[a].attrs := by
      rw [attrsT_eq ha hp, if_neg h0]; rfl
    have h4 : t.nodes[a].attrs.length ≤ 4294967296 := by rw [hat] at hlen; omega
    simp [typesC, encNodes, ha, g1, g3, nodeTC, h0, encAttrs, h4, Nat.add_assoc]
    refine ret_ren (v := .osl (R + 1) 0 t.nodes[a].attrs.length none 4) ?_ [(R + 1, R)] [] [R + 1] ?_ ?_ ?_ ?_
    · simp [resA, resOne]
    · simp [NsOK]
    · simp [FzL, look]
    · simp [look, hat]
    · simp [HpTo_cons, HpTo_nil, look, hat]
      exact toL_refl (nmL_attrCs _)

theorem par_step {ns : List NodeT} {i : Nat} (h : ∀ j n, j < i → ns[j]? = some n → -1 ≤ n.parent ∧ n.parent < j) (n : NodeT) (hn : ns[i]? = some n) (h1 : -1 ≤ n.parent) (h2 : n.parent < i) : Par ns i := by
  intro j m hj hm
  rcases Nat.lt_or_ge j i with h' | h'
  · exact h j m h' hm
  · have : j = i := by omega
    subst this; rw [hn] at hm; cases hm; exact ⟨h1, h2⟩

theorem spec194 (R : Nat) (t : TypesT) (ht : t.ok) (h12 : t.nodes.length ≤ 12) (i : Nat) (hi : i < t.nodes.length) (hp : ∀ j n, j < i → t.nodes[j]? = some n → -1 ≤ n.parent ∧ n.parent < j) :
    Spec Tryz.prog R 0 194 [.agg (typesC t), .int .i64 i] [] (.int .i64 (nodeE t i)) [] := by
  refine spec_intro hmix Tryz.func194 c194 (fun vs w => Tryz.call194 vs w) (by simp) (by simp [Tryz.ntmps194]) ?_
  show awb _ _ _ (retK _ _ _ _ _) _
  obtain ⟨n1, n2, n3, n4⟩ := ht.n _ (List.getElem_mem hi)
  have hE : nodeE t i = if isName t.nodes[i].name = false then 2 else if ((t.nodes.take i).any fun m => decide (m.name = t.nodes[i].name)) = true then 5 else
    if t.nodes[i].parent < -1 ∨ t.nodes[i].parent ≥ i then 6 else if t.nodes[i].attrs.length > 4 then 3 else
    if (attrsT t.nodes i).length > 8 then 3 else ownE (attrsT t.nodes i) ((attrsT t.nodes i).length - t.nodes[i].attrs.length) := by
    simp only [nodeE, List.getElem?_eq_getElem hi]
  have hlen : i * 4 + 4 ≤ t.nodes.length * 4 := by omega
  have gn : (t.nodes[i]? = some t.nodes[i]) := List.getElem?_eq_getElem hi
  generalize hn : t.nodes[i] = n at *
  have hat := nodeTCs_at t.nodes i hi
  rw [hn] at hat
  have hi' : (i : Int) ≤ t.nodes.length := by omega
  have hi2 : i ≤ t.nodes.length := by omega
  simp [typesC, encNodes, hi, hlen, hat, nodeTC, spl, Nat.add_assoc]
  refine call_val (spec148 _ n.name n1) (by simp) ?_
  cases h1 : isName n.name with
  | false =>
    simp
    exact ret_pure (by simp [resA, resOne]; rw [hE, if_pos h1]) (by simp [AV.nm])
  | true =>
  simp [hi', hi2, Nat.add_assoc]
  refine call_lend [(R + 1, nodeTC n)] (r := .bool ((t.nodes.take i).any fun m => decide (m.name = n.name))) (args' := [encNodes (t.nodes.take i), .fn 270 [.iptr (nodeTC n) 0]]) (spec269 _ 270 [.iptr (nodeTC n) 0] (fun y => decide (y.name = n.name)) (fun R y => spec270 R n y) (by simp) (t.nodes.take i) (by simp; omega)) ?_ rfl ?_ ?_ ?_
  · simp [lookF, encNodes, toL_cons, toL_nil, nodeTCs_take, Nat.min_eq_left hi2]
  · simp [nodeTCs_take]
  · simp [nodeTC, hget]
  cases h2 : ((t.nodes.take i).any fun m => decide (m.name = n.name)) with
  | true =>
    simp
    exact ret_pure (by simp [resA, resOne]; rw [hE, if_neg (by simp [h1]), if_pos h2]) (by simp [AV.nm])
  | false =>
  rw [if_neg (by simp [h1]), if_neg (by simp [h2])] at hE
  by_cases h3 : n.parent < -1
  · simp [h3]
    exact ret_pure (by simp [resA, resOne]; rw [hE, if_pos (.inl h3)]) (by simp [AV.nm])
  by_cases h4 : (i : Int) ≤ n.parent
  · simp [h3, h4]
    exact ret_pure (by simp [resA, resOne]; rw [hE, if_pos (.inr h4)]) (by simp [AV.nm])
  rw [if_neg (by omega)] at hE
  by_cases h5 : n.attrs.length > 4
  · have h5' : (4 : Int) < n.attrs.length := by omega
    simp [h3, h4, encAttrs, h5']
    exact ret_pure (by simp [resA, resOne]; rw [hE, if_pos h5]) (by simp [AV.nm])
  have h5' : ¬ (4 : Int) < n.attrs.length := by omega
  rw [if_neg h5] at hE
  have hpar : Par t.nodes i := par_step hp n gn (by omega) (by omega)
  have hall := attrsT_eq hi hpar
  rw [hn] at hall
  simp [h3, h4, h5', encAttrs, Nat.add_assoc]
  refine call_own (spec228 t ht h12 i hi hpar (R + 2)) (by simp) ?_
  have hok : ∀ x ∈ attrsT t.nodes i, x.ok := attrsT_mem (fun n hn => (ht.n n hn).2.2.1) i
  have hge : n.attrs.length ≤ (attrsT t.nodes i).length := by rw [hall, List.length_append]; omega
  generalize attrsT t.nodes i = all at *
  by_cases h6 : all.length > 8
  · have h6' : (8 : Int) < all.length := by omega
    simp [h6']
    exact ret_pure (by simp [resA, resOne]; rw [hE, if_pos h6]) (by simp [AV.nm])
  have h6' : ¬ (8 : Int) < all.length := by omega
  rw [if_neg h6] at hE
  have hw : IntKind.i64.wrap ((all.length : Int) - n.attrs.length) = ((all.length - n.attrs.length : Nat) : Int) := by rw [wrap_id (by omega) (by omega)]; omega
  simp [h6', hw]
  generalize hf : all.length - n.attrs.length = first
  refine loop_intro (ι := { j : Nat // first + j ≤ all.length ∧ ∀ i, i < j → ownAt all (first + i) = none }) (fun j => ⟨[(2, .ptr R 0), (5, .ptr (R + 1) 0), (6, encAttrs all), (7, .int .i64 ((first + j.1 : Nat) : Int))], [(R, typesC t), (R + 1, nodeTC n)], R + 2⟩) (fun j => all.length - first - j.1) ⟨0, by simp; omega⟩ ?_ ?_
  · refine shift_ren [(R, R), (R + 1, R + 1)] [(R + 2, attrCs all)] [R, R + 1] (by omega) ?_ ?_ ?_ ?_
    · simp [NsOK]
    · simp [FzL, look, hset]
    · simp [look, lookF, encAttrs]
    · simp [HpTo_cons, HpTo_nil, look, hset, typesC, nodeTC, encNodes, encAttrs, toL_cons, toL_nil]
  · rintro ⟨j, hj, hq⟩
    rcases Nat.lt_or_ge (first + j) all.length with hlt | hge2
    · have hb : (first + j) * 4 + 4 ≤ all.length * 4 := by omega
      have hlt' : ((first + j : Nat) : Int) < all.length := by omega
      have hle' : ((first + j : Nat) : Int) ≤ all.length := by omega
      simp [encAttrs, hlt, hlt', hle', hb, attrCs_at _ _ hlt, attrCs_take, -Subtype.exists, -Int.natCast_add]
      refine call_val (r := .int .i64 (attributeE all[first + j] (all.take (first + j)))) (by
        have := spec271 (R + 2) all[first + j] (all.take (first + j)) (hok _ (List.getElem_mem hlt)) (by simp; omega)
        simpa [encAttrs, Nat.min_eq_left hj] using this) (by simp) ?_
      by_cases h7 : attributeE all[first + j] (all.take (first + j)) = 0
      · have hw2 : IntKind.i64.wrap (((first + j : Nat) : Int) + 1) = ((first + (j + 1) : Nat) : Int) := by rw [wrap_id (by omega) (by omega)]; omega
        simp [h7, hw2, -Subtype.exists, -Int.natCast_add]
        refine ⟨⟨j + 1, by omega, fun i hi => ?_⟩, ?_, shift_sub ?_ ?_ (Nat.le_refl _)⟩
        · rcases Nat.lt_or_ge i j with h | h
          · exact hq i h
          · have : i = j := by omega
            subst this; rw [ownAt_eq hlt]; simp [h7]
        · simp only; omega
        · simp [encAttrs]
        · simp
      · simp [h7]
        exact ret_pure (by
          simp [resA, resOne]; rw [hE, hf]; unfold ownE
          rw [firstE_some (k := j) (x := attributeE all[first + j] (all.take (first + j))) (by omega) hq (by rw [ownAt_eq hlt]; simp [h7])]; rfl) (by simp [AV.nm])
    · have hlt' : ¬ ((first + j : Nat) : Int) < all.length := by omega
      simp [encAttrs, hlt', -Int.natCast_add]
      exact ret_pure (by
        simp [resA, resOne]; rw [hE, hf]; unfold ownE
        rw [firstE_none fun i hi => hq i (by omega)]; rfl) (by simp [AV.nm])
end Go.Av
/- What the functions of type graphs compute, in the program, fourth part. -/
namespace Go.Av
set_option linter.unusedVariables false
set_option linter.unusedSimpArgs false
open Go.Proofs

theorem spec195 (R : Nat) (t : TypesT) (ht : t.ok) (i : Nat) (hi : i < t.edges.length) : Spec Tryz.prog R 0 195 [.agg (typesC t), .int .i64 i] [] (.int .i64 (edgeE t i)) [] := by
  refine spec_intro hmix Tryz.func195 c195 (fun vs w => Tryz.call195 vs w) (by simp) (by simp [Tryz.ntmps195]) ?_
  show awb _ _ _ (retK _ _ _ _ _) _
  have n1 := (ht.e _ (List.getElem_mem hi)).1
  have hE : edgeE t i = if isName t.edges[i].name = false then 2 else if ((t.edges.take i).any fun m => decide (m.name = t.edges[i].name)) = true then 5 else
    if (insideB t t.edges[i].fr && insideB t t.edges[i].to && boundedB t.edges[i].ol t.edges[i].oh && boundedB t.edges[i].il t.edges[i].ih) = true then 0 else 6 := by
    simp only [edgeE, List.getElem?_eq_getElem hi]
  have hlen : i * 7 + 7 ≤ t.edges.length * 7 := by omega
  have hat := edgeTCs_at t.edges i hi
  generalize hn : t.edges[i] = x at *
  have hi' : (i : Int) ≤ t.edges.length := by omega
  have hi2 : i ≤ t.edges.length := by omega
  have hel := ht.el
  simp [typesC, encETypes, hi, hlen, hat, edgeTC, spl, Nat.add_assoc]
  refine call_val (spec148 _ x.name n1) (by simp) ?_
  cases h1 : isName x.name with
  | false =>
    simp
    exact ret_pure (by simp [resA, resOne]; rw [hE, if_pos h1]) (by simp [AV.nm])
  | true =>
  simp [hi', hi2, Nat.add_assoc]
  refine call_lend [(R + 1, edgeTC x)] (r := .bool ((t.edges.take i).any fun m => decide (m.name = x.name))) (args' := [encETypes (t.edges.take i), .fn 274 [.iptr (edgeTC x) 0]]) (spec273 _ 274 [.iptr (edgeTC x) 0] (fun y => decide (y.name = x.name)) (fun R y => spec274 R x y) (by simp) (t.edges.take i) (by simp; omega)) ?_ rfl ?_ ?_ ?_
  · simp [lookF, encETypes, toL_cons, toL_nil, edgeTCs_take, Nat.min_eq_left hi2]
  · simp [edgeTCs_take]
  · simp [edgeTC, hget]
  cases h2 : ((t.edges.take i).any fun m => decide (m.name = x.name)) with
  | true =>
    simp
    exact ret_pure (by simp [resA, resOne]; rw [hE, if_neg (by simp [h1]), if_pos h2]) (by simp [AV.nm])
  | false =>
  rw [if_neg (by simp [h1]), if_neg (by simp [h2])] at hE
  simp
  refine call_lend [(R, typesC t)] (spec272 _ t x.fr) (by simp [lookF, toL_cons, toL_nil]) rfl (by simp) (by simp [typesC, hget, encETypes]) ?_
  cases h3 : insideB t x.fr with
  | false =>
    simp
    exact ret_pure (by simp [resA, resOne]; rw [hE, h3]; simp) (by simp [AV.nm])
  | true =>
  simp
  refine call_lend [(R, typesC t)] (spec272 _ t x.to) (by simp [lookF, toL_cons, toL_nil]) rfl (by simp) (by simp [typesC, hget, encETypes]) ?_
  cases h4 : insideB t x.to with
  | false =>
    simp
    exact ret_pure (by simp [resA, resOne]; rw [hE, h3, h4]; simp) (by simp [AV.nm])
  | true =>
  simp
  refine call_val (spec275 _ x.ol x.oh) (by simp) ?_
  cases h5 : boundedB x.ol x.oh with
  | false =>
    simp
    exact ret_pure (by simp [resA, resOne]; rw [hE, h3, h4, h5]; simp) (by simp [AV.nm])
  | true =>
  simp
  refine call_val (spec275 _ x.il x.ih) (by simp) ?_
  cases h6 : boundedB x.il x.ih with
  | false =>
    simp
    exact ret_pure (by simp [resA, resOne]; rw [hE, h3, h4, h5, h6]; simp) (by simp [AV.nm])
  | true =>
    simp
    exact ret_pure (by simp [resA, resOne]; rw [hE, h3, h4, h5, h6]; simp) (by simp [AV.nm])

theorem validT_loop {t : TypesT} (h0 : ¬ t.nodes.length = 0) (h1 : ¬ (t.nodes.length > 12 ∨ t.edges.length > 20)) : validT t = ((firstE t.nodes.length (nodeAt t)).or (firstE t.edges.length (edgeAt t))).getD (⟨#[]⟩, 0) := by
  unfold validT; rw [if_neg h0, if_neg h1]

theorem spec89 (R : Nat) (t : TypesT) (ht : t.ok) : Spec Tryz.prog R 0 89 [.agg (typesC t)] [] (.tup [.str (validT t).1, .int .i64 (validT t).2]) [] := by
  refine spec_intro hmix Tryz.func89 c89 (fun vs w => Tryz.call89 vs w) (by simp) (by simp [Tryz.ntmps89]) ?_
  show awb _ _ _ (retK _ _ _ _ _) _
  by_cases h0 : t.nodes.length = 0
  · have h0' : t.nodes = [] := List.eq_nil_of_length_eq_zero h0
    simp [typesC, encNodes, h0']
    exact ret_pure (by simp [resA, resOne, validT, h0]) (by simp [AV.nm])
  have h0' : ¬ t.nodes = [] := fun h => h0 (by simp [h])
  by_cases h1 : t.nodes.length > 12
  · have h1' : (12 : Int) < t.nodes.length := by omega
    simp [typesC, encNodes, h0', h1']
    exact ret_pure (by simp [resA, resOne, validT, h0, h1]) (by simp [AV.nm])
  have h1' : ¬ (12 : Int) < t.nodes.length := by omega
  by_cases h2 : t.edges.length > 20
  · have h2' : (20 : Int) < t.edges.length := by omega
    simp [typesC, encNodes, encETypes, h0', h1', h2']
    exact ret_pure (by simp [resA, resOne, validT, h0, h2]) (by simp [AV.nm])
  have h2' : ¬ (20 : Int) < t.edges.length := by omega
  rw [validT_loop h0 (by omega)]
  simp [typesC, encNodes, encETypes, h0', h1', h2']
  refine loop_sub (ι := { k : Nat // k ≤ t.nodes.length ∧ ∀ j, j < k → nodeAt t j = none }) (fun k => ⟨[(1, .ptr R 0), (27, encNodes t.nodes), (28, .int .i64 t.nodes.length), (29, .int .i64 k.1)], [(R, typesC t)], R + 1⟩) (fun k => t.nodes.length - k.1) ⟨0, by simp⟩ ?_ ?_ (Nat.le_refl _) ?_
  · simp [encNodes]
  · simp [typesC, encNodes, encETypes]
  rintro ⟨k, hk, hp⟩
  have hz : ∀ j, j < k → nodeE t j = 0 := fun j hj => by
    have := hp j hj
    unfold nodeAt at this
    by_cases h : nodeE t j = 0
    · exact h
    · simp [h] at this
  rcases Nat.lt_or_ge k t.nodes.length with hlt | hge
  · have hlen : k * 4 + 4 ≤ t.nodes.length * 4 := by omega
    simp [typesC, encNodes, hlt, hlen, nodeTCs_at _ _ hlt, nodeTC, spl, Nat.add_assoc, -Subtype.exists]
    refine call_val (spec194 _ t ht (by omega) k hlt (fun j n hj hn => nodeE_parent (hz j hj) n hn)) (by simp [typesC, encNodes]) ?_
    by_cases h3 : nodeE t k = 0
    · simp [h3, wrap_nat (show k < 4611686018427387904 by omega), -Subtype.exists]
      refine ⟨⟨k + 1, hlt, fun j hj => ?_⟩, by simp only; omega, shift_ren [(R, R)] [] [R] (by omega) ?_ ?_ ?_ ?_⟩
      · rcases Nat.lt_or_ge j k with h | h
        · exact hp j h
        · have : j = k := by omega
          subst this; simp [nodeAt, h3]
      · simp [NsOK]
      · simp [FzL]
      · simp [look, encNodes]
      · simp [HpTo_cons, HpTo_nil, look, typesC, encNodes, encETypes, toL_cons, toL_nil]
    · simp [h3]
      exact ret_pure (by simp [resA, resOne]; rw [firstE_some hlt hp (x := (t.nodes[k].name, nodeE t k)) (by simp [nodeAt, h3, hlt])]; simp) (by simp [AV.nm])
  · have hk' : k = t.nodes.length := by omega
    have hno : firstE t.nodes.length (nodeAt t) = none := firstE_none fun j hj => hp j (by omega)
    rw [hno]
    simp [typesC, encNodes, encETypes, Nat.not_lt.2 hge]
    refine loop_sub (ι := { k : Nat // k ≤ t.edges.length ∧ ∀ j, j < k → edgeAt t j = none }) (fun k => ⟨[(1, .ptr R 0), (44, encETypes t.edges), (45, .int .i64 t.edges.length), (46, .int .i64 k.1)], [(R, typesC t)], R + 1⟩) (fun k => t.edges.length - k.1) ⟨0, by simp⟩ ?_ ?_ (Nat.le_refl _) ?_
    · simp [encETypes]
    · simp [typesC, encNodes, encETypes]
    rintro ⟨m, hm, hq⟩
    rcases Nat.lt_or_ge m t.edges.length with hlt | hge
    · have hlen : m * 7 + 7 ≤ t.edges.length * 7 := by omega
      simp [typesC, encETypes, hlt, hlen, edgeTCs_at _ _ hlt, edgeTC, spl, Nat.add_assoc, -Subtype.exists]
      refine call_val (spec195 _ t ht m hlt) (by simp [typesC, encETypes]) ?_
      by_cases h3 : edgeE t m = 0
      · simp [h3, wrap_nat (show m < 4611686018427387904 by omega), -Subtype.exists]
        refine ⟨⟨m + 1, hlt, fun j hj => ?_⟩, by simp only; omega, shift_ren [(R, R)] [] [R] (by omega) ?_ ?_ ?_ ?_⟩
        · rcases Nat.lt_or_ge j m with h | h
          · exact hq j h
          · have : j = m := by omega
            subst this; simp [edgeAt, h3]
        · simp [NsOK]
        · simp [FzL]
        · simp [look, encETypes]
        · simp [HpTo_cons, HpTo_nil, look, typesC, encNodes, encETypes, toL_cons, toL_nil]
      · simp [h3]
        exact ret_pure (by simp [resA, resOne]; rw [firstE_some hlt hq (x := (t.edges[m].name, edgeE t m)) (by simp [edgeAt, h3, hlt])]; simp) (by simp [AV.nm])
    · simp [typesC, encETypes, Nat.not_lt.2 hge]
      exact ret_pure (by simp [resA, resOne]; rw [firstE_none fun j hj => hq j (by omega)]; simp) (by simp [AV.nm])

def givenE (t : TypesT) (l : List Int) : Int := if (validT t).2 ≠ 0 then (validT t).2 else if (l.any fun a => !insideB t a) = true then 6 else 0

theorem spec213 (R : Nat) (t : TypesT) (ht : t.ok) (l : List Int) (hl : l.length ≤ 1048576) : Spec Tryz.prog R 0 213 [.agg (typesC t), encInts l] [] (.int .i64 (givenE t l)) [] := by
  refine spec_intro hmix Tryz.func213 c213 (fun vs w => Tryz.call213 vs w) (by simp) (by simp [Tryz.ntmps213]) ?_
  show awb _ _ _ (retK _ _ _ _ _) _
  simp [typesC]
  refine call_val (spec89 _ t ht) (by simp [typesC]) ?_
  by_cases h1 : (validT t).2 = 0
  case neg =>
    simp [h1]
    exact ret_pure (by simp [resA, resOne, givenE, h1]) (by simp [AV.nm])
  simp [h1]
  refine call_lend [(R, typesC t)] (spec91 _ 280 [.iptr (typesC t) 0] (fun a => !insideB t a) (fun R y => spec280 R t y) (by simp) l hl) ?_ rfl (by simp) ?_ ?_
  · simp [lookF, toL_cons, toL_nil]
  · simp [typesC, hget]
  cases h2 : (l.any fun a => !insideB t a) with
  | true =>
    simp
    exact ret_pure (by simp [resA, resOne, givenE, h1, h2, -List.any_eq_true]) (by simp [AV.nm])
  | false =>
    simp
    exact ret_pure (by simp [resA, resOne, givenE, h1, h2, -List.any_eq_false]) (by simp [AV.nm])
end Go.Av
/- What the functions of type graphs compute, in the program, fifth part. -/
namespace Go.Av
set_option linter.unusedVariables false
set_option linter.unusedSimpArgs false
open Go.Proofs

/-- A list whose ends are turned around already. -/
def Turned (l c : List Int) (k : Nat) : Prop := c.length = l.length ∧ ∀ i, i < l.length → c[i]? = if i < k ∨ l.length ≤ i + k then l.reverse[i]? else l[i]?

theorem turned_zero (l : List Int) : Turned l l 0 := ⟨rfl, fun i hi => by rw [if_neg (by omega)]⟩

theorem turned_end {l c : List Int} {k : Nat} (h : Turned l c k) (hk : l.length ≤ 2 * k + 1) : c = l.reverse := by
  apply List.ext_getElem?
  intro i
  rcases Nat.lt_or_ge i l.length with hi | hi
  · rw [h.2 i hi]
    split
    · rfl
    · rename_i hn
      have : i = k ∧ l.length = 2 * k + 1 := by omega
      rw [List.getElem?_reverse hi]
      congr 1; omega
  · rw [List.getElem?_eq_none (by rw [h.1]; exact hi), List.getElem?_eq_none (by simpa using hi)]

theorem turned_step {l c : List Int} {k : Nat} (h : Turned l c k) (hk : 2 * k + 1 < l.length) (h1 : k < c.length) (h2 : l.length - 1 - k < c.length) :
    Turned l ((c.set k c[l.length - 1 - k]).set (l.length - 1 - k) c[k]) (k + 1) := by
  refine ⟨by simp [h.1], fun i hi => ?_⟩
  have e1 : c[l.length - 1 - k] = l[l.length - 1 - k]'(by omega) := by
    have := h.2 (l.length - 1 - k) (by omega)
    rw [if_neg (by omega), List.getElem?_eq_getElem h2, List.getElem?_eq_getElem (by omega)] at this
    exact Option.some.inj this
  have e2 : c[k] = l[k]'(by omega) := by
    have := h.2 k (by omega)
    rw [if_neg (by omega), List.getElem?_eq_getElem h1, List.getElem?_eq_getElem (by omega)] at this
    exact Option.some.inj this
  rw [e1, e2]
  by_cases i1 : i = l.length - 1 - k
  · subst i1
    rw [List.getElem?_set_self (by simpa using h2), if_pos (by omega), List.getElem?_reverse (by omega)]
    rw [List.getElem?_eq_getElem (by omega)]
    congr 2; omega
  · rw [List.getElem?_set_ne (fun e => i1 e.symm)]
    by_cases i2 : i = k
    · subst i2
      rw [List.getElem?_set_self h1, if_pos (by omega), List.getElem?_reverse (by omega), List.getElem?_eq_getElem (by omega)]
    · rw [List.getElem?_set_ne (fun e => i2 e.symm), h.2 i hi]
      by_cases hc : i < k ∨ l.length ≤ i + k
      · rw [if_pos hc, if_pos (by omega)]
      · rw [if_neg hc, if_neg (by omega)]

@[simp] theorem nmL_reverse {S : Nat → Prop} {l : List AV} (h : nmL S l) : nmL S l.reverse := nmL_iff.2 fun a ha => nmL_iff.1 h a (List.mem_reverse.1 ha)

theorem spec332 (R n : Nat) (hn : n < R) (l : List Int) (hl : l.length ≤ 1048576) : Spec Tryz.prog R 0 332 [.osl n 0 l.length none 1] [(n, l.map (.int .i64))] (.tup []) [(n, l.reverse.map (.int .i64))] := by
  refine spec_intro hmix Tryz.func332 c332 (fun vs w => Tryz.call332 vs w) (by simp; omega) (by simp [Tryz.ntmps332]) ?_
  show awb _ _ _ (retK _ _ _ _ _) _
  have hw : IntKind.i64.wrap ((l.length : Int) - 1) = (l.length : Int) - 1 := wrap_id (by omega) (by omega)
  simp [hw]
  refine loop_sub (ι := { p : Nat × List Int // 2 * p.1 ≤ l.length ∧ Turned l p.2 p.1 }) (fun p => ⟨[(0, .osl n 0 l.length none 1), (2, .int .i64 p.1.1), (3, .int .i64 ((l.length : Int) - 1 - p.1.1))], [(n, p.1.2.map (.int .i64))], R⟩) (fun p => l.length + 1 - p.1.1) ⟨(0, l), by simp, turned_zero l⟩ ?_ ?_ (Nat.le_refl _) ?_
  · simp
  · simp
  · rintro ⟨⟨k, c⟩, hk, ht⟩
    simp only at hk ht
    by_cases h2 : 2 * k + 1 < l.length
    · have hc := ht.1
      have hk1 : k < c.length := by omega
      have hk2 : l.length - 1 - k < c.length := by omega
      have e1 : (l.length : Int) - 1 - k = ((l.length - 1 - k : Nat) : Int) := by omega
      have lt1 : (k : Int) < ((l.length - 1 - k : Nat) : Int) := by omega
      have w2 : IntKind.i64.wrap (((l.length - 1 - k : Nat) : Int) - 1) = (l.length : Int) - 1 - ((k + 1 : Nat) : Int) := by rw [wrap_id (by omega) (by omega)]; omega
      have b1 : k < l.length := by omega
      have b2 : l.length - 1 - k < l.length := by omega
      have g1 : (c.map (AV.int .i64))[k]? = some (.int .i64 c[k]) := by simp [hk1]
      have g2 : (c.map (AV.int .i64))[l.length - 1 - k]? = some (.int .i64 c[l.length - 1 - k]) := by simp [hk2]
      rw [e1]
      generalize hj : l.length - 1 - k = j at *
      have k1 : k + 1 ≤ c.length := hk1
      have k2 : j + 1 ≤ c.length := hk2
      simp [lt1, b1, b2, g1, g2, k1, k2, hk1, hk2, w2, wrap_nat (show k < 4611686018427387904 by omega), -Subtype.exists, -List.getElem?_map]
      refine ⟨⟨(k + 1, (c.set k c[j]).set j c[k]), by simp only; omega, ?_⟩, ?_, shift_sub ?_ ?_ (Nat.le_refl _)⟩
      · have := turned_step ht h2 hk1 (by omega)
        simp only [hj] at this
        exact this
      · simp only; omega
      · simp
      · simp [List.map_set]
    · have h3 : ¬ (k : Int) < (l.length : Int) - 1 - k := by omega
      have := turned_end ht (by omega)
      simp [h3]
      refine ret_ren (v := .tup []) ?_ [(n, n)] [] [n] ?_ ?_ ?_ ?_
      · simp [resA, resOne]
      · simp [NsOK]
      · simp [FzL]
      · simp
      · simp [HpTo_cons, HpTo_nil, look, this, -List.map_reverse]
        rw [List.take_of_length_le (by simp), ← List.map_reverse]
        exact toL_refl (nmL_ints _)

theorem spec281 (R : Nat) (t : TypesT) (ht : t.ok) (a : Nat) (ha : a < t.nodes.length) (hp : Par t.nodes a) : Spec Tryz.prog R 0 281 [.agg (typesC t), .int .i64 a] [] (encInts (lineT t.nodes a)) [] := by
  refine spec_intro hmix Tryz.func281 c281 (fun vs w => Tryz.call281 vs w) (by simp) (by simp [Tryz.ntmps281]) ?_
  show awb _ _ _ (retK _ _ _ _ _) _
  have hnl := ht.nl
  simp [Nat.add_assoc]
  refine loop_intro (ι := { p : Int × List Int // (lineT t.nodes a = (if 0 ≤ p.1 then lineT t.nodes p.1.toNat else []) ++ p.2.reverse) ∧ -1 ≤ p.1 ∧ p.1 ≤ a ∧ (p.2.length : Int) + p.1 ≤ a }) (fun p => ⟨[(1, .int .i64 p.1.1), (2, .ptr R 0), (5, .osl (R + 1) 0 p.1.2.length none 1)], [(R, typesC t), (R + 1, p.1.2.map (.int .i64))], R + 2⟩) (fun p => (p.1.1 + 1).toNat) ⟨((a : Int), []), by simp⟩ ?_ ?_
  · refine shift_phantom.trans ?_
    simp [hset]
    refine shift_ren [(R, R), (R + 1, R + 1)] [] [R, R + 1] (by omega) ?_ ?_ ?_ ?_
    · simp [NsOK]
    · simp [FzL]
    · simp [look]
    · simp [HpTo_cons, HpTo_nil, look, typesC, toL_cons, toL_nil]
  rintro ⟨⟨c, acc⟩, h1, h2, h3, h4⟩
  simp only at h1 h2 h3 h4
  by_cases hc : 0 ≤ c
  · obtain ⟨m, rfl⟩ : ∃ m : Nat, c = (m : Int) := ⟨_, (Int.toNat_of_nonneg hc).symm⟩
    have hma : m ≤ a := by omega
    have hm : m < t.nodes.length := by omega
    have hpm : Par t.nodes m := fun j n hj hn => hp j n (by omega) hn
    have hpar := hp m _ hma (List.getElem?_eq_getElem hm)
    have g1 := nodeTCs_get t.nodes m 1 hm (by omega)
    have hle : acc.length + 1 ≤ 4294967296 := by omega
    simp [typesC, encNodes, hm, g1, nodeTC, hle, aFill, repL, spl, Nat.add_assoc, -Subtype.exists]
    refine ⟨⟨(t.nodes[m].parent, acc ++ [(m : Int)]), ?_, by omega, by omega, ?_⟩, ?_, shift_ren [(R, R), (R + 3, R + 1)] [] [R, R + 3] (by omega) ?_ ?_ ?_ ?_⟩
    · rw [h1, if_pos hc, Int.toNat_natCast, lineT_eq hm hpm]
      simp
    · simp only [List.length_append, List.length_cons, List.length_nil]; omega
    · simp only; omega
    · simp [NsOK]
    · simp [FzL]
    · simp [look]
    · simp [HpTo_cons, HpTo_nil, look, typesC, encNodes, toL_cons, toL_nil]
      rw [List.take_of_length_le (by simp : (acc.map (AV.int .i64)).length ≤ acc.length), List.take_of_length_le (by simp)]
      exact toL_append (toL_refl (nmL_ints _)) (toL_refl (by simp))
  · rw [if_neg hc, List.nil_append] at h1
    have hc' : ¬ 0 ≤ c := hc
    simp [hc', Nat.add_assoc]
    refine call_upd (spec332 (R + 2) (R + 1) (by omega) acc (by omega)) (by simp) ?_ (by omega) (nmL_ints _) ?_
    · simp [typesC]
    simp
    refine ret_ren (v := .osl (R + 1) 0 acc.length none 1) ?_ [] [(R + 1, (acc.map (.int .i64)).reverse)] [] ?_ ?_ ?_ ?_
    · simp [resA, resOne]
    · simp [NsOK]
    · simp [FzL, look, hset, typesC]
    · simp [lookF, h1, encInts]
      rw [List.take_of_length_le (by simp)]
    · simp [HpTo_nil]
end Go.Av
/- What the functions of type graphs compute, in the program, sixth part. -/
namespace Go.Av
set_option linter.unusedVariables false
set_option linter.unusedSimpArgs false
open Go.Proofs

theorem spec214 (R : Nat) (t : TypesT) (ht : t.ok) (a : Nat) (ha : a < t.nodes.length) (hp : Par t.nodes a) (b : Int) : Spec Tryz.prog R 0 214 [.agg (typesC t), .int .i64 a, .int .i64 b] [] (.bool (belowT t.nodes a b)) [] := by
  refine spec_intro hmix Tryz.func214 c214 (fun vs w => Tryz.call214 vs w) (by simp) (by simp [Tryz.ntmps214]) ?_
  show awb _ _ _ (retK _ _ _ _ _) _
  have hnl := ht.nl
  have hl := lineT_length (ns := t.nodes) (a := a)
  simp [typesC, Nat.add_assoc]
  refine call_val (spec281 _ t ht a ha hp) (by simp [typesC]) ?_
  simp
  refine call_val (spec138 _ (lineT t.nodes a) b (by omega)) (by simp) ?_
  simp
  exact ret_pure (by simp [resA, resOne, belowT]) (by simp [AV.nm])

theorem given2 {t : TypesT} (a b : Int) : (decide (givenE t [a, b] = 0)) = (decide ((validT t).2 = 0) && insideB t a && insideB t b) := by
  unfold givenE
  by_cases h : (validT t).2 = 0
  · rw [if_neg (by simp [h])]
    cases ha : insideB t a <;> cases hb : insideB t b <;> simp [ha, hb, h]
  · rw [if_pos h]
    simp [h]

theorem inside_nat {t : TypesT} {a : Int} (h : insideB t a = true) : ∃ m : Nat, a = (m : Int) ∧ m < t.nodes.length := by
  simp only [insideB, Bool.and_eq_true, decide_eq_true_eq] at h
  exact ⟨a.toNat, (Int.toNat_of_nonneg h.1).symm, by omega⟩

theorem spec217 (R : Nat) (t : TypesT) (ht : t.ok) (a b : Int) : Spec Tryz.prog R 0 217 [.agg (typesC t), .int .i64 a, .int .i64 b] [] (.bool (isT t a b)) [] := by
  refine spec_intro hmix Tryz.func217 c217 (fun vs w => Tryz.call217 vs w) (by simp) (by simp [Tryz.ntmps217]) ?_
  show awb _ _ _ (retK _ _ _ _ _) _
  simp [typesC, aFill, repL, spl, Nat.add_assoc]
  refine call_lend [(R + 1, [.int .i64 a, .int .i64 b])] (spec213 _ t ht [a, b] (by simp)) ?_ rfl (by simp) ?_ ?_
  · simp [lookF, toL_cons, toL_nil, typesC, encInts]
  · simp [hget]
  have g := given2 (t := t) a b
  by_cases h1 : givenE t [a, b] = 0
  · have g1 : (decide ((validT t).2 = 0) && insideB t a && insideB t b) = true := by rw [← g]; simpa using h1
    have g2 := g1
    simp only [Bool.and_eq_true, decide_eq_true_eq] at g2
    obtain ⟨m, rfl, hm⟩ := inside_nat g2.1.2
    simp [h1]
    refine call_val (spec214 _ t ht m hm (validT_par g2.1.1 m) b) (by simp [typesC]) ?_
    simp
    exact ret_pure (by simp [resA, resOne, isT, g2.1.1, g2.1.2, g2.2]) (by simp [AV.nm])
  · have g1 : (decide ((validT t).2 = 0) && insideB t a && insideB t b) = false := by rw [← g]; simpa using h1
    simp [h1]
    have hz : isT t a b = false := by unfold isT; rw [g1]; rfl
    exact ret_pure (by simp [resA, resOne, hz]) (by simp [AV.nm])

theorem spec115 (R : Nat) (t : TypesT) (ht : t.ok) (k a b : Int) : Spec Tryz.prog R 0 115 [.agg (typesC t), .int .i64 k, .int .i64 a, .int .i64 b] [] (.bool (fitsT t k a b)) [] := by
  refine spec_intro hmix Tryz.func115 c115 (fun vs w => Tryz.call115 vs w) (by simp) (by simp [Tryz.ntmps115]) ?_
  show awb _ _ _ (retK _ _ _ _ _) _
  simp [typesC, aFill, repL, spl, Nat.add_assoc]
  refine call_lend [(R + 1, [.int .i64 a, .int .i64 b])] (spec213 _ t ht [a, b] (by simp)) ?_ rfl (by simp) ?_ ?_
  · simp [lookF, toL_cons, toL_nil, typesC, encInts]
  · simp [hget]
  have g := given2 (t := t) a b
  by_cases h1 : givenE t [a, b] = 0
  case neg =>
    have g1 : (decide ((validT t).2 = 0) && insideB t a && insideB t b) = false := by rw [← g]; simpa using h1
    simp [h1]
    have hz : fitsT t k a b = false := by unfold fitsT; rw [g1]; rfl
    exact ret_pure (by simp [resA, resOne, hz]) (by simp [AV.nm])
  have g1 : (decide ((validT t).2 = 0) && insideB t a && insideB t b) = true := by rw [← g]; simpa using h1
  have g2 := g1
  simp only [Bool.and_eq_true, decide_eq_true_eq] at g2
  by_cases h2 : k < 0
  · have h2' : ¬ 0 ≤ k := by omega
    simp [h1, h2]
    exact ret_pure (by simp [resA, resOne, fitsT, h2']) (by simp [AV.nm])
  by_cases h3 : (t.edges.length : Int) ≤ k
  · have h3' : ¬ k < t.edges.length := by omega
    simp [h1, h2, encETypes, h3]
    exact ret_pure (by simp [resA, resOne, fitsT, h3']) (by simp [AV.nm])
  obtain ⟨j, rfl⟩ : ∃ j : Nat, k = (j : Int) := ⟨_, (Int.toNat_of_nonneg (by omega)).symm⟩
  have hj : j < t.edges.length := by omega
  obtain ⟨m, rfl, hm⟩ := inside_nat g2.1.2
  obtain ⟨o, rfl, ho⟩ := inside_nat g2.2
  have e1 := edgeTCs_get t.edges j 1 hj (by omega)
  have e2 := edgeTCs_get t.edges j 2 hj (by omega)
  have hj0 : ¬ (j : Int) < 0 := by omega
  have hj1 : ¬ t.edges.length ≤ j := by omega
  simp [h1, encETypes, hj, hj0, hj1, e1, edgeTC]
  refine call_val (spec214 _ t ht m hm (validT_par g2.1.1 m) t.edges[j].fr) (by simp [typesC]) ?_
  cases b1 : belowT t.nodes m t.edges[j].fr with
  | false =>
    simp
    exact ret_pure (by simp [resA, resOne, fitsT, hj, b1]) (by simp [AV.nm])
  | true =>
  simp [hj, e2, edgeTC]
  refine call_val (spec214 _ t ht o ho (validT_par g2.1.1 o) t.edges[j].to) (by simp [typesC, encETypes]) ?_
  simp
  exact ret_pure (by simp [resA, resOne, fitsT, hj, b1, g2.1.1, g2.1.2, g2.2]) (by simp [AV.nm])

theorem sn158 : SnF Tryz.prog 158 := opBin_slNil Tryz.underlying158

theorem set_same {α : Type} {l : List α} {i : Nat} {v : α} (h : l[i]? = some v) : l.set i v = l := by
  obtain ⟨hi, rfl⟩ := List.getElem?_eq_some_iff.1 h
  exact List.set_getElem_self hi

set_option maxRecDepth 100000 in
theorem spec229 (R : Nat) (l : List ByteArray) (hl : l.length ≤ 1048576) : Spec Tryz.prog R 0 229 [encStrs l] [] (encStrs l) [] := by
  refine spec_intro hmix Tryz.func229 c229 (fun vs w => Tryz.call229 vs w) (by simp) (by simp [Tryz.ntmps229]) ?_
  show awb _ _ _ (retK _ _ _ _ _) _
  by_cases h0 : l = []
  · subst h0
    simp [encStrs, sn158, aFill, repL]
    refine ⟨?_, ?_⟩
    · refine ret_ren (v := .nilsl) ?_ [] [] [] ?_ ?_ ?_ ?_
      · simp [resA, resOne]
      · simp [NsOK]
      · simp [FzL]
      · simp
      · simp [HpTo_nil]
    · refine ret_ren (v := .osl (R + 1) 0 0 none 1) ?_ [] [(R + 1, [])] [] ?_ ?_ ?_ ?_
      · simp [resA, resOne]
      · simp [NsOK]
      · simp [FzL, look]
      · simp [lookF]
      · simp [HpTo_nil]
  · have h1 : l.length ≠ 0 := by simpa using h0
    have h2 : l.length ≤ 4294967296 := by omega
    simp [encStrs, sn158, h0, h1, h2, aFill, repL, spl, Nat.add_assoc]
    refine ret_ren (v := .osl (R + 1) 0 l.length none 1) ?_ [] [(R + 1, l.map .str)] [] ?_ ?_ ?_ ?_
    · simp [resA, resOne]
    · simp [NsOK]
    · simp [FzL, look]
    · simp [lookF]
      rw [List.take_of_length_le (by simp)]
    · simp [HpTo_nil]

theorem given1 {t : TypesT} (a : Int) : attrsE t a = if givenE t [a] = 0 then (attrsT t.nodes a.toNat, 0) else ([], givenE t [a]) := by
  unfold givenE attrsE
  by_cases h : (validT t).2 = 0
  · cases ha : insideB t a <;> simp [h, ha]
  · simp [h]

theorem spec135 (R : Nat) (t : TypesT) (ht : t.ok) (a : Int) : Spec Tryz.prog R 0 135 [.agg (typesC t), .int .i64 a] [] (.tup [encAttrs (attrsE t a).1, .int .i64 (attrsE t a).2]) [] := by
  refine spec_intro hmix Tryz.func135 c135 (fun vs w => Tryz.call135 vs w) (by simp) (by simp [Tryz.ntmps135]) ?_
  show awb _ _ _ (retK _ _ _ _ _) _
  simp [typesC, aFill, repL, spl, Nat.add_assoc]
  refine call_lend [(R + 1, [.int .i64 a])] (spec213 _ t ht [a] (by simp)) ?_ rfl (by simp) ?_ ?_
  · simp [lookF, toL_cons, toL_nil, typesC, encInts]
  · simp [hget]
  rw [given1]
  by_cases h1 : givenE t [a] = 0
  case neg =>
    simp [h1]
    refine ret_ren (v := .tup [.nilsl, .int .i64 (givenE t [a])]) ?_ [] [] [] ?_ ?_ ?_ ?_
    · simp [resA, resOne]
    · simp [NsOK]
    · simp [FzL]
    · simp [encAttrs, attrCs]
    · simp [HpTo_nil]
  have g := given1 (t := t) a
  have hv : (validT t).2 = 0 := by
    unfold givenE at h1
    by_cases h : (validT t).2 = 0
    · exact h
    · rw [if_pos h] at h1; exact h1
  have hin : insideB t a = true := by
    unfold givenE at h1
    rw [if_neg (by simp [hv])] at h1
    cases hh : insideB t a with
    | true => rfl
    | false => simp [hh] at h1
  obtain ⟨m, rfl, hm⟩ := inside_nat hin
  have h12 := (validT_len hv).2.1
  have hall : (attrsT t.nodes m).length ≤ 13 * 1048576 := Nat.le_trans (attrsT_len (M := 1048576) (fun n hn => (ht.n n hn).2.1) m) (Nat.mul_le_mul_right _ (by omega))
  have hok : ∀ x ∈ attrsT t.nodes m, x.ok := attrsT_mem (fun n hn => (ht.n n hn).2.2.1) m
  simp [h1, Nat.add_assoc]
  refine call_own (spec228 t ht h12 m hm (validT_par hv m) (R + 2)) (by simp [typesC]) ?_
  simp
  generalize attrsT t.nodes m = all at *
  refine loop_intro (ι := { k : Nat // k ≤ all.length }) (fun k => ⟨[(2, .ptr R 0), (7, .osl (R + 1) 0 all.length none 4), (20, .int .i64 all.length), (21, .int .i64 k.1)], [(R, typesC t), (R + 1, attrCs all)], R + 2⟩) (fun k => all.length - k.1) ⟨0, by simp⟩ ?_ ?_
  · refine shift_ren [(R, R), (R + 2, R + 1)] [] [R, R + 2] (by omega) ?_ ?_ ?_ ?_
    · simp [NsOK]
    · simp [FzL]
    · simp [look]
    · simp [HpTo_cons, HpTo_nil, look, typesC, toL_cons, toL_nil]
      exact toL_refl (nmL_attrCs _)
  rintro ⟨k, hk⟩
  rcases Nat.lt_or_ge k all.length with hlt | hge
  · have g3 := attrCs_get all k 3 hlt (by omega)
    have hkk := hok _ (List.getElem_mem hlt)
    have h4 : k * 4 + 4 ≤ all.length * 4 := by omega
    simp [hlt, g3, attrC, h4, Nat.add_assoc, -Subtype.exists]
    refine call_val (spec229 _ all[k].names hkk.2.1) (by simp) ?_
    have hsame : (attrCs all).set (k * 4 + 3) (.vsl (all[k].names.map .str) all[k].names.length none) = attrCs all := set_same (by rw [g3]; rfl)
    have h5 : k * 4 + 3 + 1 ≤ all.length * 4 := by omega
    simp [hlt, h4, h5, encStrs, hsame, wrap_nat (show k < 4611686018427387904 by omega), -Subtype.exists]
    refine ⟨⟨k + 1, hlt⟩, ?_, shift_sub ?_ ?_ (Nat.le_refl _)⟩
    · simp only; omega
    · simp
    · simp
  · simp [Nat.not_lt.2 hge]
    refine ret_ren (v := .tup [.osl (R + 1) 0 all.length none 4, .int .i64 0]) ?_ [] [(R + 1, attrCs all)] [] ?_ ?_ ?_ ?_
    · simp [resA, resOne]
    · simp [NsOK]
    · simp [FzL, look]
    · simp [lookF, encAttrs]
    · simp [HpTo_nil]
end Go.Av
/- What the functions of hosts compute, in the program. -/
namespace Go.Av
set_option linter.unusedVariables false
set_option linter.unusedSimpArgs false
open Go.Proofs

theorem spec114 (R : Nat) (t : TypesT) (ht : t.ok) (kind : Nat) (vals : List Int) (hv : vals.length ≤ 1048576) : Spec Tryz.prog R 0 114 [.agg (typesC t), .int .i64 kind, encInts vals] [] (.int .i64 (hnodeE t kind vals)) [] := by
  refine spec_intro hmix Tryz.func114 c114 (fun vs w => Tryz.call114 vs w) (by simp) (by simp [Tryz.ntmps114]) ?_
  show awb _ _ _ (retK _ _ _ _ _) _
  by_cases h1 : t.nodes.length ≤ kind
  · have h1' : (t.nodes.length : Int) ≤ kind := by omega
    simp [typesC, encNodes, h1']
    exact ret_pure (by simp [resA, resOne, hnodeE, h1]) (by simp [AV.nm])
  have h1' : ¬ (t.nodes.length : Int) ≤ kind := by omega
  have hlt : kind < t.nodes.length := by omega
  have g2 := nodeTCs_get t.nodes kind 2 hlt (by omega)
  cases h2 : t.nodes[kind].abs with
  | true =>
    simp [typesC, encNodes, h1', hlt, g2, nodeTC, h2]
    exact ret_pure (by simp [resA, resOne, hnodeE, hlt, h1, h2]) (by simp [AV.nm])
  | false =>
  simp [typesC, encNodes, h1', hlt, g2, nodeTC, h2]
  refine call_val (spec135 _ t ht kind) (by simp [typesC, encNodes]) ?_
  have hE : hnodeE t kind vals = if vals.length ≠ (attrsE t kind).1.length then 20 else (firstE (attrsE t kind).1.length (valAt (attrsE t kind).1 vals)).getD 0 := by
    unfold hnodeE
    rw [if_neg (by omega), if_neg (by simp [hlt, h2])]
  rw [hE]
  generalize (attrsE t kind).2 = er
  generalize (attrsE t kind).1 = al
  by_cases h3 : vals.length = al.length
  case neg =>
    simp [encInts, encAttrs, h3, Int.ofNat_inj]
    exact ret_pure (by simp [resA, resOne, h3]) (by simp [AV.nm])
  simp [encInts, encAttrs, h3]
  refine loop_intro (ι := { k : Nat // k ≤ al.length ∧ ∀ j, j < k → valAt al vals j = none }) (fun k => ⟨[(2, encInts vals), (33, encAttrs al), (34, .int .i64 al.length), (35, .int .i64 k.1)], [], R⟩) (fun k => al.length - k.1) ⟨0, by simp⟩ ?_ ?_
  · refine shift_ren [] [] [] (by omega) ?_ ?_ ?_ ?_
    · simp [NsOK]
    · simp [FzL]
    · simp [encInts, encAttrs, h3]
    · simp [HpTo_nil]
  rintro ⟨k, hk, hp⟩
  rcases Nat.lt_or_ge k al.length with hlt2 | hge
  · have hlt3 : k < vals.length := by omega
    have h4 : k * 4 + 4 ≤ al.length * 4 := by omega
    have hv2 := valAt_eq hlt2 hlt3
    by_cases c1 : vals[k] < al[k].low
    · simp [encInts, encAttrs, hlt2, hlt3, h4, attrCs_at _ _ hlt2, attrC, spl, c1, Nat.add_assoc]
      exact ret_pure (by simp [resA, resOne, h3]; rw [firstE_some hlt2 hp (x := 6) (by rw [hv2, if_pos (.inl c1)])]; rfl) (by simp [AV.nm])
    · by_cases c2 : al[k].high < vals[k]
      · simp [encInts, encAttrs, hlt2, hlt3, h4, attrCs_at _ _ hlt2, attrC, spl, c1, c2, Nat.add_assoc]
        exact ret_pure (by simp [resA, resOne, h3]; rw [firstE_some hlt2 hp (x := 6) (by rw [hv2, if_pos (.inr c2)])]; rfl) (by simp [AV.nm])
      · simp [encInts, encAttrs, hlt2, hlt3, h4, attrCs_at _ _ hlt2, attrC, spl, c1, c2, Nat.add_assoc, wrap_nat (show k < 4611686018427387904 by omega), -Subtype.exists]
        refine ⟨⟨k + 1, hlt2, fun j hj => ?_⟩, by simp only; omega, shift_ren [] [] [] (by omega) ?_ ?_ ?_ ?_⟩
        · rcases Nat.lt_or_ge j k with h | h
          · exact hp j h
          · have : j = k := by omega
            subst this; rw [hv2, if_neg (by omega)]
        · simp [NsOK]
        · simp [FzL]
        · simp [encInts, encAttrs]
        · simp [HpTo_nil]
  · simp [encAttrs, Nat.not_lt.2 hge]
    exact ret_pure (by simp [resA, resOne, h3]; rw [firstE_none fun j hj => hp j (by omega)]; rfl) (by simp [AV.nm])

theorem validG_ok {n : List Int} {e : List (Int × Int × Int)} (h : validG n e = 0) : n.length ≤ 40 ∧ e.length ≤ 80 ∧ (∀ x ∈ n, kindG x = true) ∧ ∀ x ∈ e, rightG x n.length = true := by
  unfold validG at h
  split at h
  · cases h
  split at h
  · cases h
  split at h
  · cases h
  rename_i h1 h2 h3
  simp only [Bool.not_eq_false, List.all_eq_true] at h2 h3
  exact ⟨by omega, by omega, h2, h3⟩

theorem hostE_loop {t : TypesT} {n : List Int} {e : List (Int × Int × Int)} {v : List (List Int)} (h1 : (validT t).2 = 0) (h2 : validG n e = 0) (h3 : v.length = n.length) :
    hostE t n e v = ((firstE n.length (hnodeAt t n v)).or (firstE e.length (hedgeAt t n e))).getD (-1, 0) := by
  unfold hostE; rw [if_neg (by simp [h1]), if_neg (by simp [h2]), if_neg (by simp [h3])]

theorem spec32 (R : Nat) (t : TypesT) (ht : t.ok) (n : List Int) (e : List (Int × Int × Int)) (v : List (List Int)) (hn : n.length ≤ 1048576) (he : e.length ≤ 1048576) (hr : ∀ r ∈ v, r.length ≤ 1048576) :
    Spec Tryz.prog R 0 32 [.agg (typesC t), .agg (hostC n e v)] [] (.tup [.int .i64 (hostE t n e v).1, .int .i64 (hostE t n e v).2]) [] := by
  refine spec_intro hmix Tryz.func32 c32 (fun vs w => Tryz.call32 vs w) (by simp) (by simp [Tryz.ntmps32]) ?_
  show awb _ _ _ (retK _ _ _ _ _) _
  simp [typesC, hostC, Nat.add_assoc]
  refine call_val (spec89 _ t ht) (by simp [typesC]) ?_
  by_cases h1 : (validT t).2 = 0
  case neg =>
    simp [h1]
    exact ret_pure (by simp [resA, resOne, hostE, h1]) (by simp [AV.nm])
  simp [h1]
  refine call_val (spec90 _ n e hn he) (by simp [graphC]) ?_
  by_cases h2 : validG n e = 0
  case neg =>
    simp [h2]
    exact ret_pure (by simp [resA, resOne, hostE, h1, h2]) (by simp [AV.nm])
  by_cases h3 : v.length = n.length
  case neg =>
    simp [h2, encIntss, encInts, h3, Int.ofNat_inj]
    exact ret_pure (by simp [resA, resOne, hostE, h1, h2, h3]) (by simp [AV.nm])
  obtain ⟨k1, k2, k3, k4⟩ := validG_ok h2
  rw [hostE_loop h1 h2 h3]
  simp [h2, encIntss, encInts, h3]
  refine loop_sub (ι := { k : Nat // k ≤ n.length ∧ ∀ j, j < k → hnodeAt t n v j = none }) (fun k => ⟨[(2, .ptr R 0), (3, .ptr (R + 1) 0), (38, encInts n), (39, .int .i64 n.length), (40, .int .i64 k.1)], [(R, typesC t), (R + 1, hostC n e v)], R + 2⟩) (fun k => n.length - k.1) ⟨0, by simp⟩ ?_ ?_ (Nat.le_refl _) ?_
  · simp [encInts]
  · simp [typesC, hostC, encInts, encIntss, h3]
  rintro ⟨k, hk, hp⟩
  rcases Nat.lt_or_ge k n.length with hlt | hge
  · have hlt2 : k < v.length := by omega
    have hki := k3 _ (List.getElem_mem hlt)
    simp only [kindG, Bool.and_eq_true, decide_eq_true_eq] at hki
    obtain ⟨m, hm⟩ : ∃ m : Nat, n[k] = (m : Int) := ⟨_, (Int.toNat_of_nonneg hki.1).symm⟩
    simp [typesC, hostC, encInts, encIntss, hlt, hlt2, hm, Nat.add_assoc, -Subtype.exists]
    refine call_val (spec114 _ t ht m v[k] (hr _ (List.getElem_mem hlt2))) (by simp [typesC]) ?_
    have hA : hnodeAt t n v k = if hnodeE t m v[k] ≠ 0 then some ((k : Int), hnodeE t m v[k]) else none := by
      simp [hnodeAt, hlt, hlt2, hm]
    by_cases h4 : hnodeE t m v[k] = 0
    · simp [h4, wrap_nat (show k < 4611686018427387904 by omega), -Subtype.exists]
      refine ⟨⟨k + 1, hlt, fun j hj => ?_⟩, ?_, shift_sub ?_ ?_ (Nat.le_refl _)⟩
      · rcases Nat.lt_or_ge j k with h | h
        · exact hp j h
        · have : j = k := by omega
          subst this; rw [hA]; simp [h4]
      · simp only; omega
      · simp [encInts]
      · simp [typesC, hostC, encInts, encIntss]
    · simp [h4]
      exact ret_pure (by simp [resA, resOne]; rw [firstE_some hlt hp (x := ((k : Int), hnodeE t m v[k])) (by rw [hA]; simp [h4])]; simp) (by simp [AV.nm])
  · have hno : firstE n.length (hnodeAt t n v) = none := firstE_none fun j hj => hp j (by omega)
    rw [hno]
    simp [typesC, hostC, encInts, encEdges, encIntss, Nat.not_lt.2 hge]
    refine loop_sub (ι := { k : Nat // k ≤ e.length ∧ ∀ j, j < k → hedgeAt t n e j = none }) (fun k => ⟨[(2, .ptr R 0), (3, .ptr (R + 1) 0), (60, encEdges e), (61, .int .i64 e.length), (62, .int .i64 k.1)], [(R, typesC t), (R + 1, hostC n e v)], R + 2⟩) (fun k => e.length - k.1) ⟨0, by simp⟩ ?_ ?_ (Nat.le_refl _) ?_
    · simp [encEdges]
    · simp [typesC, hostC, encInts, encEdges, encIntss]
    rintro ⟨k, hk, hq⟩
    rcases Nat.lt_or_ge k e.length with hlt | hge
    · have hl3 : k * 3 + 3 ≤ e.length * 3 := by omega
      have hx := k4 _ (List.getElem_mem hlt)
      simp only [rightG, kindG, Bool.and_eq_true, decide_eq_true_eq] at hx
      obtain ⟨f, hf⟩ : ∃ f : Nat, e[k].2.1 = (f : Int) := ⟨_, (Int.toNat_of_nonneg hx.1.2.1).symm⟩
      obtain ⟨g, hg⟩ : ∃ g : Nat, e[k].2.2 = (g : Int) := ⟨_, (Int.toNat_of_nonneg hx.2.1).symm⟩
      have hfl : f < n.length := by omega
      have hgl : g < n.length := by omega
      have hA : hedgeAt t n e k = if hedgeE t n e[k] ≠ 0 then some ((k : Int), hedgeE t n e[k]) else none := by
        simp [hedgeAt, hlt]
      have hB : hedgeE t n e[k] = if e[k].1 ≥ t.edges.length then 6 else if fitsT t e[k].1 n[f] n[g] = true then 0 else 13 := by
        simp [hedgeE, hf, hg, hfl, hgl]
      by_cases c1 : (t.edges.length : Int) ≤ e[k].1
      · simp [typesC, hostC, encInts, encEdges, encETypes, hlt, hl3, edgeCs_at _ _ hlt, edgeC, spl, c1, Nat.add_assoc]
        exact ret_pure (by simp [resA, resOne]; rw [firstE_some hlt hq (x := ((k : Int), 6)) (by rw [hA, hB, if_pos c1]; simp)]; simp) (by simp [AV.nm])
      · simp [typesC, hostC, encInts, encEdges, encETypes, hlt, hl3, edgeCs_at _ _ hlt, edgeC, spl, c1, hf, hg, hfl, hgl, Nat.add_assoc, -Subtype.exists]
        refine call_val (spec115 _ t ht e[k].1 n[f] n[g]) (by simp [typesC, encETypes]) ?_
        cases h5 : fitsT t e[k].1 n[f] n[g] with
        | true =>
          simp [wrap_nat (show k < 4611686018427387904 by omega), -Subtype.exists]
          refine ⟨⟨k + 1, hlt, fun j hj => ?_⟩, by simp only; omega, shift_ren [(R, R), (R + 1, R + 1)] [] [R, R + 1] (by omega) ?_ ?_ ?_ ?_⟩
          · rcases Nat.lt_or_ge j k with h | h
            · exact hq j h
            · have : j = k := by omega
              subst this; rw [hA, hB, if_neg c1, if_pos h5]; simp
          · simp [NsOK]
          · simp [FzL]
          · simp [look, encEdges]
          · simp [HpTo_cons, HpTo_nil, look, typesC, hostC, encETypes, encInts, encEdges, encIntss, toL_cons, toL_nil]
        | false =>
          simp
          exact ret_pure (by simp [resA, resOne]; rw [firstE_some hlt hq (x := ((k : Int), 13)) (by rw [hA, show hedgeE t n e[k] = 13 by rw [hB, if_neg c1, if_neg (by simp [h5])]]; simp)]; simp) (by simp [AV.nm])
    · simp [encEdges, Nat.not_lt.2 hge]
      exact ret_pure (by simp [resA, resOne]; rw [firstE_none fun j hj => hq j (by omega)]; simp) (by simp [AV.nm])

theorem spec118 (R : Nat) (t : TypesT) (ht : t.ok) (n : List Int) (e : List (Int × Int × Int)) (v : List (List Int)) (hn : n.length ≤ 1048576) (he : e.length ≤ 1048576) (hr : ∀ r ∈ v, r.length ≤ 1048576) :
    Spec Tryz.prog R 0 118 [.agg (typesC t), .agg (hostC n e v)] [] (.int .i64 (hostE t n e v).2) [] := by
  refine spec_intro hmix Tryz.func118 c118 (fun vs w => Tryz.call118 vs w) (by simp) (by simp [Tryz.ntmps118]) ?_
  show awb _ _ _ (retK _ _ _ _ _) _
  simp [typesC, hostC, Nat.add_assoc]
  refine call_val (spec32 _ t ht n e v hn he hr) (by simp [typesC, hostC]) ?_
  simp
  exact ret_pure (by simp [resA, resOne]) (by simp [AV.nm])
end Go.Av
