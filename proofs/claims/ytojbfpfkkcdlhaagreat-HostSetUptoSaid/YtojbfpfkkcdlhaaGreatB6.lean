/- What the functions of names compute, in the reference. -/
import Derived.Test.YtojbfpfkkcdlhaaGreatB5
import Derived.Test.YtojbfpfkkcdlhaaGreatCv0
namespace Go.Av
set_option linter.unusedVariables false
set_option linter.unusedSimpArgs false
open Go.Proofs

theorem spec353 (R : Nat) (c : Int) : Spec Tryz.prog R 0 353 [.int .u8 c] [] (.bool (letterN c)) [] := by
  refine spec_intro hmix Tryz.func353 c353 (fun vs w => Tryz.call353 vs w) (by simp) (by simp [Tryz.ntmps353]) ?_
  show awb _ _ _ (retK _ _ _ _ _) _
  by_cases h1 : 97 ≤ c <;> by_cases h2 : c ≤ 122 <;> by_cases h3 : 65 ≤ c <;> by_cases h4 : c ≤ 90 <;> first
    | omega
    | (simp [h1, h2, h3, h4]
       exact ret_pure (by simp [resA, resOne, letterN, h1, h2, h3, h4]) (by simp [AV.nm]))

theorem spec354 (R : Nat) (c : Int) : Spec Tryz.prog R 0 354 [.int .u8 c] [] (.bool (digitN c)) [] := by
  refine spec_intro hmix Tryz.func354 c354 (fun vs w => Tryz.call354 vs w) (by simp) (by simp [Tryz.ntmps354]) ?_
  show awb _ _ _ (retK _ _ _ _ _) _
  by_cases h1 : 48 ≤ c <;> by_cases h2 : c ≤ 57 <;> first
    | omega
    | (simp [h1, h2]
       exact ret_pure (by simp [resA, resOne, digitN, h1, h2]) (by simp [AV.nm]))

def runP (d : Bool) (c : Int) : Bool := digitN c || (!d && (letterN c || decide (c = 95)))
theorem runP_true : runP true = digitN := by funext c; simp [runP]
theorem runP_false : runP false = partN := by
  funext c; simp only [runP, partN]; cases digitN c <;> cases letterN c <;> simp

theorem spec355 (R : Nat) (s : ByteArray) (hs : s.size ≤ 1048576) (d : Bool) : Spec Tryz.prog R 0 355 [.str s, .int .i64 0, .bool d] [] (.int .i64 (runFrom (runP d) s 0)) [] := by
  refine spec_intro hmix Tryz.func355 c355 (fun vs w => Tryz.call355 vs w) (by simp) (by simp [Tryz.ntmps355]) ?_
  show awb _ _ _ (retK _ _ _ _ _) _
  simp
  refine loop_sub (ι := { k : Nat // k ≤ s.size ∧ runFrom (runP d) s 0 = runFrom (runP d) s k }) (fun k => ⟨[(0, .str s), (1, .int .i64 0), (2, .bool d), (7, .int .i64 k.1)], [], R⟩) (fun k => s.size - k.1) ⟨0, by simp⟩ ?_ ?_ (Nat.le_refl _) ?_
  · simp
  · simp
  rintro ⟨k, hk, hp⟩
  have hw : IntKind.i64.wrap (k : Int) = k := wrap_id (by omega) (by omega)
  have hw1 : IntKind.i64.wrap ((k : Int) + 1) = ((k + 1 : Nat) : Int) := wrap_nat (show k < 4611686018427387904 by omega)
  rcases Nat.lt_or_ge k s.size with hlt | hge
  · simp [hlt, hw, bget s k hlt, -Subtype.exists]
    refine call_val (spec354 _ _) (by simp) ?_
    have next : runP d s[k].toNat = true → ∃ j : { k : Nat // k ≤ s.size ∧ runFrom (runP d) s 0 = runFrom (runP d) s k }, s.size - j.1 < s.size - k ∧ j.1 = k + 1 := fun h => ⟨⟨k + 1, hlt, by rw [hp, runFrom_step hlt h]⟩, by simp only; omega, rfl⟩
    cases hd : digitN s[k].toNat with
    | true =>
      simp [hw1, -Subtype.exists]
      refine ⟨⟨k + 1, hlt, by rw [hp, runFrom_step hlt (by simp [runP, hd])]⟩, by simp only; omega, shift_sub ?_ ?_ (Nat.le_refl _)⟩ <;> simp
    | false =>
    cases d with
    | true =>
      simp
      exact ret_pure (by simp [resA, resOne]; rw [hp, runFrom_stop hlt (by simp [runP, hd])]) (by simp [AV.nm])
    | false =>
    simp [hlt, hw, bget s k hlt, -Subtype.exists]
    refine call_val (spec353 _ _) (by simp) ?_
    cases hl : letterN s[k].toNat with
    | true =>
      simp [hw1, -Subtype.exists]
      refine ⟨⟨k + 1, hlt, by rw [hp, runFrom_step hlt (by simp [runP, hd, hl])]⟩, by simp only; omega, shift_sub ?_ ?_ (Nat.le_refl _)⟩ <;> simp
    | false =>
    by_cases h9 : (s[k].toNat : Int) = 95
    · simp [hlt, hw, bget s k hlt, h9, hw1, -Subtype.exists]
      refine ⟨⟨k + 1, hlt, by rw [hp, runFrom_step hlt (by simp [runP, hd, hl, h9])]⟩, by simp only; omega, shift_sub ?_ ?_ (Nat.le_refl _)⟩ <;> simp
    · simp [hlt, hw, bget s k hlt, h9]
      exact ret_pure (by simp [resA, resOne]; rw [hp, runFrom_stop hlt (by simp [runP, hd, hl, h9])]) (by simp [AV.nm])
  · simp [hw, Nat.not_lt.2 hge]
    exact ret_pure (by simp [resA, resOne]; rw [hp, runFrom_end (by omega)]) (by simp [AV.nm])

/-- The length of a string in quotes, 0 if it is not closed or has a wrong byte. -/
def quoteFrom (s : ByteArray) (n : Nat) : Nat :=
  if h : n < s.size then if (s[n].toNat : Int) = 34 then n + 1 else if (s[n].toNat : Int) < 32 ∨ 126 < (s[n].toNat : Int) then 0 else quoteFrom s (n + 1) else 0
termination_by s.size - n

theorem quoteFrom_le (s : ByteArray) (n : Nat) : quoteFrom s n = 0 ∨ (n + 1 ≤ quoteFrom s n ∧ quoteFrom s n ≤ s.size) := by
  induction h : s.size - n using Nat.strongRecOn generalizing n with
  | ind m ih =>
  rw [quoteFrom]
  split
  · split
    · omega
    · split
      · exact .inl rfl
      · have := ih (s.size - (n + 1)) (by omega) (n + 1) rfl
        omega
  · exact .inl rfl

theorem spec356 (R : Nat) (s : ByteArray) (hs : s.size ≤ 1048576) : Spec Tryz.prog R 0 356 [.str s, .int .i64 0] [] (.int .i64 (quoteFrom s 1)) [] := by
  refine spec_intro hmix Tryz.func356 c356 (fun vs w => Tryz.call356 vs w) (by simp) (by simp [Tryz.ntmps356]) ?_
  show awb _ _ _ (retK _ _ _ _ _) _
  simp
  refine loop_sub (ι := { k : Nat // k ≤ s.size + 1 ∧ quoteFrom s 1 = quoteFrom s k }) (fun k => ⟨[(0, .str s), (1, .int .i64 0), (5, .int .i64 k.1)], [], R⟩) (fun k => s.size + 1 - k.1) ⟨1, by simp⟩ ?_ ?_ (Nat.le_refl _) ?_
  · simp
  · simp
  rintro ⟨k, hk, hp⟩
  have hw : IntKind.i64.wrap (k : Int) = k := wrap_id (by omega) (by omega)
  have hw1 : IntKind.i64.wrap ((k : Int) + 1) = ((k + 1 : Nat) : Int) := wrap_nat (show k < 4611686018427387904 by omega)
  rcases Nat.lt_or_ge k s.size with hlt | hge
  · have hq := hp
    rw [quoteFrom.eq_def s k, dif_pos hlt] at hq
    by_cases h1 : (s[k].toNat : Int) = 34
    · rw [if_pos h1] at hq
      simp [hlt, hw, hw1, bget s k hlt, h1]
      exact ret_pure (by simp [resA, resOne, hq]) (by simp [AV.nm])
    rw [if_neg h1] at hq
    by_cases h2 : (s[k].toNat : Int) < 32
    · rw [if_pos (.inl h2)] at hq
      simp [hlt, hw, bget s k hlt, h1, h2]
      exact ret_pure (by simp [resA, resOne, hq]) (by simp [AV.nm])
    by_cases h3 : 126 < (s[k].toNat : Int)
    · rw [if_pos (.inr h3)] at hq
      simp [hlt, hw, bget s k hlt, h1, h2, h3]
      exact ret_pure (by simp [resA, resOne, hq]) (by simp [AV.nm])
    rw [if_neg (by omega)] at hq
    simp [hlt, hw, hw1, bget s k hlt, h1, h2, h3, -Subtype.exists]
    refine ⟨⟨k + 1, by omega, hq⟩, by simp only; omega, shift_sub ?_ ?_ (Nat.le_refl _)⟩ <;> simp
  · simp [hw, Nat.not_lt.2 hge]
    exact ret_pure (by simp [resA, resOne]; rw [hp, quoteFrom.eq_def, dif_neg (by omega)]; rfl) (by simp [AV.nm])

def signsL : List ByteArray := [⟨#[45, 62]⟩, ⟨#[60, 61]⟩, ⟨#[62, 61]⟩, ⟨#[61, 61]⟩, ⟨#[33, 61]⟩, ⟨#[123]⟩, ⟨#[125]⟩, ⟨#[40]⟩, ⟨#[41]⟩, ⟨#[91]⟩, ⟨#[93]⟩, ⟨#[44]⟩, ⟨#[59]⟩, ⟨#[58]⟩, ⟨#[61]⟩, ⟨#[43]⟩, ⟨#[45]⟩, ⟨#[42]⟩, ⟨#[60]⟩, ⟨#[62]⟩, ⟨#[33]⟩, ⟨#[38]⟩, ⟨#[124]⟩, ⟨#[46]⟩, ⟨#[63]⟩]

theorem spec357 (R : Nat) : Spec Tryz.prog R 0 357 [] [] (encStrs signsL) [] := by
  refine spec_intro hmix Tryz.func357 c357 (fun vs w => Tryz.call357 vs w) (by simp) (by simp [Tryz.ntmps357]) ?_
  show awb _ _ _ (retK _ _ _ _ _) _
  simp [aFill, repL, spl]
  refine ret_ren (v := .osl R 0 25 (some 25) 1) ?_ [] [(R, signsL.map .str)] [] ?_ ?_ ?_ ?_
  · simp [resA, resOne]
  · simp [NsOK]
  · simp [FzL, look, signsL]
  · simp [lookF, encStrs, signsL]
  · simp [HpTo_nil]
end Go.Av
/- What the functions of names compute, in the reference, second part. -/
namespace Go.Av
set_option linter.unusedVariables false
set_option linter.unusedSimpArgs false
open Go.Proofs

def signHit (s x : ByteArray) : Bool := decide (x.size ≤ s.size) && decide (s.extract 0 x.size = x)
def signAt (s : ByteArray) (i : Nat) : Option ByteArray := (signsL[i]?).bind fun x => if signHit s x = true then some x else none
def oneSign (s : ByteArray) : ByteArray × Int × Int × Int := match firstE signsL.length (signAt s) with
  | some x => (x, 4, x.size, 0)
  | none => (⟨#[]⟩, 0, 0, 2)

/-- A word at the beginning, its bytes counted. -/
def wordR (s : ByteArray) (d : Bool) : ByteArray × Int × Int × Int :=
  if runFrom (runP d) s 0 > (if d = true then 9 else 20) then (⟨#[]⟩, 0, 0, 3) else (s.extract 0 (runFrom (runP d) s 0), if d = true then 2 else 1, (runFrom (runP d) s 0 : Int), 0)
def quoteR (s : ByteArray) : ByteArray × Int × Int × Int :=
  if quoteFrom s 1 = 0 then (⟨#[]⟩, 0, 0, 2) else if quoteFrom s 1 - 2 > 60 then (⟨#[]⟩, 0, 0, 3) else (s.extract 1 (quoteFrom s 1 - 1), 3, (quoteFrom s 1 : Int), 0)

/-- The token at the beginning: its text, its kind, its length, the error. -/
def oneR (s : ByteArray) : ByteArray × Int × Int × Int :=
  if h : 0 < s.size then
    if letterN s[0].toNat = true then wordR s false else if digitN s[0].toNat = true then wordR s true else if (s[0].toNat : Int) = 34 then quoteR s else oneSign s
  else (⟨#[]⟩, 0, 0, 2)

theorem letter_digit {c : Int} (h : letterN c = true) : digitN c = false := by
  simp only [letterN, digitN, Bool.or_eq_true, Bool.and_eq_true, decide_eq_true_eq] at *
  simp only [Bool.and_eq_false_iff, decide_eq_false_iff_not]
  omega

theorem signs_small : ∀ x ∈ signsL, x.size ≤ 2 := by decide

set_option maxHeartbeats 2000000 in
set_option maxRecDepth 100000 in
theorem spec302 (R : Nat) (s : ByteArray) (hs : s.size ≤ 1048576) (h1 : 0 < s.size) :
    Spec Tryz.prog R 0 302 [.str s, .int .i64 0] [] (.tup [.agg [.int .i64 (oneR s).2.1, .str (oneR s).1, .int .i64 0], .int .i64 (oneR s).2.2.1, .int .i64 (oneR s).2.2.2]) [] := by
  refine spec_intro hmix Tryz.func302 c302 (fun vs w => Tryz.call302 vs w) (by simp) (by simp [Tryz.ntmps302]) ?_
  show awb _ _ _ (retK _ _ _ _ _) _
  have hO : oneR s = if letterN s[0].toNat = true then wordR s false else if digitN s[0].toNat = true then wordR s true else if (s[0].toNat : Int) = 34 then quoteR s else oneSign s := by
    unfold oneR; rw [dif_pos h1]
  simp [bget s 0 h1]
  refine call_val (spec353 _ _) (by simp) ?_
  cases hl : letterN s[0].toNat with
  | true =>
    have hd := letter_digit hl
    rw [hO, if_pos hl]
    simp
    refine call_val (spec354 _ _) (by simp) ?_
    rw [hd]
    simp
    refine call_val (spec355 _ s hs false) (by simp) ?_
    simp
    refine call_val (spec354 _ _) (by simp) ?_
    rw [hd]
    unfold wordR
    have hle := runFrom_le (runP false) s 0 (by omega)
    generalize runFrom (runP false) s 0 = n at *
    have hw : IntKind.i64.wrap (n : Int) = n := wrap_id (by omega) (by omega)
    by_cases h2 : n > 20
    · have h2' : (20 : Int) < n := by omega
      simp [h2', aFill, spl, repL]
      exact ret_pure (by simp [resA, resOne, h2]) (by simp [AV.nm])
    · have h2' : ¬ (20 : Int) < n := by omega
      have h3 : (n : Int) ≤ s.size := by omega
      simp [h2', hw, h3, hle, aFill, spl, repL]
      exact ret_pure (by simp [resA, resOne, h2]) (by simp [AV.nm])
  | false =>
  simp
  refine call_val (spec354 _ _) (by simp) ?_
  cases hd : digitN s[0].toNat with
  | true =>
    rw [hO, if_neg (by simp [hl]), if_pos hd]
    simp
    refine call_val (spec354 _ _) (by simp) ?_
    rw [hd]
    simp
    refine call_val (spec355 _ s hs true) (by simp) ?_
    simp
    refine call_val (spec354 _ _) (by simp) ?_
    rw [hd]
    unfold wordR
    have hle := runFrom_le (runP true) s 0 (by omega)
    generalize runFrom (runP true) s 0 = n at *
    have hw : IntKind.i64.wrap (n : Int) = n := wrap_id (by omega) (by omega)
    by_cases h2 : n > 9
    · have h2' : (9 : Int) < n := by omega
      simp [h2', aFill, spl, repL]
      exact ret_pure (by simp [resA, resOne, h2]) (by simp [AV.nm])
    · have h2' : ¬ (9 : Int) < n := by omega
      have h3 : (n : Int) ≤ s.size := by omega
      simp [h2', hw, h3, hle, aFill, spl, repL]
      exact ret_pure (by simp [resA, resOne, h2]) (by simp [AV.nm])
  | false =>
  rw [if_neg (by simp [hl]), if_neg (by simp [hd])] at hO
  rw [hO]
  by_cases hq : (s[0].toNat : Int) = 34
  · rw [if_pos hq]
    simp [hq]
    refine call_val (spec356 _ s hs) (by simp) ?_
    unfold quoteR
    have hle := quoteFrom_le s 1
    generalize quoteFrom s 1 = n at *
    by_cases h0 : n = 0
    · subst h0
      simp [aFill, spl, repL]
      exact ret_pure (by simp [resA, resOne]) (by simp [AV.nm])
    have h0' : ¬ (n : Int) = 0 := by omega
    have hw : IntKind.i64.wrap (n : Int) = n := wrap_id (by omega) (by omega)
    have hw2 : IntKind.i64.wrap ((n : Int) - 2) = ((n - 2 : Nat) : Int) := by rw [wrap_id (by omega) (by omega)]; omega
    have hw3 : IntKind.i64.wrap ((n : Int) - 1) = ((n - 1 : Nat) : Int) := by rw [wrap_id (by omega) (by omega)]; omega
    have hw4 : IntKind.i64.wrap (1 : Int) = 1 := wrap_id (by omega) (by omega)
    by_cases h2 : n - 2 > 60
    · have h2' : (60 : Int) < ((n - 2 : Nat) : Int) := by omega
      simp [h0', h0, hw2, h2', (show 60 < n - 2 from h2), aFill, spl, repL]
      exact ret_pure (by simp [resA, resOne, h0, h2]) (by simp [AV.nm])
    · have h2' : ¬ (60 : Int) < ((n - 2 : Nat) : Int) := by omega
      have h3 : ((n - 1 : Nat) : Int) ≤ s.size := by omega
      have h4 : (1 : Int) ≤ ((n - 1 : Nat) : Int) := by omega
      simp [h0', h0, hw, hw2, hw3, hw4, h2', (show ¬ 60 < n - 2 from h2), h3, h4, (show n - 1 ≤ s.size by omega), (show 1 ≤ n - 1 by omega), aFill, spl, repL]
      exact ret_pure (by simp [resA, resOne, h0, h2]) (by simp [AV.nm])
  rw [if_neg hq]
  simp [hq]
  refine call_val (spec357 _) (by simp) ?_
  simp
  unfold oneSign
  refine loop_sub (ι := { k : Nat // k ≤ signsL.length ∧ ∀ j, j < k → signAt s j = none }) (fun k => ⟨[(0, .str s), (1, .int .i64 0), (4, .ptr R 0), (12, encStrs signsL), (13, .int .i64 k.1)], [(R, [.int .i64 0, .str ⟨#[]⟩, .int .i64 0])], R + 1⟩) (fun k => signsL.length - k.1) ⟨0, by simp⟩ ?_ ?_ (Nat.le_refl _) ?_
  · simp
  · simp
  rintro ⟨k, hk, hp⟩
  have h25 : signsL.length = 25 := rfl
  rcases Nat.lt_or_ge k signsL.length with hlt | hge
  · have hx2 := signs_small _ (List.getElem_mem hlt)
    have hA : signAt s k = if signHit s signsL[k] = true then some signsL[k] else none := by simp [signAt, hlt]
    have hw : IntKind.i64.wrap (signsL[k].size : Int) = signsL[k].size := wrap_id (by omega) (by omega)
    have hw1 : IntKind.i64.wrap ((k : Int) + 1) = ((k + 1 : Nat) : Int) := wrap_nat (by omega)
    by_cases c1 : signsL[k].size ≤ s.size
    · by_cases c2 : s.extract 0 signsL[k].size = signsL[k]
      · have hh : signAt s k = some signsL[k] := by rw [hA, if_pos (by simp [signHit, c1, c2])]
        simp [encStrs, hlt, hw, c1, c2, aFill, spl, repL]
        exact ret_pure (by simp [resA, resOne]; rw [firstE_some hlt hp hh]; simp) (by simp [AV.nm])
      · have hh : signAt s k = none := by rw [hA, if_neg (by simp [signHit, c2])]
        simp [encStrs, hlt, hw, c1, c2, hw1, -Subtype.exists]
        refine ⟨⟨k + 1, hlt, fun j hj => ?_⟩, by simp only; omega, shift_sub ?_ ?_ (Nat.le_refl _)⟩
        · rcases Nat.lt_or_ge j k with h | h
          · exact hp j h
          · have : j = k := by omega
            subst this; exact hh
        · simp [encStrs]
        · simp
    · have hh : signAt s k = none := by rw [hA, if_neg (by simp [signHit, c1])]
      have c1' : ¬ ((signsL[k].size : Int) ≤ s.size) := by omega
      simp (maxSteps := 3000000) [encStrs, hlt, hw, c1, c1', hw1, -Subtype.exists]
      refine ⟨⟨k + 1, hlt, fun j hj => ?_⟩, by simp only; omega, shift_sub ?_ ?_ (Nat.le_refl _)⟩
      · rcases Nat.lt_or_ge j k with h | h
        · exact hp j h
        · have : j = k := by omega
          subst this; exact hh
      · simp [encStrs]
      · simp
  · simp [encStrs, Nat.not_lt.2 hge, aFill, spl, repL]
    have hno : firstE signsL.length (signAt s) = none := firstE_none fun j hj => hp j (by omega)
    exact ret_pure (by simp [resA, resOne, hno]) (by simp [AV.nm])

theorem isName_one (s : ByteArray) (h1 : 0 < s.size) : (decide ((oneR s).2.2.2 = 0) && (decide ((oneR s).2.2.1 = (s.size : Int)) && decide ((oneR s).2.1 = 1))) = isName s := by
  unfold oneR isName
  rw [dif_pos h1, dif_pos h1]
  cases hl : letterN s[0].toNat with
  | true =>
    simp only [if_true, Bool.true_and]
    unfold wordR
    rw [runP_false, if_neg (show ¬ (false = true) by simp), if_neg (show ¬ (false = true) by simp)]
    by_cases h20 : runFrom partN s 0 > 20
    · rw [if_pos h20]
      by_cases he : runFrom partN s 0 = s.size
      · have : ¬ s.size ≤ 20 := by omega
        simp [this]
      · simp [he]
    · rw [if_neg h20]
      by_cases he : runFrom partN s 0 = s.size
      · have : s.size ≤ 20 := by omega
        simp [this, he]
      · simp [he, Int.ofNat_inj]
  | false =>
    simp only [Bool.false_and, Bool.false_eq_true, if_false]
    split
    · unfold wordR; rw [if_pos rfl, if_pos rfl]; split <;> simp
    split
    · unfold quoteR
      split
      · simp
      split <;> simp
    · unfold oneSign; split <;> simp

theorem spec301 (R : Nat) (s : ByteArray) : Spec Tryz.prog R 0 301 [.agg [.int .i64 1, .str s, .int .i64 0]] [] (.str s) [] := by
  refine spec_intro hmix Tryz.func301 c301 (fun vs w => Tryz.call301 vs w) (by simp) (by simp [Tryz.ntmps301]) ?_
  show awb _ _ _ (retK _ _ _ _ _) _
  simp
  exact ret_pure (by simp [resA, resOne]) (by simp [AV.nm])

theorem spec250 (R : Nat) (s : ByteArray) (hs : s.size ≤ 1048576) : Spec Tryz.prog R 0 250 [.agg [.int .i64 1, .str s, .int .i64 0]] [] (.bool (isName s)) [] := by
  refine spec_intro hmix Tryz.func250 c250 (fun vs w => Tryz.call250 vs w) (by simp) (by simp [Tryz.ntmps250]) ?_
  show awb _ _ _ (retK _ _ _ _ _) _
  simp
  refine call_val (spec301 _ s) (by simp) ?_
  by_cases h1 : 0 < s.size
  · have hne : s ≠ ⟨#[]⟩ := by rintro rfl; simp [ByteArray.size] at h1
    simp [hne]
    refine call_val (spec302 _ s hs h1) (by simp) ?_
    have key := isName_one s h1
    by_cases h2 : (oneR s).2.2.2 = 0
    · by_cases h3 : (oneR s).2.2.1 = (s.size : Int)
      · simp [h2, h3, spl]
        exact ret_pure (by simp [resA, resOne, ← key, h2, h3]) (by simp [AV.nm])
      · simp [h2, h3, spl]
        exact ret_pure (by simp [resA, resOne, ← key, h2, h3]) (by simp [AV.nm])
    · simp [h2, spl]
      exact ret_pure (by simp [resA, resOne, ← key, h2]) (by simp [AV.nm])
  · have he := empty_of_size h1
    have hn : isName s = false := by unfold isName; rw [dif_neg h1]
    rw [hn]
    subst he
    simp
    exact ret_pure (by simp [resA, resOne]) (by simp [AV.nm])

theorem spec154 (R : Nat) (s : ByteArray) (hs : s.size ≤ 1048576) : Spec Tryz.prog R 0 154 [.str s] [] (.bool (isName s)) [] := by
  refine spec_intro hmix Tryz.func154 c154 (fun vs w => Tryz.call154 vs w) (by simp) (by simp [Tryz.ntmps154]) ?_
  show awb _ _ _ (retK _ _ _ _ _) _
  simp [aFill, spl, repL]
  refine call_val (spec250 _ s hs) (by simp) ?_
  simp
  exact ret_pure (by simp [resA, resOne]) (by simp [AV.nm])
end Go.Av
/- What the functions of type graphs compute, in the reference. -/
namespace Go.Av
set_option linter.unusedVariables false
set_option linter.unusedSimpArgs false
open Go.Proofs

theorem any_take_false {α : Type} {l : List α} {p : α → Bool} {i : Nat} (h : ∀ j (hj : j < l.length), j < i → p l[j] = false) : (l.take i).any p = false := by
  rw [List.any_eq_false]
  intro x hx
  obtain ⟨j, hj, rfl⟩ := List.getElem_of_mem hx
  rw [List.length_take] at hj
  rw [List.getElem_take]
  simpa using h j (by omega) (by omega)
theorem any_take_true {α : Type} {l : List α} {p : α → Bool} {i k : Nat} (hk : k < l.length) (hi : k < i) (hp : p l[k] = true) : (l.take i).any p = true :=
  List.any_eq_true.2 ⟨l[k], List.mem_take_iff_getElem.2 ⟨k, by omega, rfl⟩, hp⟩

theorem spec216 (R : Nat) (a b c : Int) : Spec Tryz.prog R 0 216 [.int .i64 a, .int .i64 b, .int .i64 c] [] (.bool (decide (b ≤ a) && decide (a ≤ c))) [] := by
  refine spec_intro hmix Tryz.func216 c216 (fun vs w => Tryz.call216 vs w) (by simp) (by simp [Tryz.ntmps216]) ?_
  show awb _ _ _ (retK _ _ _ _ _) _
  by_cases h1 : b ≤ a <;> by_cases h2 : a ≤ c <;>
    (simp [h1, h2]
     exact ret_pure (by simp [resA, resOne, h1, h2]) (by simp [AV.nm]))

theorem spec278 (R : Nat) (a b : Int) : Spec Tryz.prog R 0 278 [.int .i64 a, .int .i64 b] [] (.bool (boundedB a b)) [] := by
  refine spec_intro hmix Tryz.func278 c278 (fun vs w => Tryz.call278 vs w) (by simp) (by simp [Tryz.ntmps278]) ?_
  show awb _ _ _ (retK _ _ _ _ _) _
  simp
  refine call_val (spec216 _ a 0 40) (by simp) ?_
  cases h1 : (decide (0 ≤ a) && decide (a ≤ 40)) with
  | false =>
    simp
    exact ret_pure (by simp [resA, resOne, boundedB, h1]) (by simp [AV.nm])
  | true =>
  by_cases h2 : b = -1
  · simp [h2]
    exact ret_pure (by simp [resA, resOne, boundedB, h1, h2]) (by simp [AV.nm])
  · simp [h2]
    refine call_val (spec216 _ b a 40) (by simp) ?_
    simp
    exact ret_pure (by simp [resA, resOne, boundedB, h1, h2]) (by simp [AV.nm])

theorem spec331 (R : Nat) (l : List ByteArray) (hl : l.length ≤ 1048576) (hs : ∀ s ∈ l, s.size ≤ 1048576) : Spec Tryz.prog R 0 331 [encStrs l] [] (.int .i64 (namesE l)) [] := by
  refine spec_intro hmix Tryz.func331 c331 (fun vs w => Tryz.call331 vs w) (by simp) (by simp [Tryz.ntmps331]) ?_
  show awb _ _ _ (retK _ _ _ _ _) _
  by_cases h20 : l.length > 20
  · have h20' : (20 : Int) < l.length := by omega
    simp [encStrs, h20']
    exact ret_pure (by simp [resA, resOne, namesE, h20]) (by simp [AV.nm])
  have h20' : ¬ (20 : Int) < l.length := by omega
  simp [encStrs, h20']
  refine loop_sub (ι := { k : Nat // k ≤ l.length ∧ ∀ j, j < k → namesAt l j = none }) (fun k => ⟨[(0, encStrs l), (3, .int .i64 k.1)], [], R⟩) (fun k => l.length - k.1) ⟨0, by simp⟩ ?_ ?_ (Nat.le_refl _) ?_
  · simp [encStrs]
  · simp
  rintro ⟨k, hk, hp⟩
  rcases Nat.lt_or_ge k l.length with hlt | hge
  · simp [encStrs, hlt, -Subtype.exists]
    refine call_val (spec154 _ l[k] (hs _ (List.getElem_mem hlt))) (by simp) ?_
    cases h1 : isName l[k] with
    | false =>
      simp
      exact ret_pure (by simp [resA, resOne]; unfold namesE; rw [if_neg h20, firstE_some hlt hp (by rw [namesAt_eq hlt, h1]; rfl)]; rfl) (by simp [AV.nm])
    | true =>
    simp [-Subtype.exists]
    refine loop_sub (ι := { m : Nat // m ≤ k ∧ ∀ j (hj : j < l.length), j < m → decide (l[j] = l[k]) = false }) (fun m => ⟨[(0, encStrs l), (3, .int .i64 k), (4, .int .i64 m.1)], [], R⟩) (fun m => k - m.1) ⟨0, by simp⟩ ?_ ?_ (Nat.le_refl _) ?_
    · simp [encStrs]
    · simp
    rintro ⟨m, hm, hq⟩
    rcases Nat.lt_or_ge m k with hmk | hmk
    · have hml : m < l.length := by omega
      by_cases c1 : l[m] = l[k]
      · simp [encStrs, hlt, hml, hmk, c1]
        exact ret_pure (by simp [resA, resOne]; unfold namesE; rw [if_neg h20, firstE_some hlt hp (by rw [namesAt_eq hlt, h1, if_neg (by simp), if_pos (show hasS (l.take k) l[k] = true from any_take_true hml hmk (by simpa using c1))])]; rfl) (by simp [AV.nm])
      · simp [encStrs, hlt, hml, hmk, c1, wrap_nat (show m < 4611686018427387904 by omega), -Subtype.exists]
        refine ⟨⟨m + 1, hmk, fun j hj hjm => ?_⟩, by simp only; omega, shift_sub ?_ ?_ (Nat.le_refl _)⟩
        · rcases Nat.lt_or_ge j m with h | h
          · exact hq j hj h
          · have : j = m := by omega
            subst this; simpa using c1
        · simp [encStrs]
        · simp
    · have hno : hasS (l.take k) l[k] = false := any_take_false fun j hj hjk => hq j hj (by omega)
      simp [Nat.not_lt.2 hmk, wrap_nat (show k < 4611686018427387904 by omega), -Subtype.exists]
      refine ⟨⟨k + 1, hlt, fun j hj => ?_⟩, by simp only; omega, shift_sub ?_ ?_ (Nat.le_refl _)⟩
      · rcases Nat.lt_or_ge j k with h | h
        · exact hp j h
        · have : j = k := by omega
          subst this; rw [namesAt_eq hlt, h1, if_neg (by simp), if_neg (by simp [hno])]
      · simp [encStrs]
      · simp
  · simp [encStrs, Nat.not_lt.2 hge]
    exact ret_pure (by simp [resA, resOne]; unfold namesE; rw [if_neg h20, firstE_none fun j hj => hp j (by omega)]; rfl) (by simp [AV.nm])

/-- The error of an attribute by itself. -/
def attrOwnE (x : AttrT) : Int := if namesE x.names ≠ 0 then namesE x.names else if rangeOk x = true then 0 else 6
theorem attributeE_own (x : AttrT) (b : List AttrT) : attributeE x b = if isName x.name = false then 2 else if (b.any fun y => decide (y.name = x.name)) = true then 5 else attrOwnE x := rfl
theorem namesE_nil : namesE [] = 0 := by rfl

theorem spec277 (R : Nat) (x : AttrT) (hx : x.ok) : Spec Tryz.prog R 0 277 [.agg (attrC x)] [] (.int .i64 (attrOwnE x)) [] := by
  obtain ⟨x1, x2, x3, x4, x5⟩ := hx
  refine spec_intro hmix Tryz.func277 c277 (fun vs w => Tryz.call277 vs w) (by simp) (by simp [Tryz.ntmps277]) ?_
  show awb _ _ _ (retK _ _ _ _ _) _
  have hw : IntKind.i64.wrap ((x.names.length : Int) - 1) = (x.names.length : Int) - 1 := wrap_id (by omega) (by omega)
  by_cases he : x.names = []
  · have hE : attrOwnE x = if lowHigh x = true then 0 else 6 := by
      unfold attrOwnE; rw [rangeOk_eq, he, namesE_nil]; simp
    rw [hE]
    simp [attrC, encStrs, he]
    refine call_val (spec216 _ x.low (-1000000) 1000000) (by simp) ?_
    cases h1 : (decide (-1000000 ≤ x.low) && decide (x.low ≤ 1000000)) with
    | false =>
      have hf : lowHigh x = false := by
        simp only [lowHigh, Bool.and_eq_false_iff, decide_eq_false_iff_not] at *; omega
      simp
      exact ret_pure (by simp [resA, resOne, hf]) (by simp [AV.nm])
    | true =>
    simp
    refine call_val (spec216 _ x.high x.low 1000000) (by simp) ?_
    cases h2 : (decide (x.low ≤ x.high) && decide (x.high ≤ 1000000)) with
    | false =>
      have hf : lowHigh x = false := by
        simp only [lowHigh, Bool.and_eq_false_iff, decide_eq_false_iff_not] at *; omega
      simp
      exact ret_pure (by simp [resA, resOne, hf]) (by simp [AV.nm])
    | true =>
      have hf : lowHigh x = true := by
        simp only [lowHigh, Bool.and_eq_true, decide_eq_true_eq] at *; omega
      simp
      exact ret_pure (by simp [resA, resOne, hf]) (by simp [AV.nm])
  have h0 : x.names.length ≠ 0 := by simpa using he
  have hpos : 0 < x.names.length := by omega
  have hE : attrOwnE x = if namesE x.names ≠ 0 then namesE x.names else if (decide (x.low = 0) && decide (x.high = (x.names.length : Int) - 1)) = true then 0 else 6 := by
    unfold attrOwnE; rw [rangeOk_eq, if_pos hpos]
  simp [attrC, encStrs, he, h0]
  refine call_val (spec331 _ x.names x2 x3) (by simp) ?_
  by_cases h3 : namesE x.names = 0
  case neg =>
    simp [h3]
    exact ret_pure (by simp [resA, resOne]; rw [hE, if_pos h3]) (by simp [AV.nm])
  cases b1 : decide (x.low = 0) with
  | false =>
    simp [h3, b1]
    exact ret_pure (by simp [resA, resOne]; rw [hE, if_neg (by simp [h3]), b1]; rfl) (by simp [AV.nm])
  | true =>
  cases b2 : decide (x.high = (x.names.length : Int) - 1) with
  | false =>
    simp [h3, b1, b2, hw]
    exact ret_pure (by simp [resA, resOne]; rw [hE, if_neg (by simp [h3]), b1, b2]; rfl) (by simp [AV.nm])
  | true =>
    simp [h3, b1, b2, hw]
    exact ret_pure (by simp [resA, resOne]; rw [hE, if_neg (by simp [h3]), b1, b2]; rfl) (by simp [AV.nm])
end Go.Av
/- What the functions of type graphs compute, in the reference, second part. -/
namespace Go.Av
set_option linter.unusedVariables false
set_option linter.unusedSimpArgs false
open Go.Proofs


theorem edgeTCs_name (l : List EdgeT) (k : Nat) (h : k < l.length) (h' : k * 7 < (edgeTCs l).length) : (edgeTCs l)[k * 7] = .str l[k].name := by
  have := edgeTCs_get l k 0 h (by omega)
  rw [Nat.add_zero, List.getElem?_eq_getElem h'] at this
  exact Option.some.inj this
theorem nodeTCs_name (l : List NodeT) (k : Nat) (h : k < l.length) (h' : k * 4 < (nodeTCs l).length) : (nodeTCs l)[k * 4] = .str l[k].name := by
  have := nodeTCs_get l k 0 h (by omega)
  rw [Nat.add_zero, List.getElem?_eq_getElem h'] at this
  exact Option.some.inj this
theorem attrCs_name (l : List AttrT) (k : Nat) (h : k < l.length) (h' : k * 4 < (attrCs l).length) : (attrCs l)[k * 4] = .str l[k].name := by
  have := attrCs_get l k 0 h (by omega)
  rw [Nat.add_zero, List.getElem?_eq_getElem h'] at this
  exact Option.some.inj this

theorem typesC_0 (t : TypesT) : (typesC t)[0]? = some (encNodes t.nodes) := rfl
theorem typesC_1 (t : TypesT) : (typesC t)[1]? = some (encETypes t.edges) := rfl
theorem edgeTC_0 (x : EdgeT) : (edgeTC x)[0]? = some (.str x.name) := rfl
theorem edgeTC_1 (x : EdgeT) : (edgeTC x)[1]? = some (.int .i64 x.fr) := rfl
theorem edgeTC_2 (x : EdgeT) : (edgeTC x)[2]? = some (.int .i64 x.to) := rfl
theorem edgeTC_3 (x : EdgeT) : (edgeTC x)[3]? = some (.int .i64 x.ol) := rfl
theorem edgeTC_4 (x : EdgeT) : (edgeTC x)[4]? = some (.int .i64 x.oh) := rfl
theorem edgeTC_5 (x : EdgeT) : (edgeTC x)[5]? = some (.int .i64 x.il) := rfl
theorem edgeTC_6 (x : EdgeT) : (edgeTC x)[6]? = some (.int .i64 x.ih) := rfl
theorem nodeTC_0 (x : NodeT) : (nodeTC x)[0]? = some (.str x.name) := rfl
theorem nodeTC_1 (x : NodeT) : (nodeTC x)[1]? = some (.int .i64 x.parent) := rfl
theorem nodeTC_2 (x : NodeT) : (nodeTC x)[2]? = some (.bool x.abs) := rfl
theorem nodeTC_3 (x : NodeT) : (nodeTC x)[3]? = some (encAttrs x.attrs) := rfl
theorem attrC_0 (x : AttrT) : (attrC x)[0]? = some (.str x.name) := rfl
theorem attrC_1 (x : AttrT) : (attrC x)[1]? = some (.int .i64 x.low) := rfl
theorem attrC_2 (x : AttrT) : (attrC x)[2]? = some (.int .i64 x.high) := rfl
theorem attrC_3 (x : AttrT) : (attrC x)[3]? = some (encStrs x.names) := rfl

theorem spec227n (R : Nat) (t : TypesT) (x : Int) (hx : x < 0) : Spec Tryz.prog R 0 227 [.agg (typesC t), .int .i64 x] [] .nilsl [] := by
  refine spec_intro hmix Tryz.func227 c227 (fun vs w => Tryz.call227 vs w) (by simp) (by simp [Tryz.ntmps227]) ?_
  show awb _ _ _ (retK _ _ _ _ _) _
  simp [typesC, hx]
  exact ret_pure (by simp [resA, resOne]) (by simp [AV.nm])

theorem spec227 (t : TypesT) (ht : t.ok) (h12 : t.nodes.length ≤ 12) : ∀ (a : Nat) (ha : a < t.nodes.length) (hp : Par t.nodes a) (R : Nat),
    Spec Tryz.prog R 1 227 [.agg (typesC t), .int .i64 a] [] (.osl R 0 (attrsT t.nodes a).length none 4) [(R, attrCs (attrsT t.nodes a))] := by
  intro a
  induction a using Nat.strongRecOn with
  | ind a ih =>
  intro ha hp R
  refine spec_intro hmix Tryz.func227 c227 (fun vs w => Tryz.call227 vs w) (by simp) (by simp [Tryz.ntmps227]) ?_
  show awb _ _ _ (retK _ _ _ _ _) _
  have hpar := hp a _ (Nat.le_refl _) (List.getElem?_eq_getElem ha)
  have hlen : (attrsT t.nodes a).length ≤ 13 * 1048576 := Nat.le_trans (attrsT_len (M := 1048576) (fun n hn => (ht.n n hn).2.1) a) (Nat.mul_le_mul_right _ (by omega))
  have g1 := nodeTCs_get t.nodes a 1 ha (by omega)
  have g3 := nodeTCs_get t.nodes a 3 ha (by omega)
  have hneg : ¬ (a : Int) < 0 := by omega
  by_cases h0 : 0 ≤ t.nodes[a].parent
  · obtain ⟨m, hm⟩ : ∃ m : Nat, t.nodes[a].parent = (m : Int) := ⟨_, (Int.toNat_of_nonneg h0).symm⟩
    have hma : m < a := by omega
    have hat : attrsT t.nodes a = attrsT t.nodes m ++ t.nodes[a].attrs := by
      rw [attrsT_eq ha hp, if_pos h0, hm]; rfl
    have hl2 : (attrsT t.nodes a).length = (attrsT t.nodes m).length + t.nodes[a].attrs.length := by rw [hat, List.length_append]
    simp [typesC, encNodes, ha, hneg, g1, nodeTC, hm, aFill, repL, spl, Nat.add_assoc]
    refine call_own (ih m hma (by omega) (fun j n hj hn => hp j n (by omega) hn) (R + 2)) (by simp) ?_
    have h4 : (attrsT t.nodes m).length + t.nodes[a].attrs.length ≤ 4294967296 := by omega
    have h5 : (attrsT t.nodes m).length ≤ 4294967296 := by omega
    simp [ha, g3, nodeTC, encAttrs, h4, h5, Nat.add_assoc]
    refine ret_ren (v := .osl (R + 4) 0 ((attrsT t.nodes m).length + t.nodes[a].attrs.length) none 4) ?_ [(R + 4, R)] [] [R + 4] ?_ ?_ ?_ ?_
    · simp [resA, resOne]
    · simp [NsOK]
    · simp [FzL, look]
    · simp [look, hl2]
    · simp [HpTo_cons, HpTo_nil, look, hat, attrCs_append]
      rw [List.take_of_length_le (by simp)]
      exact toL_append (toL_refl (nmL_attrCs _)) (toL_refl (nmL_attrCs _))
  · have hat : attrsT t.nodes a = t.nodes[a].attrs := by
      rw [attrsT_eq ha hp, if_neg h0]; rfl
    have h4 : t.nodes[a].attrs.length ≤ 4294967296 := by rw [hat] at hlen; omega
    simp [typesC, encNodes, ha, hneg, g1, nodeTC, aFill, repL, spl, Nat.add_assoc]
    refine call_val (spec227n _ t t.nodes[a].parent (by omega)) (by simp) ?_
    simp [ha, g3, nodeTC, encAttrs, h4, Nat.add_assoc]
    refine ret_ren (v := .osl (R + 3) 0 t.nodes[a].attrs.length none 4) ?_ [(R + 3, R)] [] [R + 3] ?_ ?_ ?_ ?_
    · simp [resA, resOne]
    · simp [NsOK]
    · simp [FzL, look]
    · simp [look, hat]
    · simp [HpTo_cons, HpTo_nil, look, hat]
      exact toL_refl (nmL_attrCs _)

def tail205 : BC := .seq b205x11 (.seq (.seq b205x12 (.cond (T 62) (.seq b205x13 .ret) .skip)) (.seq b205x14 .ret))

set_option maxRecDepth 100000 in
theorem cut205 (R : Nat) (t : TypesT) (x : EdgeT) (hnl : t.nodes.length ≤ 1048576) (r : Int) (hr : r = if (insideB t x.fr && insideB t x.to && boundedB x.ol x.oh && boundedB x.il x.ih) = true then 0 else 6)
    (rs : List (Nat × AV)) (hr2 : rget rs 2 = .ptr R 0) (hr5 : rget rs 5 = .ptr (R + 1) 0) : awb Tryz.prog R tail205 (retK Tryz.prog R #[.tmp 4] (.int .i64 r) []) ⟨rs, [(R, typesC t), (R + 1, edgeTC x)], R + 2⟩ := by
  unfold tail205
  have hw : IntKind.i64.wrap ((t.nodes.length : Int) - 1) = (t.nodes.length : Int) - 1 := wrap_id (by omega) (by omega)
  have hins : ∀ a : Int, (decide (0 ≤ a) && decide (a ≤ (t.nodes.length : Int) - 1)) = insideB t a := fun a => by
    unfold insideB; congr 1; rw [decide_eq_decide]; omega
  simp [typesC_0, typesC_1, edgeTC_1, encNodes, hr2, hr5, hw]
  refine call_val (spec216 _ x.fr 0 ((t.nodes.length : Int) - 1)) (by simp) ?_
  rw [hins]
  cases h3 : insideB t x.fr with
  | false =>
    simp
    exact ret_pure (by simp [resA, resOne]; rw [hr, h3]; simp) (by simp [AV.nm])
  | true =>
  simp [typesC_0, typesC_1, edgeTC_2, encNodes, hr2, hr5, hw]
  refine call_val (spec216 _ x.to 0 ((t.nodes.length : Int) - 1)) (by simp) ?_
  rw [hins]
  cases h4 : insideB t x.to with
  | false =>
    simp
    exact ret_pure (by simp [resA, resOne]; rw [hr, h3, h4]; simp) (by simp [AV.nm])
  | true =>
  simp [typesC_0, typesC_1, edgeTC_3, edgeTC_4, hr2, hr5]
  refine call_val (spec278 _ x.ol x.oh) (by simp) ?_
  cases h5 : boundedB x.ol x.oh with
  | false =>
    simp
    exact ret_pure (by simp [resA, resOne]; rw [hr, h3, h4, h5]; simp) (by simp [AV.nm])
  | true =>
  simp [typesC_0, typesC_1, edgeTC_5, edgeTC_6, hr2, hr5]
  refine call_val (spec278 _ x.il x.ih) (by simp) ?_
  cases h6 : boundedB x.il x.ih with
  | false =>
    simp
    exact ret_pure (by simp [resA, resOne]; rw [hr, h3, h4, h5, h6]; simp) (by simp [AV.nm])
  | true =>
    simp
    exact ret_pure (by simp [resA, resOne]; rw [hr, h3, h4, h5, h6]; simp) (by simp [AV.nm])

set_option maxRecDepth 100000 in
theorem spec205 (R : Nat) (t : TypesT) (ht : t.ok) (i : Nat) (hi : i < t.edges.length) : Spec Tryz.prog R 0 205 [.agg (typesC t), .int .i64 i] [] (.int .i64 (edgeE t i)) [] := by
  refine spec_intro hmix Tryz.func205 c205 (fun vs w => Tryz.call205 vs w) (by simp) (by simp [Tryz.ntmps205]) ?_
  show awb _ _ (.seq b205x0 (.seq b205x1 (.seq (.seq b205x2 (.cond (T 16) (.seq b205x3 .ret) .skip)) (.seq (.seq b205x4 (.block 0 b205x10)) tail205)))) (retK _ _ _ _ _) _
  generalize hbb : tail205 = bb
  have n1 := (ht.e _ (List.getElem_mem hi)).1
  have hE : edgeE t i = if isName t.edges[i].name = false then 2 else if ((t.edges.take i).any fun m => decide (m.name = t.edges[i].name)) = true then 5 else
    if (insideB t t.edges[i].fr && insideB t t.edges[i].to && boundedB t.edges[i].ol t.edges[i].oh && boundedB t.edges[i].il t.edges[i].ih) = true then 0 else 6 := by
    simp only [edgeE, List.getElem?_eq_getElem hi]
  have hlen : i * 7 + 7 ≤ t.edges.length * 7 := by omega
  have hat := edgeTCs_at t.edges i hi
  generalize hn : t.edges[i] = x at *
  have hel := ht.el
  have hnl := ht.nl
  simp [typesC, encETypes, hi, hlen, hat, edgeTC, spl, Nat.add_assoc]
  refine call_val (spec154 _ x.name n1) (by simp) ?_
  cases h1 : isName x.name with
  | false =>
    simp
    exact ret_pure (by simp [resA, resOne]; rw [hE, if_pos h1]) (by simp [AV.nm])
  | true =>
  simp [-Subtype.exists]
  refine loop_sub (ι := { m : Nat // m ≤ i ∧ ∀ j (hj : j < t.edges.length), j < m → decide (t.edges[j].name = x.name) = false }) (fun m => ⟨[(1, .int .i64 i), (2, .ptr R 0), (5, .ptr (R + 1) 0), (6, .int .i64 m.1)], [(R, typesC t), (R + 1, edgeTC x)], R + 2⟩) (fun m => i - m.1) ⟨0, by simp⟩ ?_ ?_ (Nat.le_refl _) ?_
  · simp
  · simp [typesC, encETypes, edgeTC]
  rintro ⟨m, hm, hq⟩
  rcases Nat.lt_or_ge m i with hmi | hmi
  · have hml : m < t.edges.length := by omega
    have g0 := edgeTCs_name t.edges m hml
    have hm7 : m * 7 < t.edges.length * 7 := by omega
    by_cases c1 : t.edges[m].name = x.name
    · simp [typesC, encETypes, hml, hmi, hm7, g0, edgeTC, c1]
      exact ret_pure (by simp [resA, resOne]; rw [hE, if_neg (by simp [h1]), if_pos (any_take_true hml hmi (by simpa using c1))]) (by simp [AV.nm])
    · simp [typesC, encETypes, hml, hmi, hm7, g0, edgeTC, c1, wrap_nat (show m < 4611686018427387904 by omega), -Subtype.exists]
      refine ⟨⟨m + 1, hmi, fun j hj hjm => ?_⟩, by simp only; omega, shift_sub ?_ ?_ (Nat.le_refl _)⟩
      · rcases Nat.lt_or_ge j m with h | h
        · exact hq j hj h
        · have : j = m := by omega
          subst this; simpa using c1
      · simp
      · simp [typesC, encETypes, edgeTC]
  have hno : ((t.edges.take i).any fun m => decide (m.name = x.name)) = false := any_take_false fun j hj hjk => hq j hj (by omega)
  rw [if_neg (by simp [h1]), if_neg (by simp [hno])] at hE
  simp [Nat.not_lt.2 hmi]
  subst hbb
  exact cut205 R t x hnl _ hE _ rfl rfl
end Go.Av
/- What the functions of type graphs compute, in the reference, third part. -/
namespace Go.Av
set_option linter.unusedVariables false
set_option linter.unusedSimpArgs false
open Go.Proofs

theorem spec120n (R : Nat) (t : TypesT) (x b : Int) (hx : x < 0) (hb : 0 ≤ b) : Spec Tryz.prog R 0 120 [.agg (typesC t), .int .i64 x, .int .i64 b] [] (.bool false) [] := by
  refine spec_intro hmix Tryz.func120 c120 (fun vs w => Tryz.call120 vs w) (by simp) (by simp [Tryz.ntmps120]) ?_
  show awb _ _ _ (retK _ _ _ _ _) _
  have h1 : ¬ x = b := by omega
  have h2 : ¬ 0 ≤ x := by omega
  simp [h1, h2]
  exact ret_pure (by simp [resA, resOne]) (by simp [AV.nm])

theorem spec120 (t : TypesT) (ht : t.ok) (b : Int) (hb : 0 ≤ b) : ∀ (a : Nat) (ha : a < t.nodes.length) (hp : Par t.nodes a) (R : Nat),
    Spec Tryz.prog R 0 120 [.agg (typesC t), .int .i64 a, .int .i64 b] [] (.bool (belowT t.nodes a b)) [] := by
  intro a
  induction a using Nat.strongRecOn with
  | ind a ih =>
  intro ha hp R
  refine spec_intro hmix Tryz.func120 c120 (fun vs w => Tryz.call120 vs w) (by simp) (by simp [Tryz.ntmps120]) ?_
  show awb _ _ _ (retK _ _ _ _ _) _
  have hpar := hp a _ (Nat.le_refl _) (List.getElem?_eq_getElem ha)
  have g1 := nodeTCs_get t.nodes a 1 ha (by omega)
  have hB := belowT_eq ha hp b
  by_cases h1 : (a : Int) = b
  · simp [h1]
    exact ret_pure (by simp [resA, resOne]; rw [hB]; simp [h1]) (by simp [AV.nm])
  have ha0 : (0 : Int) ≤ a := by omega
  by_cases h0 : 0 ≤ t.nodes[a].parent
  · obtain ⟨m, hm⟩ : ∃ m : Nat, t.nodes[a].parent = (m : Int) := ⟨_, (Int.toNat_of_nonneg h0).symm⟩
    have hma : m < a := by omega
    simp [h1, ha0, typesC, encNodes, ha, g1, nodeTC, hm, Nat.add_assoc]
    refine call_val (ih m hma (by omega) (fun j n hj hn => hp j n (by omega) hn) _) (by simp [typesC, encNodes]) ?_
    simp
    exact ret_pure (by simp [resA, resOne]; rw [hB, hm]; simp [h1]) (by simp [AV.nm])
  · simp [h1, ha0, typesC, encNodes, ha, g1, nodeTC, Nat.add_assoc]
    refine call_val (spec120n _ t t.nodes[a].parent b (by omega) hb) (by simp [typesC, encNodes]) ?_
    simp
    exact ret_pure (by simp [resA, resOne]; rw [hB]; simp [h1, h0]) (by simp [AV.nm])

theorem spec204 (R : Nat) (t : TypesT) (ht : t.ok) (h12 : t.nodes.length ≤ 12) (i : Nat) (hi : i < t.nodes.length) (hp : ∀ j n, j < i → t.nodes[j]? = some n → -1 ≤ n.parent ∧ n.parent < j) :
    Spec Tryz.prog R 0 204 [.agg (typesC t), .int .i64 i] [] (.int .i64 (nodeE t i)) [] := by
  refine spec_intro hmix Tryz.func204 c204 (fun vs w => Tryz.call204 vs w) (by simp) (by simp [Tryz.ntmps204]) ?_
  show awb _ _ _ (retK _ _ _ _ _) _
  obtain ⟨n1, n2, n3, n4⟩ := ht.n _ (List.getElem_mem hi)
  have hE : nodeE t i = if isName t.nodes[i].name = false then 2 else if ((t.nodes.take i).any fun m => decide (m.name = t.nodes[i].name)) = true then 5 else
    if t.nodes[i].parent < -1 ∨ t.nodes[i].parent ≥ i then 6 else if t.nodes[i].attrs.length > 4 then 3 else
    if (attrsT t.nodes i).length > 8 then 3 else ownE (attrsT t.nodes i) ((attrsT t.nodes i).length - t.nodes[i].attrs.length) := by
    simp only [nodeE, List.getElem?_eq_getElem hi]
  have hlen : i * 4 + 4 ≤ t.nodes.length * 4 := by omega
  have gn : (t.nodes[i]? = some t.nodes[i]) := List.getElem?_eq_getElem hi
  have hat := nodeTCs_at t.nodes i hi
  generalize hn : t.nodes[i] = n at *
  simp [typesC, encNodes, hi, hlen, hat, nodeTC, spl, Nat.add_assoc]
  refine call_val (spec154 _ n.name n1) (by simp) ?_
  cases h1 : isName n.name with
  | false =>
    simp
    exact ret_pure (by simp [resA, resOne]; rw [hE, if_pos h1]) (by simp [AV.nm])
  | true =>
  simp [-Subtype.exists]
  refine loop_sub (ι := { m : Nat // m ≤ i ∧ ∀ j (hj : j < t.nodes.length), j < m → decide (t.nodes[j].name = n.name) = false }) (fun m => ⟨[(1, .int .i64 i), (2, .ptr R 0), (5, .ptr (R + 1) 0), (6, .int .i64 m.1)], [(R, typesC t), (R + 1, nodeTC n)], R + 2⟩) (fun m => i - m.1) ⟨0, by simp⟩ ?_ ?_ (Nat.le_refl _) ?_
  · simp
  · simp [typesC, encNodes, nodeTC]
  rintro ⟨m, hm, hq⟩
  rcases Nat.lt_or_ge m i with hmi | hmi
  · have hml : m < t.nodes.length := by omega
    have g0 := nodeTCs_name t.nodes m hml
    have hm7 : m * 4 < t.nodes.length * 4 := by omega
    by_cases c1 : t.nodes[m].name = n.name
    · simp [typesC, encNodes, hml, hmi, hm7, g0, nodeTC, c1]
      exact ret_pure (by simp [resA, resOne]; rw [hE, if_neg (by simp [h1]), if_pos (any_take_true hml hmi (by simpa using c1))]) (by simp [AV.nm])
    · simp [typesC, encNodes, hml, hmi, hm7, g0, nodeTC, c1, wrap_nat (show m < 4611686018427387904 by omega), -Subtype.exists]
      refine ⟨⟨m + 1, hmi, fun j hj hjm => ?_⟩, by simp only; omega, shift_sub ?_ ?_ (Nat.le_refl _)⟩
      · rcases Nat.lt_or_ge j m with h | h
        · exact hq j hj h
        · have : j = m := by omega
          subst this; simpa using c1
      · simp
      · simp [typesC, encNodes, nodeTC]
  have hno : ((t.nodes.take i).any fun m => decide (m.name = n.name)) = false := any_take_false fun j hj hjk => hq j hj (by omega)
  rw [if_neg (by simp [h1]), if_neg (by simp [hno])] at hE
  have hw : IntKind.i64.wrap ((i : Int) - 1) = (i : Int) - 1 := wrap_id (by omega) (by omega)
  simp [typesC, encNodes, nodeTC, Nat.not_lt.2 hmi, hw]
  refine call_val (spec216 _ n.parent (-1) ((i : Int) - 1)) (by simp) ?_
  cases h3 : (decide (-1 ≤ n.parent) && decide (n.parent ≤ (i : Int) - 1)) with
  | false =>
    have h3' : n.parent < -1 ∨ n.parent ≥ i := by
      simp only [Bool.and_eq_false_iff, decide_eq_false_iff_not] at h3; omega
    simp
    exact ret_pure (by simp [resA, resOne]; rw [hE, if_pos h3']) (by simp [AV.nm])
  | true =>
  have h3' : -1 ≤ n.parent ∧ n.parent < i := by
    simp only [Bool.and_eq_true, decide_eq_true_eq] at h3; omega
  rw [if_neg (by omega)] at hE
  have hpar : Par t.nodes i := par_step hp n gn h3'.1 h3'.2
  have hall := attrsT_eq hi hpar
  rw [hn] at hall
  simp [Nat.add_assoc]
  refine call_own (spec227 t ht h12 i hi hpar (R + 2)) (by simp [typesC, encNodes]) ?_
  have hok : ∀ x ∈ attrsT t.nodes i, x.ok := attrsT_mem (fun n hn => (ht.n n hn).2.2.1) i
  have hge : n.attrs.length ≤ (attrsT t.nodes i).length := by rw [hall, List.length_append]; omega
  generalize attrsT t.nodes i = all at *
  by_cases h5 : n.attrs.length > 4
  · have h5' : (4 : Int) < n.attrs.length := by omega
    simp [encAttrs, h5']
    exact ret_pure (by simp [resA, resOne]; rw [hE, if_pos h5]) (by simp [AV.nm])
  have h5' : ¬ (4 : Int) < n.attrs.length := by omega
  rw [if_neg h5] at hE
  by_cases h6 : all.length > 8
  · have h6' : (8 : Int) < all.length := by omega
    simp [encAttrs, h5', h6']
    exact ret_pure (by simp [resA, resOne]; rw [hE, if_pos h6]) (by simp [AV.nm])
  have h6' : ¬ (8 : Int) < all.length := by omega
  rw [if_neg h6] at hE
  have hw : IntKind.i64.wrap ((all.length : Int) - n.attrs.length) = ((all.length - n.attrs.length : Nat) : Int) := by rw [wrap_id (by omega) (by omega)]; omega
  simp [encAttrs, h5', h6', hw]
  generalize hf : all.length - n.attrs.length = first at *
  refine loop_intro (ι := { j : Nat // first + j ≤ all.length ∧ ∀ i, i < j → ownAt all (first + i) = none }) (fun j => ⟨[(7, encAttrs all), (8, .int .i64 ((first + j.1 : Nat) : Int))], [], R⟩) (fun j => all.length - first - j.1) ⟨0, by simp; omega⟩ ?_ ?_
  · refine shift_ren [] [(R + 2, attrCs all)] [] (by omega) ?_ ?_ ?_ ?_
    · simp [NsOK]
    · simp [FzL, look, hset]
    · simp [look, lookF, encAttrs]
    · simp [HpTo_nil]
  intro jj
  obtain ⟨j, hj1⟩ : ∃ j, jj.1 = j := ⟨_, rfl⟩
  have hj : first + j ≤ all.length := by rw [← hj1]; exact jj.2.1
  have hq : ∀ i, i < j → ownAt all (first + i) = none := by rw [← hj1]; exact jj.2.2
  show awb _ _ _ _ ⟨[(7, encAttrs all), (8, .int .i64 ((first + jj.1 : Nat) : Int))], [], R⟩
  rw [hj1]
  rcases Nat.lt_or_ge (first + j) all.length with hlt | hge2
  · show awb _ _ _ _ ⟨[(7, encAttrs all), (8, .int .i64 ((first + j : Nat) : Int))], [], R⟩
    obtain ⟨k, hkk⟩ : ∃ k, first + j = k := ⟨_, rfl⟩
    rw [hkk]
    have hlt : k < all.length := by omega
    have g0 := attrCs_name all k hlt
    have hb0 : k * 4 < all.length * 4 := by omega
    have hxo := hok _ (List.getElem_mem hlt)
    have hA := ownAt_eq hlt
    have hw2 : IntKind.i64.wrap ((k : Int) + 1) = ((first + (j + 1) : Nat) : Int) := by rw [wrap_id (by omega) (by omega)]; omega
    generalize hx : all[k] = x at *
    simp [encAttrs, hlt, g0, hb0, -Subtype.exists]
    refine call_val (spec154 _ x.name hxo.1) (by simp) ?_
    cases d1 : isName x.name with
    | false =>
      have hR : attributeE x (all.take k) = 2 := by rw [attributeE_own, if_pos d1]
      simp
      exact ret_pure (by
        simp [resA, resOne]; rw [hE]; unfold ownE
        rw [firstE_some (k := j) (x := (2 : Int)) (by omega) hq (by rw [hkk, hA, hR]; rfl)]; rfl) (by simp [AV.nm])
    | true =>
    simp [-Subtype.exists]
    refine loop_sub (ι := { m : Nat // m ≤ k ∧ ∀ j (hj : j < all.length), j < m → decide (all[j].name = x.name) = false }) (fun m => ⟨[(7, encAttrs all), (8, .int .i64 (k : Int)), (9, .int .i64 m.1)], [], R⟩) (fun m => k - m.1) ⟨0, by simp⟩ ?_ ?_ (Nat.le_refl _) ?_
    · simp [encAttrs]
    · simp
    rintro ⟨m, hm, hq2⟩
    rcases Nat.lt_or_ge m k with hmk | hmk
    · have hml : m < all.length := by omega
      have gm := attrCs_name all m hml
      have hm4 : m * 4 < all.length * 4 := by omega
      by_cases c1 : all[m].name = x.name
      · have hR : attributeE x (all.take k) = 5 := by rw [attributeE_own, if_neg (by simp [d1]), if_pos (any_take_true hml hmk (by simpa using c1))]
        simp [encAttrs, hlt, hml, hmk, gm, hm4, g0, hb0, c1]
        exact ret_pure (by
          simp [resA, resOne]; rw [hE]; unfold ownE
          rw [firstE_some (k := j) (x := (5 : Int)) (by omega) hq (by rw [hkk, hA, hR]; rfl)]; rfl) (by simp [AV.nm])
      · simp [encAttrs, hlt, hml, hmk, gm, hm4, g0, hb0, c1, wrap_nat (show m < 4611686018427387904 by omega), -Subtype.exists]
        refine ⟨⟨m + 1, hmk, fun j hj hjm => ?_⟩, by simp only; omega, shift_sub ?_ ?_ (Nat.le_refl _)⟩
        · rcases Nat.lt_or_ge j m with h | h
          · exact hq2 j hj h
          · have : j = m := by omega
            subst this; simpa using c1
        · simp [encAttrs]
        · simp
    have hno2 : ((all.take k).any fun y => decide (y.name = x.name)) = false := any_take_false fun j hj hjk => hq2 j hj (by omega)
    have hR : attributeE x (all.take k) = attrOwnE x := by rw [attributeE_own, if_neg (by simp [d1]), if_neg (by simp [hno2])]
    rw [hR] at hA
    have hb4 : k * 4 + 4 ≤ all.length * 4 := by omega
    have hak := attrCs_at all k hlt
    rw [hx] at hak
    simp [encAttrs, Nat.not_lt.2 hmk, hlt, hb4, hak, -Subtype.exists]
    refine call_val (spec277 _ x hxo) (by simp) ?_
    by_cases h7 : attrOwnE x = 0
    · simp [h7, hw2, -Subtype.exists, -Int.natCast_add]
      refine ⟨⟨j + 1, by omega, fun i hi => ?_⟩, ?_, shift_sub ?_ ?_ (Nat.le_refl _)⟩
      · rcases Nat.lt_or_ge i j with h | h
        · exact hq i h
        · have : i = j := by omega
          subst this; rw [hkk, hA]; simp [h7]
      · simp only; omega
      · simp [encAttrs]
      · simp
    · simp [h7]
      exact ret_pure (by
        simp [resA, resOne]; rw [hE]; unfold ownE
        rw [firstE_some (k := j) (x := attrOwnE x) (by omega) hq (by rw [hkk, hA]; simp [h7])]; rfl) (by simp [AV.nm])
  · have hlt' : ¬ ((first + j : Nat) : Int) < all.length := by omega
    simp [encAttrs, hlt', -Int.natCast_add]
    exact ret_pure (by
      simp [resA, resOne]; rw [hE]; unfold ownE
      rw [firstE_none fun i hi => hq i (by omega)]; rfl) (by simp [AV.nm])
end Go.Av
/- What the functions of type graphs and graphs compute, in the reference, fourth part. -/
namespace Go.Av
set_option linter.unusedVariables false
set_option linter.unusedSimpArgs false
open Go.Proofs

theorem spec99 (R : Nat) (t : TypesT) (ht : t.ok) : Spec Tryz.prog R 0 99 [.agg (typesC t)] [] (.tup [.str (validT t).1, .int .i64 (validT t).2]) [] := by
  refine spec_intro hmix Tryz.func99 c99 (fun vs w => Tryz.call99 vs w) (by simp) (by simp [Tryz.ntmps99]) ?_
  show awb _ _ _ (retK _ _ _ _ _) _
  by_cases h0 : t.nodes.length = 0
  · have h0' : t.nodes = [] := List.eq_nil_of_length_eq_zero h0
    simp [typesC, encNodes, h0']
    exact ret_pure (by simp [resA, resOne, validT, h0]) (by simp [AV.nm])
  have h0' : ¬ t.nodes = [] := fun h => h0 (by simp [h])
  by_cases h1 : t.nodes.length > 12
  · have h1' : (12 : Int) < t.nodes.length := by omega
    simp [typesC, encNodes, h0', h1']
    exact ret_pure (by simp [resA, resOne, validT, h0, h1]) (by simp [AV.nm])
  have h1' : ¬ (12 : Int) < t.nodes.length := by omega
  by_cases h2 : t.edges.length > 20
  · have h2' : (20 : Int) < t.edges.length := by omega
    simp [typesC, encNodes, encETypes, h0', h1', h2']
    exact ret_pure (by simp [resA, resOne, validT, h0, h2]) (by simp [AV.nm])
  have h2' : ¬ (20 : Int) < t.edges.length := by omega
  rw [validT_loop h0 (by omega)]
  simp [typesC, encNodes, encETypes, h0', h1', h2']
  refine loop_sub (ι := { k : Nat // k ≤ t.nodes.length ∧ ∀ j, j < k → nodeAt t j = none }) (fun k => ⟨[(1, .ptr R 0), (4, .int .i64 k.1)], [(R, typesC t)], R + 1⟩) (fun k => t.nodes.length - k.1) ⟨0, by simp⟩ ?_ ?_ (Nat.le_refl _) ?_
  · simp
  · simp [typesC, encNodes, encETypes]
  rintro ⟨k, hk, hp⟩
  have hz : ∀ j, j < k → nodeE t j = 0 := fun j hj => by
    have := hp j hj
    unfold nodeAt at this
    by_cases h : nodeE t j = 0
    · exact h
    · simp [h] at this
  rcases Nat.lt_or_ge k t.nodes.length with hlt | hge
  · simp [typesC, encNodes, hlt, -Subtype.exists]
    refine call_val (spec204 _ t ht (by omega) k hlt (fun j n hj hn => nodeE_parent (hz j hj) n hn)) (by simp [typesC, encNodes]) ?_
    by_cases h3 : nodeE t k = 0
    · simp [h3, wrap_nat (show k < 4611686018427387904 by omega), -Subtype.exists]
      refine ⟨⟨k + 1, hlt, fun j hj => ?_⟩, by simp only; omega, shift_sub ?_ ?_ (Nat.le_refl _)⟩
      · rcases Nat.lt_or_ge j k with h | h
        · exact hp j h
        · have : j = k := by omega
          subst this; simp [nodeAt, h3]
      · simp
      · simp [typesC, encNodes, encETypes]
    · have g0 := nodeTCs_name t.nodes k hlt
      have hk4 : k * 4 < t.nodes.length * 4 := by omega
      simp [h3, hlt, g0, hk4]
      exact ret_pure (by simp [resA, resOne]; rw [firstE_some hlt hp (x := (t.nodes[k].name, nodeE t k)) (by simp [nodeAt, h3, hlt])]; simp) (by simp [AV.nm])
  · have hno : firstE t.nodes.length (nodeAt t) = none := firstE_none fun j hj => hp j (by omega)
    rw [hno]
    simp [typesC, encNodes, encETypes, Nat.not_lt.2 hge]
    refine loop_sub (ι := { k : Nat // k ≤ t.edges.length ∧ ∀ j, j < k → edgeAt t j = none }) (fun k => ⟨[(1, .ptr R 0), (6, .int .i64 k.1)], [(R, typesC t)], R + 1⟩) (fun k => t.edges.length - k.1) ⟨0, by simp⟩ ?_ ?_ (Nat.le_refl _) ?_
    · simp
    · simp [typesC, encNodes, encETypes]
    rintro ⟨m, hm, hq⟩
    rcases Nat.lt_or_ge m t.edges.length with hlt | hge
    · simp [typesC, encETypes, hlt, -Subtype.exists]
      refine call_val (spec205 _ t ht m hlt) (by simp [typesC, encETypes]) ?_
      by_cases h3 : edgeE t m = 0
      · simp [h3, wrap_nat (show m < 4611686018427387904 by omega), -Subtype.exists]
        refine ⟨⟨m + 1, hlt, fun j hj => ?_⟩, by simp only; omega, shift_sub ?_ ?_ (Nat.le_refl _)⟩
        · rcases Nat.lt_or_ge j m with h | h
          · exact hq j h
          · have : j = m := by omega
            subst this; simp [edgeAt, h3]
        · simp
        · simp [typesC, encNodes, encETypes]
      · have g0 := edgeTCs_name t.edges m hlt
        have hk7 : m * 7 < t.edges.length * 7 := by omega
        simp [h3, hlt, g0, hk7]
        exact ret_pure (by simp [resA, resOne]; rw [firstE_some hlt hq (x := (t.edges[m].name, edgeE t m)) (by simp [edgeAt, h3, hlt])]; simp) (by simp [AV.nm])
    · simp [typesC, encETypes, Nat.not_lt.2 hge]
      exact ret_pure (by simp [resA, resOne]; rw [firstE_none fun j hj => hq j (by omega)]; simp) (by simp [AV.nm])

theorem spec215 (R : Nat) (t : TypesT) (ht : t.ok) (a b : Int) : Spec Tryz.prog R 0 215 [.agg (typesC t), .int .i64 a, .int .i64 b] [] (.int .i64 (givenE t [a, b])) [] := by
  refine spec_intro hmix Tryz.func215 c215 (fun vs w => Tryz.call215 vs w) (by simp) (by simp [Tryz.ntmps215]) ?_
  show awb _ _ _ (retK _ _ _ _ _) _
  have hnl := ht.nl
  have hw : IntKind.i64.wrap ((t.nodes.length : Int) - 1) = (t.nodes.length : Int) - 1 := wrap_id (by omega) (by omega)
  have hins : ∀ a : Int, (decide (0 ≤ a) && decide (a ≤ (t.nodes.length : Int) - 1)) = insideB t a := fun a => by
    unfold insideB; congr 1; rw [decide_eq_decide]; omega
  simp [typesC]
  refine call_val (spec99 _ t ht) (by simp [typesC]) ?_
  by_cases h1 : (validT t).2 = 0
  case neg =>
    simp [h1]
    exact ret_pure (by simp [resA, resOne, givenE, h1]) (by simp [AV.nm])
  simp [h1, encNodes, hw]
  refine call_val (spec216 _ a 0 ((t.nodes.length : Int) - 1)) (by simp) ?_
  rw [hins]
  cases ha : insideB t a with
  | false =>
    simp
    exact ret_pure (by simp [resA, resOne, givenE, h1, ha]) (by simp [AV.nm])
  | true =>
  simp [hw]
  refine call_val (spec216 _ b 0 ((t.nodes.length : Int) - 1)) (by simp) ?_
  rw [hins]
  cases hb : insideB t b with
  | false =>
    simp
    exact ret_pure (by simp [resA, resOne, givenE, h1, ha, hb]) (by simp [AV.nm])
  | true =>
    simp
    exact ret_pure (by simp [resA, resOne, givenE, h1, ha, hb]) (by simp [AV.nm])

theorem validT_edges {t : TypesT} (h : (validT t).2 = 0) (j : Nat) (hj : j < t.edges.length) : 0 ≤ t.edges[j].fr ∧ 0 ≤ t.edges[j].to := by
  have hv := validT_nodes h
  unfold validT at h
  split at h
  · cases h
  split at h
  · cases h
  have hno : firstE t.nodes.length (nodeAt t) = none := firstE_none fun i hi => by simp [nodeAt, hv i hi]
  rw [hno, Option.none_or] at h
  have hz : edgeE t j = 0 := by
    cases hx : firstE t.edges.length (edgeAt t) with
    | some x =>
      rw [hx] at h
      obtain ⟨k, hk, hk2⟩ := List.exists_of_findSome?_eq_some hx
      unfold edgeAt at hk2
      split at hk2
      · cases hk2; exact absurd h (by assumption)
      · cases hk2
    | none =>
      have hh := firstE_of_none hx j hj
      unfold edgeAt at hh
      by_cases h0 : edgeE t j = 0
      · exact h0
      · simp [h0] at hh
  simp only [edgeE, List.getElem?_eq_getElem hj] at hz
  split at hz
  · cases hz
  split at hz
  · cases hz
  split at hz
  · rename_i hb
    simp only [insideB, Bool.and_eq_true, decide_eq_true_eq] at hb
    exact ⟨hb.1.1.1.1, hb.1.1.2.1⟩
  · cases hz

theorem spec117 (R : Nat) (t : TypesT) (ht : t.ok) (k a b : Int) : Spec Tryz.prog R 0 117 [.agg (typesC t), .int .i64 k, .int .i64 a, .int .i64 b] [] (.bool (fitsT t k a b)) [] := by
  refine spec_intro hmix Tryz.func117 c117 (fun vs w => Tryz.call117 vs w) (by simp) (by simp [Tryz.ntmps117]) ?_
  show awb _ _ _ (retK _ _ _ _ _) _
  have hel := ht.el
  have hw : IntKind.i64.wrap ((t.edges.length : Int) - 1) = (t.edges.length : Int) - 1 := wrap_id (by omega) (by omega)
  simp [typesC]
  refine call_val (spec215 _ t ht a b) (by simp [typesC]) ?_
  have g := given2 (t := t) a b
  by_cases h1 : givenE t [a, b] = 0
  case neg =>
    have g1 : (decide ((validT t).2 = 0) && insideB t a && insideB t b) = false := by rw [← g]; simpa using h1
    have hz : fitsT t k a b = false := by unfold fitsT; rw [g1]; rfl
    simp [h1]
    exact ret_pure (by simp [resA, resOne, hz]) (by simp [AV.nm])
  have g1 : (decide ((validT t).2 = 0) && insideB t a && insideB t b) = true := by rw [← g]; simpa using h1
  have g2 := g1
  simp only [Bool.and_eq_true, decide_eq_true_eq] at g2
  simp [h1, encETypes, hw]
  refine call_val (spec216 _ k 0 ((t.edges.length : Int) - 1)) (by simp) ?_
  cases hk : (decide (0 ≤ k) && decide (k ≤ (t.edges.length : Int) - 1)) with
  | false =>
    have hz : fitsT t k a b = false := by
      unfold fitsT
      simp only [Bool.and_eq_false_iff, decide_eq_false_iff_not] at hk ⊢
      omega
    simp
    exact ret_pure (by simp [resA, resOne, hz]) (by simp [AV.nm])
  | true =>
  simp only [Bool.and_eq_true, decide_eq_true_eq] at hk
  obtain ⟨j, rfl⟩ : ∃ j : Nat, k = (j : Int) := ⟨_, (Int.toNat_of_nonneg (by omega)).symm⟩
  have hj : j < t.edges.length := by omega
  obtain ⟨m, rfl, hm⟩ := inside_nat g2.1.2
  obtain ⟨o, rfl, ho⟩ := inside_nat g2.2
  have hF := validT_edges g2.1.1 j hj
  have e1 := edgeTCs_get t.edges j 1 hj (by omega)
  have e2 := edgeTCs_get t.edges j 2 hj (by omega)
  simp [hj, e1, edgeTC]
  refine call_val (spec120 t ht t.edges[j].fr hF.1 m hm (validT_par g2.1.1 m) _) (by simp [typesC]) ?_
  cases b1 : belowT t.nodes m t.edges[j].fr with
  | false =>
    simp
    exact ret_pure (by simp [resA, resOne, fitsT, hj, b1]) (by simp [AV.nm])
  | true =>
  simp [hj, e2, edgeTC]
  refine call_val (spec120 t ht t.edges[j].to hF.2 o ho (validT_par g2.1.1 o) _) (by simp [typesC, encETypes]) ?_
  simp
  exact ret_pure (by simp [resA, resOne, fitsT, hj, b1, g2.1.1, g2.1.2, g2.2]) (by simp [AV.nm])
end Go.Av
/- What the functions of graphs and hosts compute, in the reference. -/
namespace Go.Av
set_option linter.unusedVariables false
set_option linter.unusedSimpArgs false
open Go.Proofs

theorem spec130 (R : Nat) (t : TypesT) (ht : t.ok) (a : Int) : Spec Tryz.prog R 0 130 [.agg (typesC t), .int .i64 a] [] (.tup [encAttrs (attrsE t a).1, .int .i64 (attrsE t a).2]) [] := by
  refine spec_intro hmix Tryz.func130 c130 (fun vs w => Tryz.call130 vs w) (by simp) (by simp [Tryz.ntmps130]) ?_
  show awb _ _ _ (retK _ _ _ _ _) _
  have g : attrsE t a = if givenE t [a, a] = 0 then (attrsT t.nodes a.toNat, 0) else ([], givenE t [a, a]) := by
    unfold givenE attrsE
    by_cases h : (validT t).2 = 0
    · cases ha : insideB t a <;> simp [h, ha]
    · simp [h]
  simp [typesC, Nat.add_assoc]
  refine call_val (spec215 _ t ht a a) (by simp [typesC]) ?_
  rw [g]
  by_cases h1 : givenE t [a, a] = 0
  case neg =>
    simp [h1]
    refine ret_ren (v := .tup [.nilsl, .int .i64 (givenE t [a, a])]) ?_ [] [] [] ?_ ?_ ?_ ?_
    · simp [resA, resOne]
    · simp [NsOK]
    · simp [FzL]
    · simp [encAttrs, attrCs]
    · simp [HpTo_nil]
  have g1 : (decide ((validT t).2 = 0) && insideB t a && insideB t a) = true := by rw [← given2]; simpa using h1
  simp only [Bool.and_eq_true, decide_eq_true_eq] at g1
  have hv := g1.1.1
  obtain ⟨m, rfl, hm⟩ := inside_nat g1.2
  have h12 := (validT_len hv).2.1
  have hall : (attrsT t.nodes m).length ≤ 13 * 1048576 := Nat.le_trans (attrsT_len (M := 1048576) (fun n hn => (ht.n n hn).2.1) m) (Nat.mul_le_mul_right _ (by omega))
  have hok : ∀ x ∈ attrsT t.nodes m, x.ok := attrsT_mem (fun n hn => (ht.n n hn).2.2.1) m
  simp [h1, Nat.add_assoc]
  refine call_own (spec227 t ht h12 m hm (validT_par hv m) (R + 1)) (by simp [typesC]) ?_
  simp
  generalize attrsT t.nodes m = all at *
  refine loop_intro (ι := { k : Nat // k ≤ all.length }) (fun k => ⟨[(7, .osl R 0 k.1 none 4), (8, encAttrs all), (9, .int .i64 k.1)], [(R, attrCs (all.take k.1))], R + 1⟩) (fun k => all.length - k.1) ⟨0, by simp⟩ ?_ ?_
  · refine shift_phantom.trans ?_
    simp [hset, Nat.add_assoc]
    refine shift_ren [(R + 2, R)] [(R + 1, attrCs all)] [R + 2] (by omega) ?_ ?_ ?_ ?_
    · simp [NsOK]
    · simp [FzL, look]
    · simp [look, lookF, encAttrs]
    · simp [HpTo_cons, HpTo_nil, look, attrCs, toL_nil]
  rintro ⟨k, hk⟩
  rcases Nat.lt_or_ge k all.length with hlt | hge
  · have h4 : k * 4 + 4 ≤ all.length * 4 := by omega
    have hkk := hok _ (List.getElem_mem hlt)
    have hn1 : all[k].names.length ≤ 4294967296 := by have := hkk.2.1; omega
    have hk1 : k + 1 ≤ 4294967296 := by omega
    have hkm : min k all.length = k := by omega
    have hkl : k ≤ all.length := hk
    simp [encAttrs, hlt, h4, attrCs_at _ _ hlt, attrC, encStrs, aFill, repL, spl, hn1, hk1, hkm, hkl, Nat.add_assoc, -Subtype.exists, wrap_nat (show k < 4611686018427387904 by omega)]
    refine ⟨⟨k + 1, hlt⟩, by simp only; omega, shift_ren [(R + 5, R)] [(R + 3, all[k].names.map .str)] [R + 5] (by omega) ?_ ?_ ?_ ?_⟩
    · simp [NsOK]
    · simp [FzL, look]
    · simp [look, lookF, encAttrs]
    · have e1 : all.take (k + 1) = all.take k ++ [all[k]] := by
        rw [List.take_add_one]; simp [hlt]
      have hk1m : min (k + 1) all.length = k + 1 := by omega
      simp [HpTo_cons, HpTo_nil, look, hk1m]
      rw [List.take_of_length_le (l := attrCs (all.take k)) (by simp; omega), List.take_of_length_le (by simp; omega), e1, attrCs_append]
      refine toL_append (toL_refl (nmL_attrCs _)) ?_
      simp [attrCs, attrC, toL_cons, toL_nil, lookF, encStrs]
      exact (List.take_of_length_le (by simp)).symm
  · have ek : k = all.length := by omega
    subst ek
    simp [encAttrs]
    refine ret_ren (v := .tup [.osl R 0 all.length none 4, .int .i64 0]) ?_ [] [(R, attrCs all)] [] ?_ ?_ ?_ ?_
    · simp [resA, resOne]
    · simp [NsOK]
    · simp [FzL, look]
    · simp [lookF, encAttrs]
    · simp [HpTo_nil]

theorem spec206 (R : Nat) (a : Int) : Spec Tryz.prog R 0 206 [.int .i64 a] [] (.bool (kindG a)) [] := by
  refine spec_intro hmix Tryz.func206 c206 (fun vs w => Tryz.call206 vs w) (by simp) (by simp [Tryz.ntmps206]) ?_
  show awb _ _ _ (retK _ _ _ _ _) _
  by_cases h1 : 0 ≤ a <;> by_cases h2 : a ≤ 99 <;>
    (simp [h1, h2]
     exact ret_pure (by simp [resA, resOne, kindG, h1, h2]) (by simp [AV.nm]))

theorem spec207 (R : Nat) (x : Int × Int × Int) (n : Nat) : Spec Tryz.prog R 0 207 [.agg (edgeC x), .int .i64 n] [] (.bool (rightG x n)) [] := by
  refine spec_intro hmix Tryz.func207 c207 (fun vs w => Tryz.call207 vs w) (by simp) (by simp [Tryz.ntmps207]) ?_
  show awb _ _ _ (retK _ _ _ _ _) _
  have hR : rightG x n = (kindG x.1 && (decide (0 ≤ x.2.1) && (decide (x.2.1 < n) && (decide (0 ≤ x.2.2) && decide (x.2.2 < n))))) := by
    have e : ∀ a : Int, decide (a ≤ (n : Int) - 1) = decide (a < n) := fun a => by rw [decide_eq_decide]; omega
    unfold rightG
    rw [e, e]
    simp only [Bool.and_assoc]
  rw [hR]
  simp [edgeC]
  refine call_val (spec206 _ x.1) (by simp) ?_
  cases h0 : kindG x.1 with
  | false =>
    simp
    exact ret_pure (by simp [resA, resOne]) (by simp [AV.nm])
  | true =>
  by_cases h1 : 0 ≤ x.2.1
  · by_cases h2 : x.2.1 < n
    · by_cases h3 : 0 ≤ x.2.2
      · by_cases h4 : x.2.2 < n <;>
          (simp [h1, h2, h3, h4]
           exact ret_pure (by simp [resA, resOne, h1, h2, h3, h4]) (by simp [AV.nm]))
      · simp [h1, h2, h3]
        exact ret_pure (by simp [resA, resOne, h1, h2, h3]) (by simp [AV.nm])
    · simp [h1, h2]
      exact ret_pure (by simp [resA, resOne, h1, h2]) (by simp [AV.nm])
  · simp [h1]
    exact ret_pure (by simp [resA, resOne, h1]) (by simp [AV.nm])

theorem spec100 (R : Nat) (n : List Int) (e : List (Int × Int × Int)) : Spec Tryz.prog R 0 100 [.agg (graphC n e)] [] (.int .i64 (validG n e)) [] := by
  refine spec_intro hmix Tryz.func100 c100 (fun vs w => Tryz.call100 vs w) (by simp) (by simp [Tryz.ntmps100]) ?_
  show awb _ _ _ (retK _ _ _ _ _) _
  by_cases h1 : n.length > 40
  · have h1' : (40 : Int) < n.length := by omega
    simp [graphC, encInts, encEdges, h1']
    exact ret_pure (by simp [resA, resOne, validG, h1]) (by simp [AV.nm])
  have h1' : ¬ (40 : Int) < n.length := by omega
  by_cases h2 : e.length > 80
  · have h2' : (80 : Int) < e.length := by omega
    simp [graphC, encInts, encEdges, h1', h2']
    exact ret_pure (by simp [resA, resOne, validG, h2]) (by simp [AV.nm])
  have h2' : ¬ (80 : Int) < e.length := by omega
  have k1 : ¬ (n.length > 40 ∨ e.length > 80) := by omega
  have hV : validG n e = if n.all kindG = false then 6 else if (e.all fun x => rightG x n.length) = false then 6 else 0 := by unfold validG; rw [if_neg k1]
  simp [graphC, encInts, encEdges, h1', h2']
  refine loop_sub (ι := { k : Nat // k ≤ n.length ∧ ∀ j (hj : j < n.length), j < k → kindG n[j] = true }) (fun k => ⟨[(1, .ptr R 0), (3, .int .i64 k.1)], [(R, graphC n e)], R + 1⟩) (fun k => n.length - k.1) ⟨0, by simp⟩ ?_ ?_ (Nat.le_refl _) ?_
  · simp
  · simp [graphC, encInts, encEdges]
  rintro ⟨k, hk, hp⟩
  rcases Nat.lt_or_ge k n.length with hlt | hge
  · simp [graphC, encInts, encEdges, hlt, -Subtype.exists]
    refine call_val (spec206 _ n[k]) (by simp) ?_
    cases h3 : kindG n[k] with
    | false =>
      have hz : n.all kindG = false := by rw [List.all_eq_false]; exact ⟨n[k], List.getElem_mem hlt, by simp [h3]⟩
      simp
      exact ret_pure (by simp [resA, resOne]; rw [hV, if_pos hz]) (by simp [AV.nm])
    | true =>
      simp [wrap_nat (show k < 4611686018427387904 by omega), -Subtype.exists]
      refine ⟨⟨k + 1, hlt, fun j hj hjk => ?_⟩, by simp only; omega, shift_sub ?_ ?_ (Nat.le_refl _)⟩
      · rcases Nat.lt_or_ge j k with h | h
        · exact hp j hj h
        · have : j = k := by omega
          subst this; exact h3
      · simp
      · simp [graphC, encInts, encEdges]
  have hz : n.all kindG = true := by
    rw [List.all_eq_true]
    intro x hx
    obtain ⟨j, hj, rfl⟩ := List.getElem_of_mem hx
    exact hp j hj (by omega)
  rw [if_neg (by rw [hz]; simp)] at hV
  simp [graphC, encInts, encEdges, Nat.not_lt.2 hge]
  refine loop_sub (ι := { k : Nat // k ≤ e.length ∧ ∀ j (hj : j < e.length), j < k → rightG e[j] n.length = true }) (fun k => ⟨[(1, .ptr R 0), (4, .int .i64 k.1)], [(R, graphC n e)], R + 1⟩) (fun k => e.length - k.1) ⟨0, by simp⟩ ?_ ?_ (Nat.le_refl _) ?_
  · simp
  · simp [graphC, encInts, encEdges]
  rintro ⟨k, hk, hp⟩
  rcases Nat.lt_or_ge k e.length with hlt | hge
  · have hl3 : k * 3 + 3 ≤ e.length * 3 := by omega
    simp [graphC, encInts, encEdges, hlt, hl3, edgeCs_at _ _ hlt, -Subtype.exists]
    refine call_val (spec207 _ e[k] n.length) (by simp) ?_
    cases h3 : rightG e[k] n.length with
    | false =>
      have hz : (e.all fun x => rightG x n.length) = false := by rw [List.all_eq_false]; exact ⟨e[k], List.getElem_mem hlt, by simp [h3]⟩
      simp
      exact ret_pure (by simp [resA, resOne]; rw [hV, if_pos hz]) (by simp [AV.nm])
    | true =>
      simp [wrap_nat (show k < 4611686018427387904 by omega), -Subtype.exists]
      refine ⟨⟨k + 1, hlt, fun j hj hjk => ?_⟩, by simp only; omega, shift_sub ?_ ?_ (Nat.le_refl _)⟩
      · rcases Nat.lt_or_ge j k with h | h
        · exact hp j hj h
        · have : j = k := by omega
          subst this; exact h3
      · simp
      · simp [graphC, encInts, encEdges]
  have hz : (e.all fun x => rightG x n.length) = true := by
    rw [List.all_eq_true]
    intro x hx
    obtain ⟨j, hj, rfl⟩ := List.getElem_of_mem hx
    exact hp j hj (by omega)
  simp [graphC, encInts, encEdges, Nat.not_lt.2 hge]
  exact ret_pure (by simp [resA, resOne]; rw [hV, if_neg (by rw [hz]; simp)]) (by simp [AV.nm])
end Go.Av
