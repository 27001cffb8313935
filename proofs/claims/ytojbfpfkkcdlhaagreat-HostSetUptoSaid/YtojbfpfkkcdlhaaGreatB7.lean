/- What the functions of hosts compute, in the reference; excesses. -/
import Derived.Test.YtojbfpfkkcdlhaaGreatB6
namespace Go.Av
set_option linter.unusedVariables false
set_option linter.unusedSimpArgs false
open Go.Proofs

theorem spec116 (R : Nat) (t : TypesT) (ht : t.ok) (kind : Nat) (vals : List Int) (hv : vals.length ≤ 1048576) : Spec Tryz.prog R 0 116 [.agg (typesC t), .int .i64 kind, encInts vals] [] (.int .i64 (hnodeE t kind vals)) [] := by
  refine spec_intro hmix Tryz.func116 c116 (fun vs w => Tryz.call116 vs w) (by simp) (by simp [Tryz.ntmps116]) ?_
  show awb _ _ _ (retK _ _ _ _ _) _
  by_cases h1 : t.nodes.length ≤ kind
  · have h1' : (t.nodes.length : Int) ≤ kind := by omega
    simp [typesC, encNodes, h1']
    exact ret_pure (by simp [resA, resOne, hnodeE, h1]) (by simp [AV.nm])
  have h1' : ¬ (t.nodes.length : Int) ≤ kind := by omega
  have hlt : kind < t.nodes.length := by omega
  have g2 := nodeTCs_get t.nodes kind 2 hlt (by omega)
  cases h2 : t.nodes[kind].abs with
  | true =>
    simp [typesC, encNodes, h1', hlt, g2, nodeTC, h2]
    exact ret_pure (by simp [resA, resOne, hnodeE, hlt, h1, h2]) (by simp [AV.nm])
  | false =>
  simp [typesC, encNodes, h1', hlt, g2, nodeTC, h2]
  refine call_val (spec130 _ t ht kind) (by simp [typesC, encNodes]) ?_
  have hE : hnodeE t kind vals = if vals.length ≠ (attrsE t kind).1.length then 20 else (firstE (attrsE t kind).1.length (valAt (attrsE t kind).1 vals)).getD 0 := by
    unfold hnodeE
    rw [if_neg (by omega), if_neg (by simp [hlt, h2])]
  rw [hE]
  generalize (attrsE t kind).2 = er
  generalize (attrsE t kind).1 = al
  by_cases h3 : vals.length = al.length
  case neg =>
    simp [encInts, encAttrs, h3, Int.ofNat_inj]
    exact ret_pure (by simp [resA, resOne, h3]) (by simp [AV.nm])
  simp [encInts, encAttrs, h3]
  refine loop_intro (ι := { k : Nat // k ≤ al.length ∧ ∀ j, j < k → valAt al vals j = none }) (fun k => ⟨[(2, encInts vals), (7, encAttrs al), (9, .int .i64 k.1)], [], R⟩) (fun k => al.length - k.1) ⟨0, by simp⟩ ?_ ?_
  · refine shift_ren [] [] [] (by omega) ?_ ?_ ?_ ?_
    · simp [NsOK]
    · simp [FzL]
    · simp [encInts, encAttrs, h3]
    · simp [HpTo_nil]
  rintro ⟨k, hk, hp⟩
  rcases Nat.lt_or_ge k al.length with hlt2 | hge
  · have hlt3 : k < vals.length := by omega
    have a1 := attrCs_get al k 1 hlt2 (by omega)
    have a2 := attrCs_get al k 2 hlt2 (by omega)
    have hv2 := valAt_eq hlt2 hlt3
    by_cases c1 : vals[k] < al[k].low
    · simp [encInts, encAttrs, hlt2, hlt3, a1, a2, attrC, c1, Nat.add_assoc]
      exact ret_pure (by simp [resA, resOne, h3]; rw [firstE_some hlt2 hp (x := 6) (by rw [hv2, if_pos (.inl c1)])]; rfl) (by simp [AV.nm])
    · by_cases c2 : al[k].high < vals[k]
      · simp [encInts, encAttrs, hlt2, hlt3, a1, a2, attrC, c1, c2, Nat.add_assoc]
        exact ret_pure (by simp [resA, resOne, h3]; rw [firstE_some hlt2 hp (x := 6) (by rw [hv2, if_pos (.inr c2)])]; rfl) (by simp [AV.nm])
      · simp [encInts, encAttrs, hlt2, hlt3, a1, a2, attrC, c1, c2, Nat.add_assoc, wrap_nat (show k < 4611686018427387904 by omega), -Subtype.exists]
        refine ⟨⟨k + 1, hlt2, fun j hj => ?_⟩, by simp only; omega, shift_ren [] [] [] (by omega) ?_ ?_ ?_ ?_⟩
        · rcases Nat.lt_or_ge j k with h | h
          · exact hp j h
          · have : j = k := by omega
            subst this; rw [hv2, if_neg (by omega)]
        · simp [NsOK]
        · simp [FzL]
        · simp [encInts, encAttrs]
        · simp [HpTo_nil]
  · simp [encAttrs, Nat.not_lt.2 hge]
    exact ret_pure (by simp [resA, resOne, h3]; rw [firstE_none fun j hj => hp j (by omega)]; rfl) (by simp [AV.nm])

theorem spec34 (R : Nat) (t : TypesT) (ht : t.ok) (n : List Int) (e : List (Int × Int × Int)) (v : List (List Int)) (hn : n.length ≤ 1048576) (he : e.length ≤ 1048576) (hr : ∀ r ∈ v, r.length ≤ 1048576) :
    Spec Tryz.prog R 0 34 [.agg (typesC t), .agg (hostC n e v)] [] (.tup [.int .i64 (hostE t n e v).1, .int .i64 (hostE t n e v).2]) [] := by
  refine spec_intro hmix Tryz.func34 c34 (fun vs w => Tryz.call34 vs w) (by simp) (by simp [Tryz.ntmps34]) ?_
  show awb _ _ _ (retK _ _ _ _ _) _
  simp [typesC, hostC, Nat.add_assoc]
  refine call_val (spec99 _ t ht) (by simp [typesC]) ?_
  by_cases h1 : (validT t).2 = 0
  case neg =>
    simp [h1]
    exact ret_pure (by simp [resA, resOne, hostE, h1]) (by simp [AV.nm])
  simp [h1]
  refine call_val (spec100 _ n e) (by simp [graphC]) ?_
  by_cases h2 : validG n e = 0
  case neg =>
    simp [h2]
    exact ret_pure (by simp [resA, resOne, hostE, h1, h2]) (by simp [AV.nm])
  by_cases h3 : v.length = n.length
  case neg =>
    simp [h2, encIntss, encInts, h3, Int.ofNat_inj]
    exact ret_pure (by simp [resA, resOne, hostE, h1, h2, h3]) (by simp [AV.nm])
  obtain ⟨k1, k2, k3, k4⟩ := validG_ok h2
  rw [hostE_loop h1 h2 h3]
  simp [h2, encIntss, encInts, h3]
  refine loop_sub (ι := { k : Nat // k ≤ n.length ∧ ∀ j, j < k → hnodeAt t n v j = none }) (fun k => ⟨[(2, .ptr R 0), (3, .ptr (R + 1) 0), (9, .int .i64 k.1)], [(R, typesC t), (R + 1, hostC n e v)], R + 2⟩) (fun k => n.length - k.1) ⟨0, by simp⟩ ?_ ?_ (Nat.le_refl _) ?_
  · simp [encInts]
  · simp [typesC, hostC, encInts, encIntss, h3]
  rintro ⟨k, hk, hp⟩
  rcases Nat.lt_or_ge k n.length with hlt | hge
  · have hlt2 : k < v.length := by omega
    have hki := k3 _ (List.getElem_mem hlt)
    simp only [kindG, Bool.and_eq_true, decide_eq_true_eq] at hki
    obtain ⟨m, hm⟩ : ∃ m : Nat, n[k] = (m : Int) := ⟨_, (Int.toNat_of_nonneg hki.1).symm⟩
    simp [typesC, hostC, encInts, encIntss, hlt, hlt2, hm, Nat.add_assoc, -Subtype.exists]
    refine call_val (spec116 _ t ht m v[k] (hr _ (List.getElem_mem hlt2))) (by simp [typesC]) ?_
    have hA : hnodeAt t n v k = if hnodeE t m v[k] ≠ 0 then some ((k : Int), hnodeE t m v[k]) else none := by
      simp [hnodeAt, hlt, hlt2, hm]
    by_cases h4 : hnodeE t m v[k] = 0
    · simp [h4, wrap_nat (show k < 4611686018427387904 by omega), -Subtype.exists]
      refine ⟨⟨k + 1, hlt, fun j hj => ?_⟩, ?_, shift_sub ?_ ?_ (Nat.le_refl _)⟩
      · rcases Nat.lt_or_ge j k with h | h
        · exact hp j h
        · have : j = k := by omega
          subst this; rw [hA]; simp [h4]
      · simp only; omega
      · simp [encInts]
      · simp [typesC, hostC, encInts, encIntss]
    · simp [h4]
      exact ret_pure (by simp [resA, resOne]; rw [firstE_some hlt hp (x := ((k : Int), hnodeE t m v[k])) (by rw [hA]; simp [h4])]; simp) (by simp [AV.nm])
  · have hno : firstE n.length (hnodeAt t n v) = none := firstE_none fun j hj => hp j (by omega)
    rw [hno]
    simp [typesC, hostC, encInts, encEdges, encIntss, Nat.not_lt.2 hge]
    refine loop_sub (ι := { k : Nat // k ≤ e.length ∧ ∀ j, j < k → hedgeAt t n e j = none }) (fun k => ⟨[(2, .ptr R 0), (3, .ptr (R + 1) 0), (11, .int .i64 k.1)], [(R, typesC t), (R + 1, hostC n e v)], R + 2⟩) (fun k => e.length - k.1) ⟨0, by simp⟩ ?_ ?_ (Nat.le_refl _) ?_
    · simp [encEdges]
    · simp [typesC, hostC, encInts, encEdges, encIntss]
    rintro ⟨k, hk, hq⟩
    rcases Nat.lt_or_ge k e.length with hlt | hge
    · have hl3 : k * 3 + 3 ≤ e.length * 3 := by omega
      have hx := k4 _ (List.getElem_mem hlt)
      simp only [rightG, kindG, Bool.and_eq_true, decide_eq_true_eq] at hx
      obtain ⟨f, hf⟩ : ∃ f : Nat, e[k].2.1 = (f : Int) := ⟨_, (Int.toNat_of_nonneg hx.1.2.1).symm⟩
      obtain ⟨g, hg⟩ : ∃ g : Nat, e[k].2.2 = (g : Int) := ⟨_, (Int.toNat_of_nonneg hx.2.1).symm⟩
      have hfl : f < n.length := by omega
      have hgl : g < n.length := by omega
      have hA : hedgeAt t n e k = if hedgeE t n e[k] ≠ 0 then some ((k : Int), hedgeE t n e[k]) else none := by
        simp [hedgeAt, hlt]
      have hB : hedgeE t n e[k] = if e[k].1 ≥ t.edges.length then 6 else if fitsT t e[k].1 n[f] n[g] = true then 0 else 13 := by
        simp [hedgeE, hf, hg, hfl, hgl]
      by_cases c1 : (t.edges.length : Int) ≤ e[k].1
      · simp [typesC, hostC, encInts, encEdges, encETypes, hlt, hl3, edgeCs_at _ _ hlt, edgeC, spl, c1, Nat.add_assoc]
        exact ret_pure (by simp [resA, resOne]; rw [firstE_some hlt hq (x := ((k : Int), 6)) (by rw [hA, hB, if_pos c1]; simp)]; simp) (by simp [AV.nm])
      · simp [typesC, hostC, encInts, encEdges, encETypes, hlt, hl3, edgeCs_at _ _ hlt, edgeC, spl, c1, hf, hg, hfl, hgl, Nat.add_assoc, -Subtype.exists]
        refine call_val (spec117 _ t ht e[k].1 n[f] n[g]) (by simp [typesC, encETypes]) ?_
        cases h5 : fitsT t e[k].1 n[f] n[g] with
        | true =>
          simp [wrap_nat (show k < 4611686018427387904 by omega), -Subtype.exists]
          refine ⟨⟨k + 1, hlt, fun j hj => ?_⟩, by simp only; omega, shift_ren [(R, R), (R + 1, R + 1)] [] [R, R + 1] (by omega) ?_ ?_ ?_ ?_⟩
          · rcases Nat.lt_or_ge j k with h | h
            · exact hq j h
            · have : j = k := by omega
              subst this; rw [hA, hB, if_neg c1, if_pos h5]; simp
          · simp [NsOK]
          · simp [FzL]
          · simp [look, encEdges]
          · simp [HpTo_cons, HpTo_nil, look, typesC, hostC, encETypes, encInts, encEdges, encIntss, toL_cons, toL_nil]
        | false =>
          simp
          exact ret_pure (by simp [resA, resOne]; rw [firstE_some hlt hq (x := ((k : Int), 13)) (by rw [hA, show hedgeE t n e[k] = 13 by rw [hB, if_neg c1, if_neg (by simp [h5])]]; simp)]; simp) (by simp [AV.nm])
    · simp [typesC, hostC, encEdges, Nat.not_lt.2 hge]
      exact ret_pure (by simp [resA, resOne]; rw [firstE_none fun j hj => hq j (by omega)]; simp) (by simp [AV.nm])


end Go.Av
/- Counting edges; equal lists of excesses; the excesses of one side. -/
namespace Go.Av
set_option linter.unusedVariables false
set_option linter.unusedSimpArgs false
open Go.Proofs

theorem neq65 (a b c a' b' c' : Int) (d d' : Bool) : opBin Tryz.prog .neq 65 (.agg [.int .i64 a, .int .i64 b, .int .i64 c, .bool d]) (.agg [.int .i64 a', .int .i64 b', .int .i64 c', .bool d']) = some (.bool (!(decide (a = a') && (decide (b = b') && (decide (c = c') && ((d == d') && true)))))) := by kernel_rfl

theorem spec37 (R : Nat) (a b : List ExcT) (ha : a.length ≤ 1048576) : Spec Tryz.prog R 0 37 [encExcs a, encExcs b] [] (.bool (decide (a = b))) [] := by
  refine spec_intro hmix Tryz.func37 c37 (fun vs w => Tryz.call37 vs w) (by simp) (by simp [Tryz.ntmps37]) ?_
  show awb _ _ _ (retK _ _ _ _ _) _
  by_cases hl : a.length = b.length
  case neg =>
    have : ¬ a = b := by rintro rfl; exact hl rfl
    simp [encExcs, Int.ofNat_inj, hl]
    exact ret_pure (by simp [resA, resOne, this]) (by simp [AV.nm])
  simp [encExcs, hl]
  rw [← hl]
  refine loop_sub (ι := { k : Nat // k ≤ a.length ∧ a.take k = b.take k }) (fun k => ⟨[(0, encExcs a), (1, encExcs b), (12, .int .i64 a.length), (13, .int .i64 k.1)], [], R⟩) (fun k => a.length - k.1) ⟨0, by simp⟩ ?_ ?_ (Nat.le_refl _) ?_
  · simp [encExcs, hl]
  · simp
  · rintro ⟨k, hk, hp⟩
    rcases Nat.lt_or_ge k a.length with hlt | hge
    · have hlt' := hl ▸ hlt
      by_cases hxy : a[k] = b[k]
      · have h3 : k * 4 + 4 ≤ a.length * 4 := by omega
        have h3' : k * 4 + 4 ≤ b.length * 4 := by omega
        simp [encExcs, hlt, hlt', hxy, h3, h3', excCs_at _ _ hlt, excCs_at _ _ hlt', excC, neq65, wrap_nat (show k < 4611686018427387904 by omega), -Subtype.exists]
        refine ⟨⟨k + 1, hlt, ?_⟩, ?_, shift_sub ?_ ?_ (Nat.le_refl _)⟩
        · rw [List.take_add_one, List.take_add_one, hp]; simp [hlt, hlt', hxy]
        · simp only; omega
        · simp
        · simp
      · have : ¬ a = b := by rintro rfl; exact hxy rfl
        have h3 : k * 4 + 4 ≤ a.length * 4 := by omega
        have h3' : k * 4 + 4 ≤ b.length * 4 := by omega
        have hd2 : (decide (a[k].edge = b[k].edge) && (decide (a[k].node = b[k].node) && (decide (a[k].count = b[k].count) && ((a[k].out == b[k].out) && true)))) = false := by
          rw [Bool.eq_false_iff]
          intro hh
          simp only [Bool.and_true, Bool.and_eq_true, decide_eq_true_eq, beq_iff_eq] at hh
          apply hxy
          cases hA : a[k]; cases hB : b[k]
          rw [hA, hB] at hh
          simp only at hh
          obtain ⟨rfl, rfl, rfl, rfl⟩ := hh
          rfl
        simp [encExcs, hlt, hlt', h3, h3', excCs_at _ _ hlt, excCs_at _ _ hlt', excC, neq65, hd2, -Bool.and_true]
        exact ret_pure (by simp [resA, resOne, this]) (by simp [AV.nm])
    · have : a = b := by
        have e : k = a.length := by omega
        rw [e, List.take_length, hl, List.take_length] at hp
        exact hp
      simp [encExcs, Nat.not_lt.2 hge]
      exact ret_pure (by simp [resA, resOne, this]) (by simp [AV.nm])

theorem countG_step (e : List (Int × Int × Int)) (kind node : Int) (out : Bool) (k : Nat) (h : k < e.length) :
    (e.take (k + 1)).countP (hitB kind node out) = (e.take k).countP (hitB kind node out) + if hitB kind node out e[k] = true then 1 else 0 := by
  rw [List.take_add_one, List.getElem?_eq_getElem h, List.countP_append]
  simp [List.countP_cons]

theorem countP_le (e : List (Int × Int × Int)) (kind node : Int) (out : Bool) (k : Nat) : (e.take k).countP (hitB kind node out) ≤ e.length :=
  Nat.le_trans List.countP_le_length (by simp; omega)

theorem spec121 (R : Nat) (n : List Int) (e : List (Int × Int × Int)) (he : e.length ≤ 1048576) (kind node : Int) (out : Bool) : Spec Tryz.prog R 0 121 [.agg (graphC n e), .int .i64 kind, .int .i64 node, .bool out] [] (.int .i64 (countG e kind node out)) [] := by
  refine spec_intro hmix Tryz.func121 c121 (fun vs w => Tryz.call121 vs w) (by simp) (by simp [Tryz.ntmps121]) ?_
  show awb _ _ _ (retK _ _ _ _ _) _
  simp [graphC, Nat.add_assoc]
  refine loop_sub (ι := { k : Nat // k ≤ e.length }) (fun k => ⟨[(1, .int .i64 kind), (2, .int .i64 node), (3, .bool out), (4, .ptr R 0), (9, .int .i64 ((e.take k.1).countP (hitB kind node out))), (10, .int .i64 k.1)], [(R, graphC n e)], R + 1⟩) (fun k => e.length - k.1) ⟨0, by simp⟩ ?_ ?_ (Nat.le_refl _) ?_
  · simp
  · simp [graphC]
  rintro ⟨k, hk⟩
  rcases Nat.lt_or_ge k e.length with hlt | hge
  · have hl3 : k * 3 + 3 ≤ e.length * 3 := by omega
    have hs := countG_step e kind node out k hlt
    have hc := countP_le e kind node out k
    have hwc : IntKind.i64.wrap ((((e.take k).countP (hitB kind node out) : Nat) : Int) + 1) = (((e.take k).countP (hitB kind node out) + 1 : Nat) : Int) := wrap_nat (by omega)
    have hwk : IntKind.i64.wrap ((k : Int) + 1) = ((k + 1 : Nat) : Int) := wrap_nat (by omega)
    generalize hcn : (e.take k).countP (hitB kind node out) = c at *
    have fin : ∀ (rs : List (Nat × AV)) (c' : Nat), (e.take (k + 1)).countP (hitB kind node out) = c' → rget rs 1 = .int .i64 kind → rget rs 2 = .int .i64 node → rget rs 3 = .bool out → rget rs 4 = .ptr R 0 → rget rs 9 = .int .i64 c' → rget rs 10 = .int .i64 ((k + 1 : Nat) : Int) → ∀ (cs : List AV),
        ∃ j : { k : Nat // k ≤ e.length }, e.length - j.1 < e.length - k ∧ St.shift R ⟨rs, [(R, [encInts n, encEdges e]), (R + 1, cs)], R + 2⟩ ⟨[(1, .int .i64 kind), (2, .int .i64 node), (3, .bool out), (4, .ptr R 0), (9, .int .i64 ((e.take j.1).countP (hitB kind node out))), (10, .int .i64 j.1)], [(R, graphC n e)], R + 1⟩ := by
      intro rs c' q0 q1 q2 q3 q4 q9 q10 cs
      refine ⟨⟨k + 1, hlt⟩, by simp only; omega, shift_ren [(R, R)] [] [R] (by omega) ?_ ?_ ?_ ?_⟩
      · simp [NsOK]
      · simp [FzL]
      · simp [look, q0, q1, q2, q3, q4, q9, q10]
      · simp [HpTo_cons, HpTo_nil, look, graphC, toL_cons, toL_nil]
    cases d1 : decide (e[k].1 = kind) with
    | false =>
      simp [graphC, encEdges, hlt, hl3, edgeCs_at _ _ hlt, edgeC, spl, d1, hwc, hwk, Nat.add_assoc, -Subtype.exists]
      exact fin _ _ (by rw [hs, if_neg (by simp [hitB, d1])]) (by simp) (by simp) (by simp) (by simp) (by simp) (by simp) _
    | true =>
    cases out with
    | true =>
      cases d2 : decide (e[k].2.1 = node) with
      | false =>
        simp [graphC, encEdges, hlt, hl3, edgeCs_at _ _ hlt, edgeC, spl, d1, d2, hwc, hwk, Nat.add_assoc, -Subtype.exists]
        exact fin _ _ (by rw [hs, if_neg (by simp [hitB, d1, d2])]) (by simp) (by simp) (by simp) (by simp) (by simp) (by simp) _
      | true =>
        simp [graphC, encEdges, hlt, hl3, edgeCs_at _ _ hlt, edgeC, spl, d1, d2, hwc, hwk, Nat.add_assoc, -Subtype.exists]
        exact fin _ _ (by rw [hs, if_pos (by simp [hitB, d1, d2])]) (by simp) (by simp) (by simp) (by simp) (by simp) (by simp) _
    | false =>
      cases d3 : decide (e[k].2.2 = node) with
      | false =>
        simp [graphC, encEdges, hlt, hl3, edgeCs_at _ _ hlt, edgeC, spl, d1, d3, hwc, hwk, Nat.add_assoc, -Subtype.exists]
        exact fin _ _ (by rw [hs, if_neg (by simp [hitB, d1, d3])]) (by simp) (by simp) (by simp) (by simp) (by simp) (by simp) _
      | true =>
        simp [graphC, encEdges, hlt, hl3, edgeCs_at _ _ hlt, edgeC, spl, d1, d3, hwc, hwk, Nat.add_assoc, -Subtype.exists]
        exact fin _ _ (by rw [hs, if_pos (by simp [hitB, d1, d3])]) (by simp) (by simp) (by simp) (by simp) (by simp) (by simp) _
  · have ek : k = e.length := by omega
    subst ek
    simp [graphC, encEdges]
    exact ret_pure (by simp [resA, resOne, countG]) (by simp [AV.nm])
end Go.Av
/- The excesses of one side, in the program. -/
namespace Go.Av
set_option linter.unusedVariables false
set_option linter.unusedSimpArgs false
open Go.Proofs

theorem excAt_len (t : TypesT) (n : List Int) (e : List (Int × Int × Int)) (k : Nat) (out : Bool) (kind low high : Int) (i : Nat) : (excAt t n e k out kind low high i).length ≤ 1 := by
  unfold excAt
  split
  · split <;> simp
  · simp

theorem flat1_len {α : Type} (f : Nat → List α) (M : Nat) (h : ∀ i, (f i).length ≤ M) (m : Nat) : ((List.range m).flatMap f).length ≤ m * M := by
  induction m with
  | zero => simp
  | succ m ih =>
    rw [List.range_succ, List.flatMap_append, List.length_append, Nat.succ_mul]
    have := h m
    simp only [List.flatMap_cons, List.flatMap_nil, List.append_nil]
    omega

theorem flat_succ {α : Type} (f : Nat → List α) (m : Nat) : (List.range (m + 1)).flatMap f = (List.range m).flatMap f ++ f m := by
  rw [List.range_succ, List.flatMap_append]; simp

theorem toL_exc {σ : Nat → Option Nat} {fz : Nat → Option (List AV)} (acc : List ExcT) (x : ExcT) :
    toL σ fz (List.take (acc.length * 4 + 4) (List.take (acc.length * 4) (excCs acc) ++ [.int .i64 x.edge, .int .i64 x.node, .int .i64 x.count, .bool x.out])) (excCs acc ++ excCs [x]) := by
  rw [List.take_of_length_le (l := excCs acc) (by simp), List.take_of_length_le (by simp)]
  exact toL_append (toL_refl (nmL_excCs _)) (toL_refl (nmL_excCs [x]))

theorem spec119 (R : Nat) (t : TypesT) (ht : t.ok) (hv : (validT t).2 = 0) (n : List Int) (e : List (Int × Int × Int)) (v : List (List Int)) (hn : n.length ≤ 1048576) (he : e.length ≤ 1048576) (hin : ∀ x ∈ n, insideB t x = true)
    (edge : Nat) (out : Bool) (kind low high : Int) (hk : insideB t kind = true) :
    Spec Tryz.prog R 0 119 [.agg (typesC t), .agg (hostC n e v), .int .i64 edge, .bool out, .int .i64 kind, .int .i64 low, .int .i64 high] [] (encExcs (excOne t n e edge out kind low high)) [] := by
  refine spec_intro hmix Tryz.func119 c119 (fun vs w => Tryz.call119 vs w) (by simp) (by simp [Tryz.ntmps119]) ?_
  show awb _ _ _ (retK _ _ _ _ _) _
  generalize hf : excAt t n e edge out kind low high = f
  have hfl : ∀ i, (f i).length ≤ 1 := fun i => by rw [← hf]; exact excAt_len ..
  have hR : excOne t n e edge out kind low high = (List.range n.length).flatMap f := by rw [← hf]; rfl
  obtain ⟨F, hF⟩ : ∃ F : Nat → List ExcT, ∀ i, F i = (List.range i).flatMap f := ⟨_, fun _ => rfl⟩
  have hF0 : F 0 = [] := by rw [hF]; rfl
  have hFs : ∀ i, F (i + 1) = F i ++ f i := fun i => by rw [hF, hF]; exact flat_succ f i
  have hFl : ∀ i, (F i).length ≤ i * 1 := fun i => by rw [hF]; exact flat1_len f 1 hfl i
  rw [hR, ← hF]
  clear hF hR
  simp [typesC, hostC, graphC, encInts, Nat.add_assoc]
  refine loop_intro (ι := { i : Nat // i ≤ n.length }) (fun i => ⟨[(2, .int .i64 edge), (3, .bool out), (4, .int .i64 kind), (5, .int .i64 low), (6, .int .i64 high), (7, .ptr R 0), (8, .ptr (R + 1) 0), (15, .osl (R + 2) 0 (F i.1).length none 4), (23, encInts n), (24, .int .i64 n.length), (25, .int .i64 i.1)],
      [(R, typesC t), (R + 1, hostC n e v), (R + 2, excCs (F i.1))], R + 3⟩) (fun i => n.length - i.1) ⟨0, by simp⟩ ?_ ?_
  · refine shift_phantom.trans ?_
    simp [hset, Nat.add_assoc]
    refine shift_ren [(R, R), (R + 1, R + 1), (R + 2, R + 2)] [] [R, R + 1, R + 2] (by omega) ?_ ?_ ?_ ?_
    · simp [NsOK]
    · simp [FzL]
    · simp [look, encInts, hF0]
    · simp [HpTo_cons, HpTo_nil, look, typesC, hostC, encInts, hF0, excCs, toL_cons, toL_nil]
  rintro ⟨i, hi⟩
  have hwi : IntKind.i64.wrap ((i : Int) + 1) = ((i + 1 : Nat) : Int) := wrap_nat (by omega)
  have hal := hFl i
  have hsucc := hFs i
  simp only
  generalize hacc : F i = acc at *
  rcases Nat.lt_or_ge i n.length with hlt | hge
  · have hni := hin _ (List.getElem_mem hlt)
    obtain ⟨m, hm, hml⟩ := inside_nat hni
    have hfi : f i = if belowT t.nodes m kind = true then if (countG e edge i out : Int) < low ∨ (0 ≤ high ∧ (countG e edge i out : Int) > high) then [⟨edge, i, countG e edge i out, out⟩] else [] else [] := by
      rw [← hf]; simp [excAt, hlt, hm]
    have hIs : isT t m kind = belowT t.nodes m kind := by
      have := hni; rw [hm] at this
      simp [isT, hv, this, hk]
    simp [typesC, hostC, graphC, encInts, hlt, hm, Nat.add_assoc, -Subtype.exists]
    refine call_val (spec217 _ t ht m kind) (by simp [typesC]) ?_
    rw [hIs]
    cases hb : belowT t.nodes m kind with
    | false =>
      rw [hb] at hfi
      simp at hfi
      have e1 : F (i + 1) = acc := by rw [hsucc, hfi, List.append_nil]
      simp [hwi, -Subtype.exists]
      refine ⟨⟨i + 1, hlt⟩, by simp only; omega, shift_sub ?_ ?_ (Nat.le_refl _)⟩
      · simp [e1, encInts]
      · simp [e1, typesC, hostC, graphC, encInts]
    | true =>
    rw [hb, if_pos rfl] at hfi
    simp [hostC, graphC, encEdges, -Subtype.exists]
    refine loop_sub (ι := { j : Nat // j ≤ e.length }) (fun j => ⟨[(2, .int .i64 edge), (3, .bool out), (4, .int .i64 kind), (5, .int .i64 low), (6, .int .i64 high), (7, .ptr R 0), (8, .ptr (R + 1) 0), (15, .osl (R + 2) 0 acc.length none 4), (16, .int .i64 i), (18, .int .i64 ((e.take j.1).countP (hitB edge i out))), (23, encInts n), (24, .int .i64 n.length), (25, .int .i64 i), (37, encEdges e), (38, .int .i64 e.length), (39, .int .i64 j.1)],
        [(R, typesC t), (R + 1, hostC n e v), (R + 2, excCs acc)], R + 3⟩) (fun j => e.length - j.1) ⟨0, by simp⟩ ?_ ?_ (Nat.le_refl _) ?_
    · simp [encInts, encEdges]
    · simp [typesC, hostC, graphC, encInts, encEdges]
    rintro ⟨j, hj⟩
    have hc := countP_le e edge i out j
    rcases Nat.lt_or_ge j e.length with hlt2 | hge
    · have hl3 : j * 3 + 3 ≤ e.length * 3 := by omega
      have hs := countG_step e edge i out j hlt2
      have hwc : IntKind.i64.wrap ((((e.take j).countP (hitB edge i out) : Nat) : Int) + 1) = (((e.take j).countP (hitB edge i out) + 1 : Nat) : Int) := wrap_nat (by omega)
      have hwj : IntKind.i64.wrap ((j : Int) + 1) = ((j + 1 : Nat) : Int) := wrap_nat (by omega)
      generalize hcn : (e.take j).countP (hitB edge i out) = c at *
      have fin : ∀ (rs : List (Nat × AV)) (c' : Nat), (e.take (j + 1)).countP (hitB edge i out) = c' → rget rs 2 = .int .i64 edge → rget rs 3 = .bool out → rget rs 4 = .int .i64 kind → rget rs 5 = .int .i64 low → rget rs 6 = .int .i64 high → rget rs 7 = .ptr R 0 → rget rs 8 = .ptr (R + 1) 0 → rget rs 15 = .osl (R + 2) 0 acc.length none 4 →
          rget rs 16 = .int .i64 i → rget rs 18 = .int .i64 c' → rget rs 23 = encInts n → rget rs 24 = .int .i64 n.length → rget rs 25 = .int .i64 i → rget rs 37 = .vsl (edgeCs e) e.length none → rget rs 38 = .int .i64 e.length → rget rs 39 = .int .i64 ((j + 1 : Nat) : Int) → True → ∀ (cs : List AV),
          ∃ q : { j : Nat // j ≤ e.length }, e.length - q.1 < e.length - j ∧ St.shift R ⟨rs, [(R, typesC t), (R + 1, [encInts n, .vsl (edgeCs e) e.length none, encIntss v]), (R + 2, excCs acc), (R + 3, cs)], R + 4⟩ ⟨[(2, .int .i64 edge), (3, .bool out), (4, .int .i64 kind), (5, .int .i64 low), (6, .int .i64 high), (7, .ptr R 0), (8, .ptr (R + 1) 0), (15, .osl (R + 2) 0 acc.length none 4), (16, .int .i64 i), (18, .int .i64 ((e.take q.1).countP (hitB edge i out))), (23, encInts n), (24, .int .i64 n.length), (25, .int .i64 i), (37, .vsl (edgeCs e) e.length none), (38, .int .i64 e.length), (39, .int .i64 q.1)],
        [(R, typesC t), (R + 1, [encInts n, .vsl (edgeCs e) e.length none, encIntss v]), (R + 2, excCs acc)], R + 3⟩ := by
        intro rs c' q0 q2 q3 q4 q5 q6 q7 q8 q15 q16 q18 q23 q24 q25 q37 q38 q39 _ cs
        refine ⟨⟨j + 1, hlt2⟩, by simp only; omega, shift_ren [(R, R), (R + 1, R + 1), (R + 2, R + 2)] [] [R, R + 1, R + 2] (by omega) ?_ ?_ ?_ ?_⟩
        · simp [NsOK]
        · simp [FzL]
        · have nme : nmL (fun _ => False) (edgeCs e) := nm_edgeCs e
          simp [look, q0, q2, q3, q4, q5, q6, q7, q8, q15, q16, q18, q23, q24, q25, q37, q38, q39]
        · have nme : nmL (fun _ => False) (edgeCs e) := nm_edgeCs e
          simp [HpTo_cons, HpTo_nil, look, typesC, toL_cons, toL_nil]
          rw [List.take_of_length_le (by simp)]
          exact toL_refl (nmL_excCs _)
      cases d1 : decide (e[j].1 = edge) with
      | false =>
        simp [hostC, graphC, encEdges, hlt2, hl3, edgeCs_at _ _ hlt2, edgeC, spl, d1, hwc, hwj, Nat.add_assoc, -Subtype.exists]
        exact fin _ _ (by rw [hs, if_neg (by simp [hitB, d1])]) (by simp) (by simp) (by simp) (by simp) (by simp) (by simp) (by simp) (by simp) (by simp) (by simp) (by simp) (by simp) (by simp) (by simp) (by simp) (by simp) (by simp) _
      | true =>
      cases out with
      | true =>
        cases d2 : decide (e[j].2.1 = (i : Int)) with
        | false =>
          simp [hostC, graphC, encEdges, hlt2, hl3, edgeCs_at _ _ hlt2, edgeC, spl, d1, d2, hwc, hwj, Nat.add_assoc, -Subtype.exists]
          exact fin _ _ (by rw [hs, if_neg (by simp [hitB, d1, d2])]) (by simp) (by simp) (by simp) (by simp) (by simp) (by simp) (by simp) (by simp) (by simp) (by simp) (by simp) (by simp) (by simp) (by simp) (by simp) (by simp) (by simp) _
        | true =>
          simp [hostC, graphC, encEdges, hlt2, hl3, edgeCs_at _ _ hlt2, edgeC, spl, d1, d2, hwc, hwj, Nat.add_assoc, -Subtype.exists]
          exact fin _ _ (by rw [hs, if_pos (by simp [hitB, d1, d2])]) (by simp) (by simp) (by simp) (by simp) (by simp) (by simp) (by simp) (by simp) (by simp) (by simp) (by simp) (by simp) (by simp) (by simp) (by simp) (by simp) (by simp) _
      | false =>
        cases d3 : decide (e[j].2.2 = (i : Int)) with
        | false =>
          simp [hostC, graphC, encEdges, hlt2, hl3, edgeCs_at _ _ hlt2, edgeC, spl, d1, d3, hwc, hwj, Nat.add_assoc, -Subtype.exists]
          exact fin _ _ (by rw [hs, if_neg (by simp [hitB, d1, d3])]) (by simp) (by simp) (by simp) (by simp) (by simp) (by simp) (by simp) (by simp) (by simp) (by simp) (by simp) (by simp) (by simp) (by simp) (by simp) (by simp) (by simp) _
        | true =>
          simp [hostC, graphC, encEdges, hlt2, hl3, edgeCs_at _ _ hlt2, edgeC, spl, d1, d3, hwc, hwj, Nat.add_assoc, -Subtype.exists]
          exact fin _ _ (by rw [hs, if_pos (by simp [hitB, d1, d3])]) (by simp) (by simp) (by simp) (by simp) (by simp) (by simp) (by simp) (by simp) (by simp) (by simp) (by simp) (by simp) (by simp) (by simp) (by simp) (by simp) (by simp) _
    · have ej : j = e.length := by omega
      subst ej
      rw [List.take_length] at hc ⊢
      simp only [hostC, graphC, encEdges]
      have hG : e.countP (hitB edge i out) = countG e edge i out := rfl
      rw [hG] at hc ⊢
      generalize countG e edge i out = c at *
      have hl1 : acc.length + 1 ≤ 4294967296 := by omega
      by_cases k1 : (c : Int) < low
      · have e1 : F (i + 1) = acc ++ [⟨edge, i, c, out⟩] := by rw [hsucc, hfi, if_pos (.inl k1)]
        simp [k1, typesC, hostC, graphC, encEdges, Nat.not_lt.2 hge, aFill, repL, spl, hl1, hwi, Nat.add_assoc, -Subtype.exists]
        refine ⟨⟨i + 1, hlt⟩, by simp only; omega, shift_ren [(R, R), (R + 1, R + 1), (R + 4, R + 2)] [] [R, R + 1, R + 4] (by omega) ?_ ?_ ?_ ?_⟩
        · simp [NsOK]
        · simp [FzL]
        · simp [look, e1, encInts]
        · simp [HpTo_cons, HpTo_nil, look, e1, excCs_append, typesC, hostC, graphC, encInts, encEdges, toL_cons, toL_nil]
          exact toL_exc acc ⟨edge, i, c, out⟩
      by_cases k2 : 0 ≤ high
      · by_cases k3 : high < (c : Int)
        · have e1 : F (i + 1) = acc ++ [⟨edge, i, c, out⟩] := by rw [hsucc, hfi, if_pos (.inr ⟨k2, k3⟩)]
          simp [k1, k2, k3, typesC, hostC, graphC, encEdges, Nat.not_lt.2 hge, aFill, repL, spl, hl1, hwi, Nat.add_assoc, -Subtype.exists]
          refine ⟨⟨i + 1, hlt⟩, by simp only; omega, shift_ren [(R, R), (R + 1, R + 1), (R + 4, R + 2)] [] [R, R + 1, R + 4] (by omega) ?_ ?_ ?_ ?_⟩
          · simp [NsOK]
          · simp [FzL]
          · simp [look, e1, encInts]
          · simp [HpTo_cons, HpTo_nil, look, e1, excCs_append, typesC, hostC, graphC, encInts, encEdges, toL_cons, toL_nil]
            exact toL_exc acc ⟨edge, i, c, out⟩
        · have e1 : F (i + 1) = acc := by rw [hsucc, hfi, if_neg (by omega), List.append_nil]
          simp [k1, k2, k3, hwi, Nat.not_lt.2 hge, -Subtype.exists]
          refine ⟨⟨i + 1, hlt⟩, by simp only; omega, shift_sub ?_ ?_ (Nat.le_refl _)⟩
          · simp [e1, encInts]
          · simp [e1, typesC, hostC, graphC, encInts, encEdges]
      · have e1 : F (i + 1) = acc := by rw [hsucc, hfi, if_neg (by omega), List.append_nil]
        simp [k1, k2, hwi, Nat.not_lt.2 hge, -Subtype.exists]
        refine ⟨⟨i + 1, hlt⟩, by simp only; omega, shift_sub ?_ ?_ (Nat.le_refl _)⟩
        · simp [e1, encInts]
        · simp [e1, typesC, hostC, graphC, encInts, encEdges]
  · have ei : i = n.length := by omega
    subst ei
    simp
    refine ret_ren (v := .osl (R + 2) 0 acc.length none 4) ?_ [] [(R + 2, excCs acc)] [] ?_ ?_ ?_ ?_
    · simp [resA, resOne]
    · simp [NsOK]
    · simp [FzL, look]
    · simp [lookF, encExcs, hacc]
      exact (List.take_of_length_le (by simp)).symm
    · simp [HpTo_nil]
end Go.Av
/- The excesses, in the program. -/
namespace Go.Av
set_option linter.unusedVariables false
set_option linter.unusedSimpArgs false
open Go.Proofs

theorem hostE_ok {t : TypesT} {n : List Int} {e : List (Int × Int × Int)} {v : List (List Int)} (h : (hostE t n e v).2 = 0) : (validT t).2 = 0 ∧ validG n e = 0 ∧ v.length = n.length ∧ ∀ x ∈ n, insideB t x = true := by
  unfold hostE at h
  split at h
  · rename_i h1; exact absurd h h1
  split at h
  · rename_i h1; exact absurd h h1
  split at h
  · cases h
  rename_i h1 h2 h3
  simp only [ne_eq, Decidable.not_not] at h1 h2 h3
  refine ⟨h1, h2, h3, fun x hx => ?_⟩
  obtain ⟨i, hi, rfl⟩ := List.getElem_of_mem hx
  have hk := (validG_ok h2).2.2.1 _ (List.getElem_mem hi)
  simp only [kindG, Bool.and_eq_true, decide_eq_true_eq] at hk
  cases hf : firstE n.length (hnodeAt t n v) with
  | some y =>
    rw [hf] at h
    obtain ⟨k, hk, hk2⟩ := List.exists_of_findSome?_eq_some hf
    unfold hnodeAt at hk2
    split at hk2
    · cases hk2; exact absurd h (by assumption)
    · cases hk2
  | none =>
    have := firstE_of_none hf i hi
    unfold hnodeAt at this
    split at this
    · cases this
    rename_i hz
    simp only [ne_eq, Decidable.not_not] at hz
    have hg : n.getD i 0 = n[i] := by simp [hi]
    rw [hg] at hz
    unfold hnodeE at hz
    split at hz
    · cases hz
    simp only [insideB, Bool.and_eq_true, decide_eq_true_eq]
    omega

theorem excOne_len (t : TypesT) (n : List Int) (e : List (Int × Int × Int)) (k : Nat) (out : Bool) (kind low high : Int) : (excOne t n e k out kind low high).length ≤ n.length := by
  have := flat1_len (excAt t n e k out kind low high) 1 (fun i => excAt_len ..) n.length
  unfold excOne; omega

theorem edgeT_inside {t : TypesT} (h : (validT t).2 = 0) (j : Nat) (hj : j < t.edges.length) : insideB t t.edges[j].fr = true ∧ insideB t t.edges[j].to = true := by
  have hv := validT_nodes h
  unfold validT at h
  split at h
  · cases h
  split at h
  · cases h
  have hno : firstE t.nodes.length (nodeAt t) = none := firstE_none fun i hi => by simp [nodeAt, hv i hi]
  rw [hno, Option.none_or] at h
  have hz : edgeE t j = 0 := by
    cases hx : firstE t.edges.length (edgeAt t) with
    | some x =>
      rw [hx] at h
      obtain ⟨k, hk, hk2⟩ := List.exists_of_findSome?_eq_some hx
      unfold edgeAt at hk2
      split at hk2
      · cases hk2; exact absurd h (by assumption)
      · cases hk2
    | none =>
      have hh := firstE_of_none hx j hj
      unfold edgeAt at hh
      by_cases h0 : edgeE t j = 0
      · exact h0
      · simp [h0] at hh
  simp only [edgeE, List.getElem?_eq_getElem hj] at hz
  split at hz
  · cases hz
  split at hz
  · cases hz
  split at hz
  · rename_i hb
    simp only [Bool.and_eq_true] at hb
    exact ⟨hb.1.1.1, hb.1.1.2⟩
  · cases hz

theorem spec35 (R : Nat) (t : TypesT) (ht : t.ok) (n : List Int) (e : List (Int × Int × Int)) (v : List (List Int)) (hn : n.length ≤ 1048576) (he : e.length ≤ 1048576) (hr : ∀ r ∈ v, r.length ≤ 1048576) :
    Spec Tryz.prog R 0 35 [.agg (typesC t), .agg (hostC n e v)] [] (.tup [encExcs (excsT t n e v).1, .int .i64 (excsT t n e v).2]) [] := by
  refine spec_intro hmix Tryz.func35 c35 (fun vs w => Tryz.call35 vs w) (by simp) (by simp [Tryz.ntmps35]) ?_
  show awb _ _ _ (retK _ _ _ _ _) _
  simp [typesC, hostC, Nat.add_assoc]
  refine call_val (spec118 _ t ht n e v hn he hr) (by simp [typesC, hostC]) ?_
  unfold excsT
  by_cases h1 : (hostE t n e v).2 = 0
  case neg =>
    simp [h1]
    refine ret_ren (v := .tup [.nilsl, .int .i64 (hostE t n e v).2]) ?_ [] [] [] ?_ ?_ ?_ ?_
    · simp [resA, resOne]
    · simp [NsOK]
    · simp [FzL]
    · simp [encExcs, excCs]
    · simp [HpTo_nil]
  obtain ⟨hv, hg, _, hin⟩ := hostE_ok h1
  obtain ⟨k1, k2, _, _⟩ := validG_ok hg
  have hel := (validT_len hv).2.2
  rw [if_neg (by simp [h1])]
  obtain ⟨F, hF⟩ : ∃ F : Nat → List ExcT, ∀ i, F i = (List.range i).flatMap (excEdge t n e) := ⟨_, fun _ => rfl⟩
  have hF0 : F 0 = [] := by rw [hF]; rfl
  have hFs : ∀ i, F (i + 1) = F i ++ excEdge t n e i := fun i => by rw [hF, hF]; exact flat_succ _ i
  have hFl : ∀ i, (F i).length ≤ i * 80 := fun i => by
    rw [hF]
    refine flat1_len _ 80 (fun j => ?_) i
    unfold excEdge
    have a1 := excOne_len t n e j true (t.edges.getD j default).fr (t.edges.getD j default).ol (t.edges.getD j default).oh
    have a2 := excOne_len t n e j false (t.edges.getD j default).to (t.edges.getD j default).il (t.edges.getD j default).ih
    rw [List.length_append]; omega
  rw [← hF]
  clear hF
  simp [h1, encETypes, Nat.add_assoc]
  refine loop_intro (ι := { k : Nat // k ≤ t.edges.length }) (fun k => ⟨[(2, .ptr R 0), (3, .ptr (R + 1) 0), (7, .osl (R + 2) 0 (F k.1).length none 4), (17, encETypes t.edges), (18, .int .i64 t.edges.length), (19, .int .i64 k.1)],
      [(R, typesC t), (R + 1, hostC n e v), (R + 2, excCs (F k.1))], R + 3⟩) (fun k => t.edges.length - k.1) ⟨0, by simp⟩ ?_ ?_
  · refine shift_phantom.trans ?_
    simp [hset, Nat.add_assoc]
    refine shift_ren [(R, R), (R + 1, R + 1), (R + 2, R + 2)] [] [R, R + 1, R + 2] (by omega) ?_ ?_ ?_ ?_
    · simp [NsOK]
    · simp [FzL]
    · simp [look, encETypes, hF0]
    · simp [HpTo_cons, HpTo_nil, look, typesC, hostC, encETypes, hF0, excCs, toL_cons, toL_nil]
  rintro ⟨k, hk⟩
  have hwk : IntKind.i64.wrap ((k : Int) + 1) = ((k + 1 : Nat) : Int) := wrap_nat (by omega)
  have hal := hFl k
  have hsucc := hFs k
  simp only
  rcases Nat.lt_or_ge k t.edges.length with hlt | hge
  · have hl7 : k * 7 + 7 ≤ t.edges.length * 7 := by omega
    obtain ⟨i1, i2⟩ := edgeT_inside hv k hlt
    have a1 := excOne_len t n e k true t.edges[k].fr t.edges[k].ol t.edges[k].oh
    have a2 := excOne_len t n e k false t.edges[k].to t.edges[k].il t.edges[k].ih
    have hE : excEdge t n e k = excOne t n e k true t.edges[k].fr t.edges[k].ol t.edges[k].oh ++ excOne t n e k false t.edges[k].to t.edges[k].il t.edges[k].ih := by simp [excEdge, hlt]
    rw [hE] at hsucc
    generalize F k = acc at *
    simp [typesC, hostC, encETypes, hlt, hl7, edgeTCs_at _ _ hlt, edgeTC, spl, Nat.add_assoc, -Subtype.exists]
    refine call_val (spec119 _ t ht hv n e v hn he hin k true t.edges[k].fr t.edges[k].ol t.edges[k].oh i1) (by simp [typesC, hostC, encETypes]) ?_
    generalize excOne t n e k true t.edges[k].fr t.edges[k].ol t.edges[k].oh = x at *
    have hl1 : acc.length + x.length ≤ 4294967296 := by omega
    simp [encExcs, hl1, Nat.add_assoc, -Subtype.exists]
    refine call_val (spec119 _ t ht hv n e v hn he hin k false t.edges[k].to t.edges[k].il t.edges[k].ih i2) (by simp [typesC, hostC, encETypes]) ?_
    generalize excOne t n e k false t.edges[k].to t.edges[k].il t.edges[k].ih = y at *
    have hl2 : acc.length + (x.length + y.length) ≤ 4294967296 := by omega
    have hl3 : (acc.length + x.length) * 4 ≤ acc.length * 4 + x.length * 4 := by omega
    simp [encExcs, hl2, hl3, hwk, Nat.add_assoc, -Subtype.exists]
    refine ⟨⟨k + 1, hlt⟩, by simp only; omega, shift_ren [(R, R), (R + 1, R + 1), (R + 5, R + 2)] [] [R, R + 1, R + 5] (by omega) ?_ ?_ ?_ ?_⟩
    · simp [NsOK]
    · simp [FzL]
    · simp [look, hsucc, encETypes, Nat.add_assoc]
    · simp [HpTo_cons, HpTo_nil, look, hsucc, excCs_append, typesC, hostC, encETypes, toL_cons, toL_nil]
      rw [List.take_of_length_le (l := excCs acc) (by simp), List.take_of_length_le (l := excCs acc ++ excCs x) (by simp; omega), List.take_of_length_le (by simp), List.append_assoc]
      exact toL_append (toL_refl (nmL_excCs _)) (toL_append (toL_refl (nmL_excCs _)) (toL_refl (nmL_excCs _)))
  · have ek : k = t.edges.length := by omega
    subst ek
    simp
    refine ret_ren (v := .tup [.osl (R + 2) 0 (F t.edges.length).length none 4, .int .i64 0]) ?_ [] [(R + 2, excCs (F t.edges.length))] [] ?_ ?_ ?_ ?_
    · simp [resA, resOne]
    · simp [NsOK]
    · simp [FzL, look]
    · simp [lookF, encExcs]
      exact (List.take_of_length_le (by simp)).symm
    · simp [HpTo_nil]
end Go.Av
/- The excesses, in the reference. -/
namespace Go.Av
set_option linter.unusedVariables false
set_option linter.unusedSimpArgs false
open Go.Proofs

/-- The excesses of a side of an edge type. -/
def sideAt (t : TypesT) (n : List Int) (e : List (Int × Int × Int)) (k : Nat) (x : EdgeT) (s : Nat) : Nat → List ExcT :=
  excAt t n e k (decide (s = 0)) (if s = 0 then x.fr else x.to) (if s = 0 then x.ol else x.il) (if s = 0 then x.oh else x.ih)

def tail36 : BC := .seq b36x13 (.block 4 b36x21)
abbrev y22 : BC := .block 3 (.seq b36x10 (.seq (.seq b36x11 (.cond (T 49) b36x12 .skip)) tail36))
abbrev y24 : BC := .loop (.seq (.seq b36x9 (.cond (T 39) .skip (.exit 2))) (.seq y22 b36x23))
abbrev y26 : BC := .seq (.seq b36x6 (.cond (T 30) .skip (.exit 0))) (.seq (.block 1 (.seq b36x7 (.seq b36x8 (.block 2 y24)))) b36x25)
abbrev y27 : BC := .loop y26
abbrev y29 : BC := .seq (.seq b36x1 (.seq b36x2 (.cond (T 24) (.seq b36x3 .ret) .skip))) (.seq b36x4 (.seq (.seq b36x5 (.block 0 y27)) (.seq b36x28 .ret)))
abbrev y36 : BC := .seq b36x0 y29

theorem inner36 (R : Nat) (t : TypesT) (ht : t.ok) (hv : (validT t).2 = 0) (n : List Int) (e : List (Int × Int × Int)) (v : List (List Int)) (hn : n.length ≤ 1048576) (he : e.length ≤ 1048576) (hin : ∀ x ∈ n, insideB t x = true)
    (k s : Nat) (x : EdgeT) (kind low high : Int) (hk : 0 ≤ kind) (ac : List ExcT) (hac : ac.length ≤ 1048576) (Q : AX → St → Prop) (E : Nat → List ExcT) (hE0 : E 0 = ac) (hEs : ∀ i, E (i + 1) = E i ++ excAt t n e k (decide (s = 0)) kind low high i) (hEl : ∀ i, (E i).length ≤ ac.length + i)
    (hQ : ∀ rs, rget rs 2 = .ptr R 0 → rget rs 3 = .ptr (R + 1) 0 → rget rs 8 = .osl (R + 2) 0 (E n.length).length none 4 → rget rs 9 = .int .i64 k → rget rs 10 = .ptr (R + 3) 0 → rget rs 11 = .int .i64 s →
      Q .normal ⟨rs, [(R, typesC t), (R + 1, hostC n e v), (R + 2, excCs (E n.length)), (R + 3, edgeTC x)], R + 4⟩)
    (rs : List (Nat × AV)) (r2 : rget rs 2 = .ptr R 0) (r3 : rget rs 3 = .ptr (R + 1) 0) (r8 : rget rs 8 = .osl (R + 2) 0 ac.length none 4) (r9 : rget rs 9 = .int .i64 k) (r10 : rget rs 10 = .ptr (R + 3) 0) (r11 : rget rs 11 = .int .i64 s)
    (r12 : rget rs 12 = .int .i64 kind) (r13 : rget rs 13 = .int .i64 low) (r14 : rget rs 14 = .int .i64 high) :
    awb Tryz.prog R tail36 Q ⟨rs, [(R, typesC t), (R + 1, hostC n e v), (R + 2, excCs ac), (R + 3, edgeTC x)], R + 4⟩ := by
  unfold tail36
  have hsb : decide ((s : Int) = 0) = decide (s = 0) := by rw [decide_eq_decide]; omega
  simp
  refine loop_sub (ι := { i : Nat // i ≤ n.length }) (fun i => ⟨[(2, .ptr R 0), (3, .ptr (R + 1) 0), (8, .osl (R + 2) 0 (E i.1).length none 4), (9, .int .i64 k), (10, .ptr (R + 3) 0), (11, .int .i64 s), (12, .int .i64 kind), (13, .int .i64 low), (14, .int .i64 high), (15, .int .i64 i.1)],
      [(R, typesC t), (R + 1, hostC n e v), (R + 2, excCs (E i.1)), (R + 3, edgeTC x)], R + 4⟩) (fun i => n.length - i.1) ⟨0, by simp⟩ ?_ ?_ (Nat.le_refl _) ?_
  · simp [r2, r3, r8, r9, r10, r11, r12, r13, r14, hE0]
  · simp [hE0]
  rintro ⟨i, hi⟩
  have hwi : IntKind.i64.wrap ((i : Int) + 1) = ((i + 1 : Nat) : Int) := wrap_nat (by omega)
  have hal := hEl i
  have hsucc := hEs i
  simp only
  rcases Nat.lt_or_ge i n.length with hlt | hge
  · generalize hacc : E i = acc at *
    have hni := hin _ (List.getElem_mem hlt)
    obtain ⟨m, hm, hml⟩ := inside_nat hni
    have hfi : excAt t n e k (decide (s = 0)) kind low high i = if belowT t.nodes m kind = true then if (countG e k i (decide (s = 0)) : Int) < low ∨ (0 ≤ high ∧ (countG e k i (decide (s = 0)) : Int) > high) then [⟨k, i, countG e k i (decide (s = 0)), decide (s = 0)⟩] else [] else [] := by
      simp [excAt, hlt, hm]
    rw [hfi] at hsucc
    simp [typesC, hostC, graphC, encInts, hlt, hm, Nat.add_assoc, -Subtype.exists]
    refine call_val (spec120 t ht kind hk m hml (validT_par hv m) _) (by simp [typesC]) ?_
    cases hb : belowT t.nodes m kind with
    | false =>
      have e1 : E (i + 1) = acc := by rw [hsucc, hb]; simp
      simp [hwi, -Subtype.exists]
      refine ⟨⟨i + 1, hlt⟩, by simp only; omega, shift_sub ?_ ?_ (Nat.le_refl _)⟩
      · simp [e1]
      · simp [e1, typesC, hostC, graphC, encInts]
    | true =>
    rw [hb, if_pos rfl] at hsucc
    simp [hostC, graphC, hsb, -Subtype.exists]
    refine call_val (spec121 _ n e he k i (decide (s = 0))) (by simp [graphC, encInts]) ?_
    have hc : countG e k i (decide (s = 0)) ≤ e.length := List.countP_le_length
    generalize countG e k i (decide (s = 0)) = c at *
    have hl1 : acc.length + 1 ≤ 4294967296 := by omega
    by_cases k1 : (c : Int) < low
    · have e1 : E (i + 1) = acc ++ [⟨k, i, c, decide (s = 0)⟩] := by rw [hsucc, if_pos (.inl k1)]
      simp [k1, typesC, hostC, graphC, encEdges, aFill, repL, spl, hl1, hsb, hwi, Nat.add_assoc, -Subtype.exists]
      refine ⟨⟨i + 1, hlt⟩, by simp only; omega, shift_ren [(R, R), (R + 1, R + 1), (R + 5, R + 2), (R + 3, R + 3)] [] [R, R + 1, R + 5, R + 3] (by omega) ?_ ?_ ?_ ?_⟩
      · simp [NsOK]
      · simp [FzL]
      · simp [look, e1]
      · simp [HpTo_cons, HpTo_nil, look, e1, excCs_append, typesC, hostC, graphC, encInts, encEdges, toL_cons, toL_nil]
        refine ⟨?_, ?_⟩
        · exact toL_exc acc ⟨k, i, c, decide (s = 0)⟩
        · exact toL_refl (nmL_edgeTC _)
    by_cases k2 : 0 ≤ high
    · by_cases k3 : high < (c : Int)
      · have e1 : E (i + 1) = acc ++ [⟨k, i, c, decide (s = 0)⟩] := by rw [hsucc, if_pos (.inr ⟨k2, k3⟩)]
        simp [k1, k2, k3, typesC, hostC, graphC, encEdges, aFill, repL, spl, hl1, hsb, hwi, Nat.add_assoc, -Subtype.exists]
        refine ⟨⟨i + 1, hlt⟩, by simp only; omega, shift_ren [(R, R), (R + 1, R + 1), (R + 5, R + 2), (R + 3, R + 3)] [] [R, R + 1, R + 5, R + 3] (by omega) ?_ ?_ ?_ ?_⟩
        · simp [NsOK]
        · simp [FzL]
        · simp [look, e1]
        · simp [HpTo_cons, HpTo_nil, look, e1, excCs_append, typesC, hostC, graphC, encInts, encEdges, toL_cons, toL_nil]
          refine ⟨?_, ?_⟩
          · exact toL_exc acc ⟨k, i, c, decide (s = 0)⟩
          · exact toL_refl (nmL_edgeTC _)
      · have e1 : E (i + 1) = acc := by rw [hsucc, if_neg (by omega), List.append_nil]
        simp [k1, k2, k3, hwi, -Subtype.exists]
        refine ⟨⟨i + 1, hlt⟩, by simp only; omega, shift_sub ?_ ?_ (Nat.le_refl _)⟩
        · simp [e1]
        · simp [e1, typesC, hostC, graphC, encInts, encEdges]
    · have e1 : E (i + 1) = acc := by rw [hsucc, if_neg (by omega), List.append_nil]
      simp [k1, k2, hwi, -Subtype.exists]
      refine ⟨⟨i + 1, hlt⟩, by simp only; omega, shift_sub ?_ ?_ (Nat.le_refl _)⟩
      · simp [e1]
      · simp [e1, typesC, hostC, graphC, encInts, encEdges]
  · have ei : i = n.length := by omega
    subst ei
    simp [hostC, graphC, encInts]
    exact hQ _ (by simp) (by simp) (by simp) (by simp) (by simp) (by simp)

theorem spec36 (R : Nat) (t : TypesT) (ht : t.ok) (n : List Int) (e : List (Int × Int × Int)) (v : List (List Int)) (hn : n.length ≤ 1048576) (he : e.length ≤ 1048576) (hr : ∀ r ∈ v, r.length ≤ 1048576) :
    Spec Tryz.prog R 0 36 [.agg (typesC t), .agg (hostC n e v)] [] (.tup [encExcs (excsT t n e v).1, .int .i64 (excsT t n e v).2]) [] := by
  refine spec_intro hmix Tryz.func36 c36 (fun vs w => Tryz.call36 vs w) (by simp) (by simp [Tryz.ntmps36]) ?_
  show awb _ _ y36 (retK _ _ _ _ _) _
  simp [typesC, hostC, Nat.add_assoc]
  refine call_val (spec34 _ t ht n e v hn he hr) (by simp [typesC, hostC]) ?_
  unfold excsT
  by_cases h1 : (hostE t n e v).2 = 0
  case neg =>
    simp [h1]
    refine ret_ren (v := .tup [.nilsl, .int .i64 (hostE t n e v).2]) ?_ [] [] [] ?_ ?_ ?_ ?_
    · simp [resA, resOne]
    · simp [NsOK]
    · simp [FzL]
    · simp [encExcs, excCs]
    · simp [HpTo_nil]
  obtain ⟨hv, hg, _, hin⟩ := hostE_ok h1
  obtain ⟨g1, g2, _, _⟩ := validG_ok hg
  have hel := (validT_len hv).2.2
  rw [if_neg (by simp [h1])]
  obtain ⟨F, hF⟩ : ∃ F : Nat → List ExcT, ∀ i, F i = (List.range i).flatMap (excEdge t n e) := ⟨_, fun _ => rfl⟩
  have hF0 : F 0 = [] := by rw [hF]; rfl
  have hFs : ∀ i, F (i + 1) = F i ++ excEdge t n e i := fun i => by rw [hF, hF]; exact flat_succ _ i
  have hFl : ∀ i, (F i).length ≤ i * 80 := fun i => by
    rw [hF]
    refine flat1_len _ 80 (fun j => ?_) i
    unfold excEdge
    have a1 := excOne_len t n e j true (t.edges.getD j default).fr (t.edges.getD j default).ol (t.edges.getD j default).oh
    have a2 := excOne_len t n e j false (t.edges.getD j default).to (t.edges.getD j default).il (t.edges.getD j default).ih
    rw [List.length_append]; omega
  rw [← hF]
  clear hF
  simp [h1, Nat.add_assoc]
  refine loop_intro (ι := { k : Nat // k ≤ t.edges.length }) (fun k => ⟨[(2, .ptr R 0), (3, .ptr (R + 1) 0), (8, .osl (R + 2) 0 (F k.1).length none 4), (9, .int .i64 k.1)],
      [(R, typesC t), (R + 1, hostC n e v), (R + 2, excCs (F k.1))], R + 3⟩) (fun k => t.edges.length - k.1) ⟨0, by simp⟩ ?_ ?_
  · refine shift_phantom.trans ?_
    simp [hset, Nat.add_assoc]
    refine shift_ren [(R, R), (R + 1, R + 1), (R + 2, R + 2)] [] [R, R + 1, R + 2] (by omega) ?_ ?_ ?_ ?_
    · simp [NsOK]
    · simp [FzL]
    · simp [look, hF0]
    · simp [HpTo_cons, HpTo_nil, look, typesC, hostC, hF0, excCs, toL_cons, toL_nil]
  rintro ⟨k, hk⟩
  have hwk : IntKind.i64.wrap ((k : Int) + 1) = ((k + 1 : Nat) : Int) := wrap_nat (by omega)
  have hal := hFl k
  have hsucc := hFs k
  simp only
  rcases Nat.lt_or_ge k t.edges.length with hlt | hge
  · have hl7 : k * 7 + 7 ≤ t.edges.length * 7 := by omega
    obtain ⟨i1, i2⟩ := edgeT_inside hv k hlt
    have hE : excEdge t n e k = (List.range n.length).flatMap (sideAt t n e k t.edges[k] 0) ++ (List.range n.length).flatMap (sideAt t n e k t.edges[k] 1) := by
      simp [excEdge, hlt, excOne, sideAt]
    rw [hE] at hsucc
    generalize F k = acc at *
    generalize hx : t.edges[k] = x at *
    have hat := edgeTCs_at t.edges k hlt
    rw [hx] at hat
    obtain ⟨G, hG⟩ : ∃ G : Nat → List ExcT, ∀ s, G s = if s = 0 then acc else if s = 1 then acc ++ (List.range n.length).flatMap (sideAt t n e k x 0) else acc ++ ((List.range n.length).flatMap (sideAt t n e k x 0) ++ (List.range n.length).flatMap (sideAt t n e k x 1)) := ⟨_, fun _ => rfl⟩
    have hG0 : G 0 = acc := by rw [hG]; rfl
    have hG2 : G 2 = acc ++ ((List.range n.length).flatMap (sideAt t n e k x 0) ++ (List.range n.length).flatMap (sideAt t n e k x 1)) := by rw [hG]; rfl
    have hGs : ∀ s, s < 2 → G (s + 1) = G s ++ (List.range n.length).flatMap (sideAt t n e k x s) := fun s hs => by
      rcases (by omega : s = 0 ∨ s = 1) with rfl | rfl
      · rw [hG, hG]; rfl
      · rw [hG, hG]; simp
    have hsl : ∀ s m, ((List.range m).flatMap (sideAt t n e k x s)).length ≤ m * 1 := fun s m => flat1_len _ 1 (fun i => excAt_len ..) m
    have hGl : ∀ s, s ≤ 2 → (G s).length ≤ acc.length + 80 := fun s hs => by
      have b0 := hsl 0 n.length
      have b1 := hsl 1 n.length
      rw [hG]
      split
      · omega
      · split <;> simp only [List.length_append] <;> omega
    rw [← hG2] at hsucc
    clear hG
    simp [typesC, encETypes, hlt, hl7, hat, edgeTC, spl, Nat.add_assoc, -Subtype.exists]
    refine loop_sub (ι := { s : Nat // s ≤ 2 }) (fun s => ⟨[(2, .ptr R 0), (3, .ptr (R + 1) 0), (8, .osl (R + 2) 0 (G s.1).length none 4), (9, .int .i64 k), (10, .ptr (R + 3) 0), (11, .int .i64 s.1)],
      [(R, typesC t), (R + 1, hostC n e v), (R + 2, excCs (G s.1)), (R + 3, edgeTC x)], R + 4⟩) (fun s => 2 - s.1) ⟨0, by simp⟩ ?_ ?_ (Nat.le_refl _) ?_
    · simp [hG0]
    · simp [typesC, hostC, encETypes, edgeTC, hG0]
    rintro ⟨s, hs⟩
    have hws : IntKind.i64.wrap ((s : Int) + 1) = ((s + 1 : Nat) : Int) := wrap_nat (by omega)
    simp only
    rcases Nat.lt_or_ge s 2 with hs2 | hs2
    · have hs2' : (s : Int) < 2 := by omega
      have hsb : decide ((s : Int) = 0) = decide (s = 0) := by rw [decide_eq_decide]; omega
      obtain ⟨kind, hkind⟩ : ∃ a, a = if s = 0 then x.fr else x.to := ⟨_, rfl⟩
      obtain ⟨low, hlow⟩ : ∃ a, a = if s = 0 then x.ol else x.il := ⟨_, rfl⟩
      obtain ⟨high, hhigh⟩ : ∃ a, a = if s = 0 then x.oh else x.ih := ⟨_, rfl⟩
      have hki : insideB t kind = true := by rw [hkind]; split <;> assumption
      have hk0 : 0 ≤ kind := by simp only [insideB, Bool.and_eq_true, decide_eq_true_eq] at hki; exact hki.1
      have hside : sideAt t n e k x s = excAt t n e k (decide (s = 0)) kind low high := by unfold sideAt; rw [hkind, hlow, hhigh]
      have hgs := hGs s hs2
      have hgl := hGl s hs
      rw [hside] at hgs
      generalize hacs : G s = ac at *
      obtain ⟨f, hf⟩ : ∃ f, f = excAt t n e k (decide (s = 0)) kind low high := ⟨_, rfl⟩
      rw [← hf] at hgs
      obtain ⟨E, hE⟩ : ∃ E : Nat → List ExcT, ∀ i, E i = ac ++ (List.range i).flatMap f := ⟨_, fun _ => rfl⟩
      have hE0 : E 0 = ac := by rw [hE]; simp
      have hEs : ∀ i, E (i + 1) = E i ++ f i := fun i => by rw [hE, hE, flat_succ, List.append_assoc]
      have hEl : ∀ i, (E i).length ≤ ac.length + i := fun i => by
        have := flat1_len f 1 (fun j => by rw [hf]; exact excAt_len ..) i
        rw [hE, List.length_append]; omega
      rw [← hE] at hgs
      clear hE hside hGs hacs
      have fin : ∀ rs, rget rs 2 = .ptr R 0 → rget rs 3 = .ptr (R + 1) 0 → rget rs 8 = .osl (R + 2) 0 (E n.length).length none 4 → rget rs 9 = .int .i64 k → rget rs 10 = .ptr (R + 3) 0 → rget rs 11 = .int .i64 ((s + 1 : Nat) : Int) →
          ∃ q : { s : Nat // s ≤ 2 }, 2 - q.1 < 2 - s ∧ St.shift R ⟨rs, [(R, typesC t), (R + 1, hostC n e v), (R + 2, excCs (E n.length)), (R + 3, edgeTC x)], R + 4⟩ ⟨[(2, .ptr R 0), (3, .ptr (R + 1) 0), (8, .osl (R + 2) 0 (G q.1).length none 4), (9, .int .i64 k), (10, .ptr (R + 3) 0), (11, .int .i64 q.1)],
            [(R, typesC t), (R + 1, hostC n e v), (R + 2, excCs (G q.1)), (R + 3, edgeTC x)], R + 4⟩ := by
        intro rs r2 r3 r8 r9 r10 r11
        refine ⟨⟨s + 1, by omega⟩, by simp only; omega, shift_sub ?_ ?_ (Nat.le_refl _)⟩
        · simp [r2, r3, r8, r9, r10, r11, hgs]
        · simp [hgs]
      rcases (by omega : s = 0 ∨ s = 1) with rfl | rfl
      · simp at hkind hlow hhigh
        subst hkind hlow hhigh
        simp [edgeTC_1, edgeTC_3, edgeTC_4]
        refine inner36 R t ht hv n e v hn he hin k 0 x x.fr x.ol x.oh hk0 ac (by omega) _ E hE0 (by rw [← hf]; exact hEs) hEl ?_ _ (by simp) (by simp) (by simp) (by simp) (by simp) (by simp) (by simp) (by simp) (by simp)
        intro rs r2 r3 r8 r9 r10 r11
        have hw1 : IntKind.i64.wrap (1 : Int) = 1 := wrap_id (by omega) (by omega)
        simp [r11, hw1, -Subtype.exists]
        exact fin _ (by simp [r2]) (by simp [r3]) (by simp [r8]) (by simp [r9]) (by simp [r10]) (by simp)
      · simp at hkind hlow hhigh
        subst hkind hlow hhigh
        simp [edgeTC_1, edgeTC_2, edgeTC_3, edgeTC_4, edgeTC_5, edgeTC_6]
        refine inner36 R t ht hv n e v hn he hin k 1 x x.to x.il x.ih hk0 ac (by omega) _ E hE0 (by rw [← hf]; exact hEs) hEl ?_ _ (by simp) (by simp) (by simp) (by simp) (by simp) (by simp) (by simp) (by simp) (by simp)
        intro rs r2 r3 r8 r9 r10 r11
        have hw2 : IntKind.i64.wrap (2 : Int) = 2 := wrap_id (by omega) (by omega)
        simp [r11, hw2, -Subtype.exists]
        obtain ⟨q, q1, q2⟩ := fin ((11, .int .i64 2) :: (41, .int .i64 2) :: (40, .int .i64 1) :: rs) (by simp [r2]) (by simp [r3]) (by simp [r8]) (by simp [r9]) (by simp [r10]) (by simp)
        exact ⟨q, by omega, q2⟩
    · have es : s = 2 := by omega
      subst es
      simp [hwk, -Subtype.exists]
      refine ⟨⟨k + 1, hlt⟩, by simp only; omega, shift_ren [(R, R), (R + 1, R + 1), (R + 2, R + 2)] [] [R, R + 1, R + 2] (by omega) ?_ ?_ ?_ ?_⟩
      · simp [NsOK]
      · simp [FzL]
      · simp [look, hsucc]
      · simp [HpTo_cons, HpTo_nil, look, hsucc, typesC, hostC, encETypes, toL_cons, toL_nil]
        rw [List.take_of_length_le (by simp)]
        exact toL_refl (nmL_excCs _)
  · have ek : k = t.edges.length := by omega
    subst ek
    simp [typesC, encETypes]
    refine ret_ren (v := .tup [.osl (R + 2) 0 (F t.edges.length).length none 4, .int .i64 0]) ?_ [] [(R + 2, excCs (F t.edges.length))] [] ?_ ?_ ?_ ?_
    · simp [resA, resOne]
    · simp [NsOK]
    · simp [FzL, look]
    · simp [lookF, encExcs]
      exact (List.take_of_length_le (by simp)).symm
    · simp [HpTo_nil]
end Go.Av
/- Whether a type graph and hosts are small. -/
namespace Go.Av
set_option linter.unusedVariables false
set_option linter.unusedSimpArgs false
open Go.Proofs

def attrFew (a : AttrT) : Bool := decide (a.name.size ≤ 40) && decide (a.names.length ≤ 25) && a.names.all fun s => decide (s.size ≤ 40)
def nodesFew : List NodeT → Nat → Bool
  | [], _ => true
  | x :: l, c => decide (c + x.attrs.length ≤ 30) && (decide (x.name.size ≤ 40) && (x.attrs.all attrFew && nodesFew l (c + x.attrs.length)))
def fewT (t : TypesT) : Bool := decide (t.nodes.length ≤ 20) && (decide (t.edges.length ≤ 30) && (nodesFew t.nodes 0 && t.edges.all fun e => decide (e.name.size ≤ 40)))

theorem nodesFew_at {ns : List NodeT} {i c : Nat} (h : i < ns.length) : nodesFew (ns.drop i) c = (decide (c + ns[i].attrs.length ≤ 30) && (decide (ns[i].name.size ≤ 40) && (ns[i].attrs.all attrFew && nodesFew (ns.drop (i + 1)) (c + ns[i].attrs.length)))) := by
  rw [List.drop_eq_getElem_cons h]; rfl

theorem all_of {α : Type} {l : List α} {p : α → Bool} {m : Nat} (hm : l.length ≤ m) (h : ∀ j (hj : j < l.length), j < m → p l[j] = true) : l.all p = true := by
  rw [List.all_eq_true]
  intro x hx
  obtain ⟨j, hj, rfl⟩ := List.getElem_of_mem hx
  exact h j hj (by omega)
theorem all_not {α : Type} {l : List α} {p : α → Bool} {k : Nat} (hk : k < l.length) (h : p l[k] = false) : l.all p = false := by
  rw [List.all_eq_false]; exact ⟨l[k], List.getElem_mem hk, by simp [h]⟩
theorem ext1 {α : Type} {l : List α} {p : α → Bool} {k : Nat} (hk : k < l.length) (h : ∀ j (hj : j < l.length), j < k → p l[j] = true) (hp : p l[k] = true) : ∀ j (hj : j < l.length), j < k + 1 → p l[j] = true := fun j hj hjk => by
  rcases Nat.lt_or_ge j k with h' | h'
  · exact h j hj h'
  · have : j = k := by omega
    subst this; exact hp

set_option maxHeartbeats 1000000 in
theorem spec18 (R : Nat) (t : TypesT) (ht : t.ok) : Spec Tryz.prog R 0 18 [.agg (typesC t)] [] (.bool (fewT t)) [] := by
  refine spec_intro hmix Tryz.func18 c18 (fun vs w => Tryz.call18 vs w) (by simp) (by simp [Tryz.ntmps18]) ?_
  show awb _ _ _ (retK _ _ _ _ _) _
  have hnl := ht.nl
  have hel := ht.el
  by_cases h1 : t.nodes.length ≤ 20
  case neg =>
    have h1' : (20 : Int) < t.nodes.length := by omega
    simp [typesC, encNodes, h1']
    exact ret_pure (by simp [resA, resOne, fewT, h1]) (by simp [AV.nm])
  have h1' : ¬ (20 : Int) < t.nodes.length := by omega
  by_cases h2 : t.edges.length ≤ 30
  case neg =>
    have h2' : (30 : Int) < t.edges.length := by omega
    simp [typesC, encNodes, encETypes, h1', h2']
    exact ret_pure (by simp [resA, resOne, fewT, h2]) (by simp [AV.nm])
  have h2' : ¬ (30 : Int) < t.edges.length := by omega
  have hFew : fewT t = (nodesFew t.nodes 0 && t.edges.all fun e => decide (e.name.size ≤ 40)) := by unfold fewT; simp [h1, h2]
  simp [typesC, encNodes, encETypes, h1', h2']
  refine loop_sub (ι := { p : Nat × Nat // p.1 ≤ t.nodes.length ∧ nodesFew t.nodes 0 = nodesFew (t.nodes.drop p.1) p.2 ∧ p.2 ≤ 30 }) (fun p => ⟨[(1, .ptr R 0), (3, .int .i64 p.1.2), (4, .int .i64 p.1.1)], [(R, typesC t)], R + 1⟩) (fun p => t.nodes.length - p.1.1) ⟨(0, 0), by simp⟩ ?_ ?_ (Nat.le_refl _) ?_
  · simp
  · simp [typesC, encNodes, encETypes]
  rintro ⟨⟨i, c⟩, hi, hi2, hc⟩
  simp only at hi hi2 hc
  rcases Nat.lt_or_ge i t.nodes.length with hlt | hge
  · obtain ⟨n1, n2, n3, n4⟩ := ht.n _ (List.getElem_mem hlt)
    have ga := nodeTCs_get t.nodes i 3 hlt (by omega)
    have gn := nodeTCs_name t.nodes i hlt
    have hi4 : i * 4 < t.nodes.length * 4 := by omega
    rw [nodesFew_at hlt] at hi2
    have hwi : IntKind.i64.wrap ((i : Int) + 1) = ((i + 1 : Nat) : Int) := wrap_nat (by omega)
    generalize hx : t.nodes[i] = x at *
    have hwc : IntKind.i64.wrap ((c : Int) + x.attrs.length) = ((c + x.attrs.length : Nat) : Int) := by rw [wrap_id (by omega) (by omega)]; omega
    by_cases c1 : c + x.attrs.length ≤ 30
    case neg =>
      have c1' : (30 : Int) < ((c + x.attrs.length : Nat) : Int) := by omega
      simp [typesC, encNodes, hlt, ga, nodeTC, encAttrs, hwc, c1', -Int.natCast_add]
      exact ret_pure (by simp [resA, resOne]; rw [hFew, hi2]; simp [c1]) (by simp [AV.nm])
    have c1' : ¬ (30 : Int) < ((c + x.attrs.length : Nat) : Int) := by omega
    by_cases c2 : x.name.size ≤ 40
    case neg =>
      have c2' : (40 : Int) < x.name.size := by omega
      simp [typesC, encNodes, hlt, ga, gn, hi4, nodeTC, encAttrs, hwc, c1', c2', -Int.natCast_add]
      exact ret_pure (by simp [resA, resOne]; rw [hFew, hi2]; simp [c2]) (by simp [AV.nm])
    have c2' : ¬ (40 : Int) < x.name.size := by omega
    have hi3 : nodesFew t.nodes 0 = (x.attrs.all attrFew && nodesFew (t.nodes.drop (i + 1)) (c + x.attrs.length)) := by rw [hi2]; simp [c1, c2]
    simp [typesC, encNodes, hlt, ga, gn, hi4, nodeTC, encAttrs, hwc, c1', c2', -Int.natCast_add, -Subtype.exists]
    refine loop_sub (ι := { k : Nat // k ≤ x.attrs.length ∧ ∀ j (hj : j < x.attrs.length), j < k → attrFew x.attrs[j] = true }) (fun k => ⟨[(1, .ptr R 0), (3, .int .i64 ((c + x.attrs.length : Nat) : Int)), (4, .int .i64 i), (5, .int .i64 k.1)], [(R, typesC t)], R + 1⟩) (fun k => x.attrs.length - k.1) ⟨0, by simp⟩ ?_ ?_ (Nat.le_refl _) ?_
    · simp
    · simp [typesC, encNodes, encETypes]
    rintro ⟨k, hk, hp⟩
    rcases Nat.lt_or_ge k x.attrs.length with hlk | hgk
    · have hwk : IntKind.i64.wrap ((k : Int) + 1) = ((k + 1 : Nat) : Int) := wrap_nat (by omega)
      have h4 : k * 4 + 4 ≤ x.attrs.length * 4 := by omega
      have hat := attrCs_at x.attrs k hlk
      obtain ⟨a1, a2, a3, a4, a5⟩ := n3 _ (List.getElem_mem hlk)
      have next := ext1 hlk hp
      have bad : attrFew x.attrs[k] = false → fewT t = false := fun h => by rw [hFew, hi3, all_not hlk h]; simp
      generalize ha : x.attrs[k] = a at *
      by_cases d1 : a.name.size ≤ 40
      case neg =>
        have d1' : (40 : Int) < a.name.size := by omega
        simp [typesC, encNodes, hlt, hlk, ga, nodeTC, encAttrs, h4, hat, attrC, spl, d1', Nat.add_assoc, -Int.natCast_add]
        have hb := bad (by simp [attrFew, d1])
        exact ret_pure (by simp [resA, resOne, hb]) (by simp [AV.nm])
      have d1' : ¬ (40 : Int) < a.name.size := by omega
      by_cases d2 : a.names.length ≤ 25
      case neg =>
        have d2' : (25 : Int) < a.names.length := by omega
        simp [typesC, encNodes, hlt, hlk, ga, nodeTC, encAttrs, encStrs, h4, hat, attrC, spl, d1', d2', Nat.add_assoc, -Int.natCast_add]
        have hb := bad (by simp [attrFew, d2])
        exact ret_pure (by simp [resA, resOne, hb]) (by simp [AV.nm])
      have d2' : ¬ (25 : Int) < a.names.length := by omega
      simp [typesC, encNodes, hlt, hlk, ga, nodeTC, encAttrs, encStrs, h4, hat, attrC, spl, d1', d2', Nat.add_assoc, -Int.natCast_add, -Subtype.exists]
      refine loop_sub (ι := { m : Nat // m ≤ a.names.length ∧ ∀ j (hj : j < a.names.length), j < m → decide (a.names[j].size ≤ 40) = true }) (fun m => ⟨[(1, .ptr R 0), (3, .int .i64 ((c + x.attrs.length : Nat) : Int)), (4, .int .i64 i), (5, .int .i64 k), (6, .ptr (R + 1) 0), (7, .int .i64 m.1)], [(R, typesC t), (R + 1, attrC a)], R + 2⟩) (fun m => a.names.length - m.1) ⟨0, by simp⟩ ?_ ?_ (Nat.le_refl _) ?_
      · simp
      · simp [typesC, encNodes, encETypes, attrC, encStrs]
      rintro ⟨m, hm, hq⟩
      rcases Nat.lt_or_ge m a.names.length with hlm | hgm
      · have hwm : IntKind.i64.wrap ((m : Int) + 1) = ((m + 1 : Nat) : Int) := wrap_nat (by omega)
        by_cases e1 : a.names[m].size ≤ 40
        · have e1' : ¬ (40 : Int) < a.names[m].size := by omega
          simp [attrC, encStrs, hlm, e1', hwm, -Subtype.exists]
          refine ⟨⟨m + 1, hlm, ext1 (p := fun s => decide (s.size ≤ 40)) hlm hq (by simpa using e1)⟩, by simp only; omega, shift_sub ?_ ?_ (Nat.le_refl _)⟩
          · simp
          · simp [attrC, encStrs]
        · have e1' : (40 : Int) < a.names[m].size := by omega
          simp [attrC, encStrs, hlm, e1']
          have hb := bad (by unfold attrFew; rw [all_not hlm (p := fun s => decide (s.size ≤ 40)) (by simpa using e1)]; simp)
          exact ret_pure (by simp [resA, resOne, hb]) (by simp [AV.nm])
      · have hgood : attrFew a = true := by
          unfold attrFew; rw [all_of hgm (fun j hj hjm => hq j hj (by omega))]; simp [d1, d2]
        simp [attrC, encStrs, Nat.not_lt.2 hgm, hwk, -Subtype.exists]
        refine ⟨⟨k + 1, hlk, next hgood⟩, by simp only; omega, shift_ren [(R, R)] [] [R] (by omega) ?_ ?_ ?_ ?_⟩
        · simp [NsOK]
        · simp [FzL]
        · simp [look]
        · simp [HpTo_cons, HpTo_nil, look, typesC, encNodes, toL_cons, toL_nil]
    · have hall : x.attrs.all attrFew = true := all_of hgk (fun j hj hjm => hp j hj (by omega))
      rw [hall, Bool.true_and] at hi3
      simp [typesC, encNodes, hlt, ga, nodeTC, encAttrs, Nat.not_lt.2 hgk, hwi, -Int.natCast_add, -Subtype.exists]
      refine ⟨⟨(i + 1, c + x.attrs.length), hlt, hi3, c1⟩, by simp only; omega, shift_sub ?_ ?_ (Nat.le_refl _)⟩
      · simp
      · simp [typesC, encNodes]
  have hn0 : nodesFew t.nodes 0 = true := by rw [hi2, List.drop_eq_nil_of_le hge]; rfl
  rw [hn0, Bool.true_and] at hFew
  simp [typesC, encNodes, encETypes, Nat.not_lt.2 hge, -Subtype.exists]
  refine loop_sub (ι := { k : Nat // k ≤ t.edges.length ∧ ∀ j (hj : j < t.edges.length), j < k → decide (t.edges[j].name.size ≤ 40) = true }) (fun k => ⟨[(1, .ptr R 0), (8, .int .i64 k.1)], [(R, typesC t)], R + 1⟩) (fun k => t.edges.length - k.1) ⟨0, by simp⟩ ?_ ?_ (Nat.le_refl _) ?_
  · simp
  · simp [typesC, encNodes, encETypes]
  rintro ⟨k, hk, hp⟩
  rcases Nat.lt_or_ge k t.edges.length with hlk | hgk
  · have hwk : IntKind.i64.wrap ((k : Int) + 1) = ((k + 1 : Nat) : Int) := wrap_nat (by omega)
    have gn := edgeTCs_name t.edges k hlk
    have h7 : k * 7 < t.edges.length * 7 := by omega
    by_cases e1 : t.edges[k].name.size ≤ 40
    · have e1' : ¬ (40 : Int) < t.edges[k].name.size := by omega
      simp [typesC, encETypes, hlk, gn, h7, e1', hwk, -Subtype.exists]
      refine ⟨⟨k + 1, hlk, ext1 (p := fun e => decide (e.name.size ≤ 40)) hlk hp (by simpa using e1)⟩, by simp only; omega, shift_sub ?_ ?_ (Nat.le_refl _)⟩
      · simp
      · simp [typesC, encETypes]
    · have e1' : (40 : Int) < t.edges[k].name.size := by omega
      simp [typesC, encETypes, hlk, gn, h7, e1']
      exact ret_pure (by simp [resA, resOne]; rw [hFew, all_not hlk (p := fun e => decide (e.name.size ≤ 40)) (by simpa using e1)]) (by simp [AV.nm])
  · simp [typesC, encETypes, Nat.not_lt.2 hgk]
    exact ret_pure (by simp [resA, resOne]; rw [hFew, all_of hgk (fun j hj hjm => hp j hj (by omega))]) (by simp [AV.nm])
end Go.Av
/- HostValid: what the walk gives. -/
namespace Go.Av
set_option linter.unusedVariables false
set_option linter.unusedSimpArgs false
open Go.Proofs

abbrev HostT := List Int × List (Int × Int × Int) × List (List Int)
def hostHC (h : HostT) : List AV := hostC h.1 h.2.1 h.2.2
def hostCs (l : List HostT) : List AV := l.flatMap hostHC
def encHosts (l : List HostT) : AV := .vsl (hostCs l) l.length none
theorem hostHC_len (a : HostT) : (hostHC a).length = 3 := rfl
@[simp] theorem hostCs_len (l : List HostT) : (hostCs l).length = l.length * 3 := flat_len hostHC_len l
theorem hostCs_at (l : List HostT) (k : Nat) (h : k < l.length) : ((hostCs l).drop (k * 3)).take 3 = hostHC l[k] := flat_at hostHC_len l k h
section nm
variable {S : Nat → Prop}
@[simp] theorem nmL_hostHC (a : HostT) : nmL S (hostHC a) := by simp [hostHC, hostC]
@[simp] theorem nmL_hostCs (l : List HostT) : nmL S (hostCs l) := nmL_flatMap (f := hostHC) (fun a => nmL_hostHC a) l
@[simp] theorem nm_encHosts (l : List HostT) : (encHosts l).nm S := nmL_hostCs l
end nm

theorem spec212 (R g : Nat) (caps : List AV) (p : HostT → Bool) (hg : ∀ (R : Nat) (y : HostT), Spec Tryz.prog R 0 g ([.agg (hostHC y)] ++ caps) [] (.bool (p y)) []) (hc : nmL (fun _ => False) caps) (l : List HostT) (hl : l.length ≤ 1048576) :
    Spec Tryz.prog R 0 212 [encHosts l, .fn g caps] [] (.int .i64 (findI l p)) [] := by
  refine spec_intro hmix Tryz.func212 c212 (fun vs w => Tryz.call212 vs w) (by simp) (by simp [Tryz.ntmps212]) ?_
  show awb _ _ _ (retK _ _ _ _ _) _
  simp [encHosts]
  refine loop_sub (ι := { k : Nat // k ≤ l.length ∧ ∀ j (hj : j < l.length), j < k → p l[j] = false }) (fun k => ⟨[(0, encHosts l), (1, .fn g caps), (7, .int .i64 l.length), (8, .int .i64 k.1)], [], R⟩) (fun k => l.length - k.1) ⟨0, by simp⟩ ?_ ?_ (Nat.le_refl _) ?_
  · simp [encHosts]
  · simp
  · rintro ⟨k, hk, hp⟩
    rcases Nat.lt_or_ge k l.length with hlt | hge
    · have h4 : k * 3 + 3 ≤ l.length * 3 := by omega
      simp [encHosts, hlt, h4, hostCs_at _ _ hlt, -Subtype.exists]
      refine call_val (hg _ _) (by simp [hc]) ?_
      cases hxy : p l[k] with
      | true =>
        simp
        exact ret_pure (by simp [resA, resOne, findI_hit hlt hp hxy]) (by simp [AV.nm])
      | false =>
        simp [wrap_nat (show k < 4611686018427387904 by omega), -Subtype.exists]
        refine ⟨⟨k + 1, hlt, fun j hj hjk => ?_⟩, ?_, shift_sub ?_ ?_ (Nat.le_refl _)⟩
        · rcases Nat.lt_or_ge j k with h | h
          · exact hp j hj h
          · have : j = k := by omega
            subst this; exact hxy
        · simp only; omega
        · simp [encHosts]
        · simp
    · simp [encHosts, Nat.not_lt.2 hge]
      exact ret_pure (by simp [resA, resOne]; rw [findI_none fun j hj => hp j hj (by omega)]) (by simp [AV.nm])

theorem spec112 (R g : Nat) (caps : List AV) (p : HostT → Bool) (hg : ∀ (R : Nat) (y : HostT), Spec Tryz.prog R 0 g ([.agg (hostHC y)] ++ caps) [] (.bool (p y)) []) (hc : nmL (fun _ => False) caps) (l : List HostT) (hl : l.length ≤ 1048576) :
    Spec Tryz.prog R 0 112 [encHosts l, .fn g caps] [] (.bool (l.any p)) [] := by
  refine spec_intro hmix Tryz.func112 c112 (fun vs w => Tryz.call112 vs w) (by simp) (by simp [Tryz.ntmps112]) ?_
  show awb _ _ _ (retK _ _ _ _ _) _
  simp
  refine call_val (spec212 _ g caps p hg hc l hl) (by simp [hc]) ?_
  simp [findI_nonneg]
  exact ret_pure (by simp [resA, resOne]) (by simp [AV.nm])


theorem spec113 (R : Nat) (h : HostT) : Spec Tryz.prog R 0 113 [.agg (hostHC h)] [] (.bool (!fewH h.1 h.2.1 h.2.2)) [] := by
  refine spec_intro hmix Tryz.func113 c113 (fun vs w => Tryz.call113 vs w) (by simp) (by simp [Tryz.ntmps113]) ?_
  show awb _ _ _ (retK _ _ _ _ _) _
  simp [hostHC, hostC]
  refine call_val (spec47 _ h.1 h.2.1 h.2.2) (by simp [hostC]) ?_
  simp
  exact ret_pure (by simp [resA, resOne]) (by simp [AV.nm])

theorem spec31 (R : Nat) (t : TypesT) (ht : t.ok) (h : HostT) : Spec Tryz.prog R 0 31 [.agg (typesC t), encHosts [h]] [] (.bool (fewT t && fewH h.1 h.2.1 h.2.2)) [] := by
  refine spec_intro hmix Tryz.func31 c31 (fun vs w => Tryz.call31 vs w) (by simp) (by simp [Tryz.ntmps31]) ?_
  show awb _ _ _ (retK _ _ _ _ _) _
  simp [typesC]
  refine call_val (spec18 _ t ht) (by simp [typesC]) ?_
  cases h1 : fewT t with
  | false =>
    simp
    exact ret_pure (by simp [resA, resOne]) (by simp [AV.nm])
  | true =>
    simp
    refine call_val (spec112 _ 113 [] (fun h => !fewH h.1 h.2.1 h.2.2) (fun R y => spec113 R y) (by simp) [h] (by simp)) (by simp) ?_
    simp
    exact ret_pure (by simp [resA, resOne]) (by simp [AV.nm])

theorem excsT_len (t : TypesT) (n : List Int) (e : List (Int × Int × Int)) (v : List (List Int)) : (excsT t n e v).1.length ≤ 1600 := by
  unfold excsT
  split
  · simp
  · rename_i h
    simp only [ne_eq, Decidable.not_not] at h
    obtain ⟨hv, hg, _, _⟩ := hostE_ok h
    have := flat1_len (excEdge t n e) 80 (fun j => by
      have h1 := (validG_ok hg).1
      unfold excEdge
      have a1 := excOne_len t n e j true (t.edges.getD j default).fr (t.edges.getD j default).ol (t.edges.getD j default).oh
      have a2 := excOne_len t n e j false (t.edges.getD j default).to (t.edges.getD j default).il (t.edges.getD j default).ih
      rw [List.length_append]; omega) t.edges.length
    have hel := (validT_len hv).2.2
    simp only
    omega

theorem spec5 (R : Nat) (t : TypesT) (ht : t.ok) (n : List Int) (e : List (Int × Int × Int)) (v : List (List Int)) :
    Spec Tryz.prog R 0 5 [.agg (typesC t), .agg (hostC n e v)] [] (.bool true) [] := by
  refine spec_intro hmix Tryz.func5 c5 (fun vs w => Tryz.call5 vs w) (by simp) (by simp [Tryz.ntmps5]) ?_
  show awb _ _ _ (retK _ _ _ _ _) _
  simp [typesC, hostC, Nat.add_assoc]
  refine call_val (spec30 _) (by simp) ?_
  simp [aFill, repL, spl, Nat.add_assoc]
  refine call_lend [(R + 2, hostC n e v)] (spec31 _ t ht (n, e, v)) ?_ rfl (by simp) ?_ ?_
  · simp [lookF, toL_cons, toL_nil, typesC, encHosts, hostCs, hostHC, hostC]
  · simp [hget, hostC]
  cases hf : (fewT t && fewH n e v) with
  | false =>
    simp
    refine call_val (spec30 _) (by simp) ?_
    simp
    exact ret_pure (by simp [resA, resOne]) (by simp)
  | true =>
  simp only [Bool.and_eq_true] at hf
  have h1 := hf.2
  simp only [fewH, Bool.and_eq_true, decide_eq_true_eq, List.all_eq_true] at h1
  obtain ⟨⟨⟨a1, a2⟩, a3⟩, b3⟩ := h1
  have a5 : ∀ r ∈ v, r.length ≤ 1000000 := fun r hr => by have := b3 r hr; omega
  have a6 : ∀ r ∈ v, r.length ≤ 1048576 := fun r hr => by have := b3 r hr; omega
  simp
  refine call_val (spec33 _ n e v (by omega) (by omega) (by omega) a5) (by simp [hostC]) ?_
  simp
  refine call_val (spec32 _ t ht n e v (by omega) (by omega) a6) (by simp [typesC, hostC]) ?_
  simp
  refine call_val (spec34 _ t ht n e v (by omega) (by omega) a6) (by simp [typesC, hostC]) ?_
  simp
  refine call_val (spec33 _ n e v (by omega) (by omega) (by omega) a5) (by simp [hostC]) ?_
  simp
  refine call_val (spec35 _ t ht n e v (by omega) (by omega) a6) (by simp [typesC, hostC]) ?_
  simp
  refine call_val (spec36 _ t ht n e v (by omega) (by omega) a6) (by simp [typesC, hostC]) ?_
  simp
  have hl := excsT_len t n e v
  refine call_val (spec37 _ (excsT t n e v).1 (excsT t n e v).1 (by omega)) (by simp) ?_
  simp
  exact ret_pure (by simp [resA, resOne]) (by simp)
end Go.Av
