/- Copies of hosts with one row of the values that can be written. -/
import Derived.Test.YtojbfpfkkcdlhaaGreatB7
import Derived.Test.YtojbfpfkkcdlhaaGreatCw0
import Derived.Test.YtojbfpfkkcdlhaaGreatAv24
namespace Go.Av
set_option linter.unusedVariables false
set_option linter.unusedSimpArgs false
open Go.Proofs

theorem sn26 : SnF Tryz.prog 26 := opBin_slNil Tryz.underlying26
theorem sn27 : SnF Tryz.prog 27 := opBin_slNil Tryz.underlying27

set_option maxRecDepth 100000 in
theorem spec27 (R : Nat) (l : List Int) (hl : l.length ≤ 1048576) : Spec Tryz.prog R 0 27 [encInts l] [] (encInts l) [] := by
  refine spec_intro hmix Tryz.func27 c27 (fun vs w => Tryz.call27 vs w) (by simp) (by simp [Tryz.ntmps27]) ?_
  show awb _ _ _ (retK _ _ _ _ _) _
  by_cases h0 : l = []
  · subst h0
    simp [encInts, sn26, aFill, repL]
    refine ⟨?_, ?_⟩
    · refine ret_ren (v := .nilsl) ?_ [] [] [] ?_ ?_ ?_ ?_
      · simp [resA, resOne]
      · simp [NsOK]
      · simp [FzL]
      · simp
      · simp [HpTo_nil]
    · refine ret_ren (v := .osl (R + 1) 0 0 none 1) ?_ [] [(R + 1, [])] [] ?_ ?_ ?_ ?_
      · simp [resA, resOne]
      · simp [NsOK]
      · simp [FzL, look]
      · simp [lookF]
      · simp [HpTo_nil]
  · have h1 : l.length ≠ 0 := by simpa using h0
    have h2 : l.length ≤ 4294967296 := by omega
    simp [encInts, sn26, h0, h1, h2, aFill, repL, spl, Nat.add_assoc]
    refine ret_ren (v := .osl (R + 1) 0 l.length none 1) ?_ [] [(R + 1, l.map (.int .i64))] [] ?_ ?_ ?_ ?_
    · simp [resA, resOne]
    · simp [NsOK]
    · simp [FzL, look]
    · simp [lookF]
      rw [List.take_of_length_le (by simp)]
    · simp [HpTo_nil]

set_option maxRecDepth 100000 in
theorem spec27o (R : Nat) (l : List Int) (hl : l.length ≤ 1048576) (h0 : l ≠ []) : Spec Tryz.prog R 1 27 [encInts l] [] (.osl R 0 l.length none 1) [(R, l.map (.int .i64))] := by
  refine spec_intro hmix Tryz.func27 c27 (fun vs w => Tryz.call27 vs w) (by simp) (by simp [Tryz.ntmps27]) ?_
  show awb _ _ _ (retK _ _ _ _ _) _
  have h1 : l.length ≠ 0 := by simpa using h0
  have h2 : l.length ≤ 4294967296 := by omega
  simp [encInts, sn26, h0, h1, h2, aFill, repL, spl, Nat.add_assoc]
  refine ret_ren (v := .osl (R + 1) 0 l.length none 1) ?_ [(R + 1, R)] [] [R + 1] ?_ ?_ ?_ ?_
  · simp [resA, resOne]
  · simp [NsOK]
  · simp [FzL, look]
  · simp [look]
  · simp [HpTo_cons, HpTo_nil, look]
    rw [List.take_of_length_le (by simp)]
    exact toL_refl (nmL_ints _)

set_option maxRecDepth 100000 in
theorem spec106 (R : Nat) (l : List (Int × Int × Int)) (hl : l.length ≤ 1048576) : Spec Tryz.prog R 0 106 [encEdges l] [] (encEdges l) [] := by
  refine spec_intro hmix Tryz.func106 c106 (fun vs w => Tryz.call106 vs w) (by simp) (by simp [Tryz.ntmps106]) ?_
  show awb _ _ _ (retK _ _ _ _ _) _
  by_cases h0 : l = []
  · subst h0
    simp [encEdges, edgeCs, sn27, aFill, repL]
    refine ⟨?_, ?_⟩
    · refine ret_ren (v := .nilsl) ?_ [] [] [] ?_ ?_ ?_ ?_
      · simp [resA, resOne]
      · simp [NsOK]
      · simp [FzL]
      · simp
      · simp [HpTo_nil]
    · refine ret_ren (v := .osl (R + 1) 0 0 none 3) ?_ [] [(R + 1, [])] [] ?_ ?_ ?_ ?_
      · simp [resA, resOne]
      · simp [NsOK]
      · simp [FzL, look]
      · simp [lookF]
      · simp [HpTo_nil]
  · have h1 : l.length ≠ 0 := by simpa using h0
    have h2 : l.length ≤ 4294967296 := by omega
    simp [encEdges, sn27, h0, h1, h2, aFill, repL, spl, Nat.add_assoc]
    refine ret_ren (v := .osl (R + 1) 0 l.length none 3) ?_ [] [(R + 1, edgeCs l)] [] ?_ ?_ ?_ ?_
    · simp [resA, resOne]
    · simp [NsOK]
    · simp [FzL, look]
    · simp [lookF]
      rw [List.take_of_length_le (by simp)]
    · simp [HpTo_nil]

theorem toL_of {σ : Nat → Option Nat} {fz : Nat → Option (List AV)} : ∀ {l m : List AV}, l.length = m.length → (∀ (j : Nat) (a b : AV), l[j]? = some a → m[j]? = some b → toA σ fz a b) → toL σ fz l m
  | [], [], _, _ => trivial
  | [], _ :: _, h, _ => by simp at h
  | _ :: _, [], h, _ => by simp at h
  | a :: l, b :: m, h, hh => ⟨hh 0 a b rfl rfl, toL_of (by simpa using h) fun j x y hx hy => hh (j + 1) x y (by simpa using hx) (by simpa using hy)⟩

theorem aCells_ints (l : List Int) : aCells (encInts l) = some [encInts l] := rfl
theorem aCells_edges (l : List (Int × Int × Int)) : aCells (encEdges l) = some [encEdges l] := rfl

/-- Rows, one of which lies in a block. -/
def rowsP (v : List (List Int)) (p b : Nat) : List AV := (v.map encInts).set p (.osl b 0 (v.getD p []).length none 1)
@[simp] theorem rowsP_len (v : List (List Int)) (p b : Nat) : (rowsP v p b).length = v.length := by simp [rowsP]
theorem rowsP_at {v : List (List Int)} {p b j : Nat} (hj : j < v.length) : (rowsP v p b)[j]? = some (if p = j then .osl b 0 (v.getD p []).length none 1 else encInts v[j]) := by
  unfold rowsP
  rw [List.getElem?_set]
  by_cases h : p = j
  · subst h; simp [hj]
  · simp [h, hj]
theorem toL_rows {σ : Nat → Option Nat} {fz : Nat → Option (List AV)} {v : List (List Int)} {p a b k : Nat} (hσ : σ a = some b) : toL σ fz ((rowsP v p a).take k) ((rowsP v p b).take k) := by
  refine toL_of (by simp) fun j x y hx hy => ?_
  have hj : j < v.length ∧ j < k := by
    have := (List.getElem?_eq_some_iff.1 hx).1
    simp at this; omega
  rw [List.getElem?_take, if_pos hj.2, rowsP_at hj.1] at hx hy
  cases hx; cases hy
  split
  · rw [toA_oo]; exact ⟨hσ, rfl, rfl, rfl, .inl rfl⟩
  · exact toA_refl (nm_encInts _)

/-- Ahead of the row the name does not matter. -/
theorem toL_rows' {σ : Nat → Option Nat} {fz : Nat → Option (List AV)} {v : List (List Int)} {p a b k : Nat} (hk : ∀ j, j < k → p = j → False) : toL σ fz ((rowsP v p a).take k) ((rowsP v p b).take k) := by
  refine toL_of (by simp) fun j x y hx hy => ?_
  have hj : j < v.length ∧ j < k := by
    have := (List.getElem?_eq_some_iff.1 hx).1
    simp at this; omega
  rw [List.getElem?_take, if_pos hj.2, rowsP_at hj.1] at hx hy
  cases hx; cases hy
  split
  · rename_i h; exact (hk j hj.2 h).elim
  · exact toA_refl (nm_encInts _)

theorem rows_snoc {v : List (List Int)} {p b k : Nat} (hk : k < v.length) : (rowsP v p b).take (k + 1) = (rowsP v p b).take k ++ [if p = k then .osl b 0 (v.getD p []).length none 1 else encInts v[k]] := by
  rw [List.take_add_one, rowsP_at hk]; rfl

set_option maxHeartbeats 1000000 in
set_option maxRecDepth 100000 in
theorem spec136p (R : Nat) (n : List Int) (e : List (Int × Int × Int)) (v : List (List Int)) (hn : n.length ≤ 1048576) (he : e.length ≤ 1048576) (hv : v.length ≤ 1048576) (hr : ∀ r ∈ v, r.length ≤ 1048576) (p : Nat) (hp : p < v.length) (hne : v[p] ≠ []) :
    Spec Tryz.prog R 2 136 [.agg (hostC n e v)] [] (.agg [encInts n, encEdges e, .osl R 0 v.length none 1]) [(R, rowsP v p (R + 1)), (R + 1, v[p].map (.int .i64))] := by
  refine spec_intro hmix Tryz.func136 c136 (fun vs w => Tryz.call136 vs w) (by simp) (by simp [Tryz.ntmps136]) ?_
  show awb _ _ _ (retK _ _ _ _ _) _
  have hpd : v.getD p [] = v[p] := by simp [hp]
  simp [hostC, Nat.add_assoc]
  refine call_val (spec27 _ n hn) (by simp) ?_
  simp
  refine call_val (spec106 _ e he) (by simp) ?_
  simp [aFill, spl, aCells_ints, aCells_edges, encIntss, Nat.add_assoc]
  refine loop_intro (ι := { k : Nat // k ≤ v.length }) (fun k => ⟨[(2, .ptr (R + 1) 0), (3, .ptr (R + 2) 0), (17, encIntss v), (18, .int .i64 v.length), (19, .int .i64 k.1)], [(R + 1, [.nilsl, .nilsl, .nilsl]), (R + 2, [encInts n, encEdges e, .osl (R + 3) 0 k.1 none 1]), (R + 3, (rowsP v p (R + 4)).take k.1), (R + 4, if p < k.1 then v[p].map (.int .i64) else [])], R + 5⟩) (fun k => v.length - k.1) ⟨0, by simp⟩ ?_ ?_
  · refine shift_phantom.trans ?_
    refine shift_phantom.trans ?_
    simp [hset, Nat.add_assoc]
    refine shift_ren [(R + 1, R + 1), (R + 2, R + 2), (R + 3, R + 3), (R + 4, R + 4)] [] [R + 1, R + 2, R + 3, R + 4] (by omega) ?_ ?_ ?_ ?_
    · simp [NsOK]
    · simp [FzL]
    · simp [look, encIntss]
    · simp [HpTo_cons, HpTo_nil, look, toL_cons, toL_nil]
  rintro ⟨k, hk⟩
  simp only
  have hwk : IntKind.i64.wrap ((k : Int) + 1) = ((k + 1 : Nat) : Int) := wrap_nat (by omega)
  rcases Nat.lt_or_ge k v.length with hlt | hge
  · have hk1 : k + 1 ≤ 4294967296 := by omega
    have hkl : k ≤ (rowsP v p (R + 4)).length := by simp; omega
    have hrk := hr _ (List.getElem_mem hlt)
    by_cases hkp : p = k
    · subst hkp
      simp [encIntss, hlt, Nat.add_assoc, -Subtype.exists]
      refine call_own (spec27o _ v[p] hrk hne) (by simp) ?_
      have hmin : p ≤ min p v.length := by omega
      simp [aFill, repL, spl, hk1, hwk, hmin, Nat.add_assoc, -Subtype.exists]
      refine ⟨⟨p + 1, hlt⟩, by simp only; omega, shift_ren [(R + 1, R + 1), (R + 2, R + 2), (R + 7, R + 3), (R + 5, R + 4)] [] [R + 1, R + 2, R + 7, R + 5] (by omega) ?_ ?_ ?_ ?_⟩
      · simp [NsOK]
      · simp [FzL]
      · simp [look]
      · have hmin1 : min (p + 1) v.length = p + 1 := by omega
        have hl1 : ((rowsP v p (R + 4)).take p).length = p := by simp; omega
        simp [HpTo_cons, HpTo_nil, look, toL_cons, toL_nil, rows_snoc hlt, hmin1]
        rw [List.take_of_length_le (l := (rowsP v p (R + 4)).take p) (by rw [hl1]; exact Nat.le_refl _)]
        have hminp : min p v.length = p := by omega
        refine ⟨?_, ?_⟩
        · rw [hminp, List.take_of_length_le (by simp; omega)]
          refine toL_append (toL_rows' (k := p) (fun j hj h => by omega)) ?_
          simp [toL_cons, toL_nil, look, hlt]
        · rw [List.take_of_length_le (by simp)]
          exact toL_refl (nmL_ints _)
    · have hmin : k ≤ min k v.length := by omega
      simp [encIntss, hlt, Nat.add_assoc, -Subtype.exists]
      refine call_val (spec27 _ v[k] hrk) (by simp) ?_
      simp [aFill, repL, spl, aCells_ints, hk1, hwk, hmin, Nat.add_assoc, -Subtype.exists]
      refine ⟨⟨k + 1, hlt⟩, by simp only; omega, shift_ren [(R + 1, R + 1), (R + 2, R + 2), (R + 6, R + 3), (R + 4, R + 4)] [] [R + 1, R + 2, R + 6, R + 4] (by omega) ?_ ?_ ?_ ?_⟩
      · simp [NsOK]
      · simp [FzL]
      · simp [look]
      · have hmin1 : min (k + 1) v.length = k + 1 := by omega
        have hl1 : ((rowsP v p (R + 4)).take k).length = k := by simp; omega
        have hpk : (p < k + 1) = (p < k) := by rw [eq_iff_iff]; omega
        simp [HpTo_cons, HpTo_nil, look, toL_cons, toL_nil, rows_snoc hlt, hmin1, hkp, hpk]
        have hmink : min k v.length = k := by omega
        refine ⟨?_, ?_⟩
        · rw [hmink, List.take_of_length_le (l := (rowsP v p (R + 4)).take k) (by rw [hl1]; exact Nat.le_refl _), List.take_of_length_le (by simp; omega)]
          refine toL_append (toL_rows (by simp)) ?_
          simp [toL_cons, toL_nil]
        · split
          · exact toL_refl (nmL_ints _)
          · simp [toL_nil]
  · have ek : k = v.length := by omega
    subst ek
    simp [spl, hp]
    refine ret_ren (v := .agg [encInts n, encEdges e, .osl (R + 3) 0 v.length none 1]) ?_ [(R + 3, R), (R + 4, R + 1)] [] [R + 3, R + 4] ?_ ?_ ?_ ?_
    · simp [resA, resOne]
    · simp [NsOK]
    · simp [FzL]
    · simp [look]
    · simp [HpTo_cons, HpTo_nil, look]
      rw [List.take_take, Nat.min_self, List.take_of_length_le (l := v[p].map (AV.int .i64)) (by simp)]
      refine ⟨?_, toL_refl (nmL_ints _)⟩
      have := toL_rows (σ := fun n => if n = R + 3 then some R else if n = R + 4 then some (R + 1) else none) (fz := lookF []) (v := v) (p := p) (a := R + 4) (b := R + 1) (k := v.length) (by simp)
      rwa [List.take_of_length_le (l := rowsP v p (R + 1)) (by simp)] at this
end Go.Av
/- Copies of hosts with one row of the values that can be written, in the reference. -/
namespace Go.Av
set_option linter.unusedVariables false
set_option linter.unusedSimpArgs false
open Go.Proofs

set_option maxHeartbeats 1000000 in
set_option maxRecDepth 100000 in
theorem spec33p (R : Nat) (n : List Int) (e : List (Int × Int × Int)) (v : List (List Int)) (hn : n.length ≤ 1000000) (he : e.length ≤ 1000000) (hv : v.length ≤ 1000000) (hr : ∀ r ∈ v, r.length ≤ 1000000) (p : Nat) (hp : p < v.length) :
    Spec Tryz.prog R 2 33 [.agg (hostC n e v)] [] (.agg [encInts n, encEdges e, .osl R 0 v.length none 1]) [(R, rowsP v p (R + 1)), (R + 1, v[p].map (.int .i64))] := by
  refine spec_intro hmix Tryz.func33 c33 (fun vs w => Tryz.call33 vs w) (by simp) (by simp [Tryz.ntmps33]) ?_
  show awb _ _ _ (retK _ _ _ _ _) _
  have hpd : v.getD p [] = v[p] := by simp [hp]
  simp [hostC, Nat.add_assoc]
  refine call_val (spec86 _ n e hn he) (by simp [nmL, nm_encInts, nm_encEdges]) ?_
  simp [graphC, aFill, spl, Nat.add_assoc]
  refine loop_intro (ι := { k : Nat // k ≤ v.length }) (fun k => ⟨[(1, .ptr R 0), (2, .ptr (R + 1) 0), (3, .ptr (R + 2) 0), (4, .int .i64 k.1)], [(R, hostC n e v), (R + 1, [.nilsl, .nilsl, .nilsl]), (R + 2, [encInts n, encEdges e, .osl (R + 3) 0 k.1 none 1]), (R + 3, (rowsP v p (R + 4)).take k.1), (R + 4, if p < k.1 then v[p].map (.int .i64) else [])], R + 5⟩) (fun k => v.length - k.1) ⟨0, by simp⟩ ?_ ?_
  · refine shift_phantom.trans ?_
    refine shift_phantom.trans ?_
    simp [hset, Nat.add_assoc]
    refine shift_ren [(R, R), (R + 1, R + 1), (R + 2, R + 2), (R + 3, R + 3), (R + 4, R + 4)] [] [R, R + 1, R + 2, R + 3, R + 4] (by omega) ?_ ?_ ?_ ?_
    · simp [NsOK]
    · simp [FzL]
    · simp [look]
    · simp [HpTo_cons, HpTo_nil, look, hostC, toL_cons, toL_nil]
  rintro ⟨k, hk⟩
  simp only
  have hwk : IntKind.i64.wrap ((k : Int) + 1) = ((k + 1 : Nat) : Int) := wrap_nat (by omega)
  rcases Nat.lt_or_ge k v.length with hlt | hge
  · have hr' := hr _ (List.getElem_mem hlt)
    have h1 : v[k].length ≤ 4294967296 := by omega
    have hk1 : k + 1 ≤ 4294967296 := by omega
    have hmin : k ≤ min k v.length := by omega
    have hmin1 : min (k + 1) v.length = k + 1 := by omega
    have hmink : min k v.length = k := by omega
    have hl1 : ((rowsP v p (R + 4)).take k).length = k := by simp; omega
    simp [hostC, encIntss, encInts, hlt, h1, hk1, hmin, aFill, repL, spl, hwk, Nat.add_assoc, -Subtype.exists]
    by_cases hkp : p = k
    · subst hkp
      refine ⟨⟨p + 1, hlt⟩, by simp only; omega, shift_ren [(R, R), (R + 1, R + 1), (R + 2, R + 2), (R + 8, R + 3), (R + 6, R + 4)] [] [R, R + 1, R + 2, R + 8, R + 6] (by omega) ?_ ?_ ?_ ?_⟩
      · simp [NsOK]
      · simp [FzL]
      · simp [look]
      · simp [HpTo_cons, HpTo_nil, look, toL_cons, toL_nil, rows_snoc hlt, hmin1]
        rw [List.take_of_length_le (l := (rowsP v p (R + 4)).take p) (by rw [hl1]; exact Nat.le_refl _)]
        refine ⟨?_, ?_⟩
        · rw [hmink, List.take_of_length_le (by simp; omega)]
          refine toL_append (toL_rows' (k := p) (fun j hj h => by omega)) ?_
          simp [toL_cons, toL_nil, look, hlt]
        · rw [List.take_of_length_le (by simp)]
          exact toL_refl (nmL_ints _)
    · have hpk : (p < k + 1) = (p < k) := by rw [eq_iff_iff]; omega
      refine ⟨⟨k + 1, hlt⟩, by simp only; omega, shift_ren [(R, R), (R + 1, R + 1), (R + 2, R + 2), (R + 8, R + 3), (R + 4, R + 4)] [(R + 6, v[k].map (.int .i64))] [R, R + 1, R + 2, R + 8, R + 4] (by omega) ?_ ?_ ?_ ?_⟩
      · simp [NsOK]
      · simp [FzL, look]
      · simp [look]
      · simp [HpTo_cons, HpTo_nil, look, toL_cons, toL_nil, rows_snoc hlt, hmin1, hkp, hpk]
        refine ⟨?_, ?_⟩
        · rw [hmink, List.take_of_length_le (l := (rowsP v p (R + 4)).take k) (by rw [hl1]; exact Nat.le_refl _), List.take_of_length_le (by simp; omega)]
          refine toL_append (toL_rows (by simp)) ?_
          simp [toL_cons, toL_nil, lookF, encInts]
          exact (List.take_of_length_le (by simp)).symm
        · split
          · exact toL_refl (nmL_ints _)
          · simp [toL_nil]
  · have ek : k = v.length := by omega
    subst ek
    simp [hostC, encIntss, spl, hp]
    refine ret_ren (v := .agg [encInts n, encEdges e, .osl (R + 3) 0 v.length none 1]) ?_ [(R + 3, R), (R + 4, R + 1)] [] [R + 3, R + 4] ?_ ?_ ?_ ?_
    · simp [resA, resOne]
    · simp [NsOK]
    · simp [FzL]
    · simp [look]
    · simp [HpTo_cons, HpTo_nil, look]
      rw [List.take_take, Nat.min_self, List.take_of_length_le (l := v[p].map (AV.int .i64)) (by simp)]
      refine ⟨?_, toL_refl (nmL_ints _)⟩
      have := toL_rows (σ := fun n => if n = R + 3 then some R else if n = R + 4 then some (R + 1) else none) (fz := lookF []) (v := v) (p := p) (a := R + 4) (b := R + 1) (k := v.length) (by simp)
      rwa [List.take_of_length_le (l := rowsP v p (R + 1)) (by simp)] at this
end Go.Av
/- Setting a value of a host, in the program and in the reference. -/
namespace Go.Av
set_option linter.unusedVariables false
set_option linter.unusedSimpArgs false
open Go.Proofs

theorem sub_tup2 {h : HF} {σ : Nat → Option Nat} {F : Nat → Prop} {a a' b b' : AV} (ha : Sub h σ F a a') (hb : Sub h σ F b b') : Sub h σ F (.tup [a, b]) (.tup [a', b']) :=
  .tup rfl fun j x y hx hy => by
    match j with
    | 0 => simp at hx hy; subst hx hy; exact ha
    | 1 => simp at hx hy; subst hx hy; exact hb
    | j + 2 => simp at hx

/-- A result of a structure and a number, with frozen blocks. -/
theorem ret_nest2 {P : Program} {R : Nat} {rv : Array ResultVar} {s : St} {l l' : List AV} {k : IntKind} {i : Int} (hv : resA P rv s = some (.tup [.agg l, .int k i])) (f1 f2 : List (Nat × List AV)) (hf : FzN s.hp [] f1 f2) (hr : toA (look []) (lookF (f1 ++ f2)) (.agg l) (.agg l')) : RetOK P R rv s (.tup [.agg l', .int k i]) [] := by
  have hF := fzN_ok hf
  refine ⟨_, hv, vs_sub (look []) (fun n => (lookF (f1 ++ f2) n).isSome) (fun n m h => by cases h) (fun n n' m h h' => by cases h) (fun n h => rfl) (fun _ => sub_tup2 (toA_sub hF hr) (.refl _ trivial)) (fun m b' hb => by cases hb)⟩

abbrev HostV := List Int × List (Int × Int × Int) × List (List Int)
def zeroH : HostV := ([], [], [])

/-- A host with another value. -/
def setH (t : TypesT) (n : List Int) (e : List (Int × Int × Int)) (v : List (List Int)) (node attr value : Int) : HostV × Int :=
  if (hostE t n e v).2 ≠ 0 then (zeroH, (hostE t n e v).2) else
  if 0 ≤ node ∧ node < n.length then
    if 0 ≤ attr ∧ attr < (attrsE t (n.getD node.toNat 0)).1.length then
      if ((attrsE t (n.getD node.toNat 0)).1.getD attr.toNat default).low ≤ value ∧ value ≤ ((attrsE t (n.getD node.toNat 0)).1.getD attr.toNat default).high then
        ((n, e, v.set node.toNat ((v.getD node.toNat []).set attr.toNat value)), 0)
      else (zeroH, 6)
    else (zeroH, 6)
  else (zeroH, 6)

theorem hostE_nodes {t : TypesT} {n : List Int} {e : List (Int × Int × Int)} {v : List (List Int)} (h : (hostE t n e v).2 = 0) (i : Nat) (hi : i < n.length) (hi' : i < v.length) : hnodeE t n[i] v[i] = 0 := by
  obtain ⟨h1, h2, h3, _⟩ := hostE_ok h
  rw [hostE_loop h1 h2 h3] at h
  cases hf : firstE n.length (hnodeAt t n v) with
  | some y =>
    rw [hf] at h
    obtain ⟨k, hk, hk2⟩ := List.exists_of_findSome?_eq_some hf
    unfold hnodeAt at hk2
    split at hk2
    · cases hk2; exact absurd h (by assumption)
    · cases hk2
  | none =>
    have := firstE_of_none hf i hi
    unfold hnodeAt at this
    split at this
    · cases this
    rename_i hz
    simpa [hi, hi'] using hz

theorem hnode_len {t : TypesT} {kind : Int} {vals : List Int} (h : hnodeE t kind vals = 0) : vals.length = (attrsE t kind).1.length := by
  unfold hnodeE at h
  split at h
  · cases h
  split at h
  · cases h
  split at h
  · cases h
  · rename_i h3; simpa using h3

theorem aCells_intss (l : List (List Int)) : aCells (encIntss l) = some [encIntss l] := rfl

theorem toL_rows_frz {σ : Nat → Option Nat} {fz : Nat → Option (List AV)} {v : List (List Int)} {p b : Nat} {r : List Int} (hp : p < v.length) (hr : r.length = v[p].length) (hf : fz b = some (r.map (.int .i64))) :
    toL σ fz (rowsP v p b) ((v.map encInts).set p (encInts r)) := by
  refine toL_of (by simp) fun j x y hx hy => ?_
  have hj : j < v.length := by
    have := (List.getElem?_eq_some_iff.1 hx).1
    simpa using this
  have hpd : v.getD p [] = v[p] := by simp [hp]
  rw [rowsP_at hj, hpd] at hx
  rw [List.getElem?_set] at hy
  by_cases h : p = j
  · subst h
    simp [hj] at hx hy
    subst hx hy
    unfold encInts
    rw [toA_ov]
    exact ⟨⟨_, hf, by simp [hr], by rw [List.drop_zero, List.take_of_length_le (by simp [hr])]⟩, hr, .inr rfl⟩
  · simp [h, hj] at hx hy
    subst hx hy
    exact toA_refl (nm_encInts _)

set_option maxHeartbeats 2000000 in
set_option maxRecDepth 100000 in
theorem spec49 (R : Nat) (t : TypesT) (ht : t.ok) (n : List Int) (e : List (Int × Int × Int)) (v : List (List Int)) (hn : n.length ≤ 1048576) (he : e.length ≤ 1048576) (hr : ∀ r ∈ v, r.length ≤ 1048576) (node attr value : Int) :
    Spec Tryz.prog R 0 49 [.agg (typesC t), .agg (hostC n e v), .int .i64 node, .int .i64 attr, .int .i64 value] [] (.tup [.agg (hostC (setH t n e v node attr value).1.1 (setH t n e v node attr value).1.2.1 (setH t n e v node attr value).1.2.2), .int .i64 (setH t n e v node attr value).2]) [] := by
  refine spec_intro hmix Tryz.func49 c49 (fun vs w => Tryz.call49 vs w) (by simp) (by simp [Tryz.ntmps49]) ?_
  show awb _ _ _ (retK _ _ _ _ _) _
  have zero : ∀ (s : St) (k : Int), resA Tryz.prog #[.cell 10 55, .tmp 11] s = some (.tup [.agg [.nilsl, .nilsl, .nilsl], .int .i64 k]) → setH t n e v node attr value = (zeroH, k) →
      RetOK Tryz.prog R #[.cell 10 55, .tmp 11] s (.tup [.agg (hostC (setH t n e v node attr value).1.1 (setH t n e v node attr value).1.2.1 (setH t n e v node attr value).1.2.2), .int .i64 (setH t n e v node attr value).2]) [] := by
    intro s k hs hk
    rw [hk]
    refine ret_nest2 hs [] [] ⟨by simp [FzL], by simp⟩ ?_
    simp [zeroH, hostC, encInts, encEdges, edgeCs, encIntss]
  simp [typesC, hostC, Nat.add_assoc]
  refine call_val (spec118 _ t ht n e v hn he hr) (by simp [typesC, hostC]) ?_
  by_cases h1 : (hostE t n e v).2 = 0
  case neg =>
    simp [h1, aFill, spl]
    exact zero _ (hostE t n e v).2 (by simp [resA, resOne]) (by simp [setH, h1])
  obtain ⟨hv, hg, hvl, hin⟩ := hostE_ok h1
  by_cases h2 : node < 0
  · simp [h1, h2, aFill, spl]
    exact zero _ 6 (by simp [resA, resOne]) (by simp [setH, h1, show ¬ 0 ≤ node by omega])
  by_cases h3 : (n.length : Int) ≤ node
  · simp [h1, h2, encInts, h3, aFill, spl]
    exact zero _ 6 (by simp [resA, resOne]) (by simp [setH, h1, show ¬ node < n.length by omega])
  obtain ⟨p, rfl⟩ : ∃ p : Nat, node = (p : Int) := ⟨_, (Int.toNat_of_nonneg (by omega)).symm⟩
  have hp : p < n.length := by omega
  have hpv : p < v.length := by omega
  have hno := hnode_len (hostE_nodes h1 p hp hpv)
  have hS : ∀ q : Int, setH t n e v p attr q = if 0 ≤ attr ∧ attr < (attrsE t n[p]).1.length then
      if ((attrsE t n[p]).1.getD attr.toNat default).low ≤ q ∧ q ≤ ((attrsE t n[p]).1.getD attr.toNat default).high then ((n, e, v.set p (v[p].set attr.toNat q)), 0) else (zeroH, 6) else (zeroH, 6) := fun q => by
    unfold setH
    rw [if_neg (by simp [h1]), if_pos (by omega)]
    simp [hp, hpv]
  have h3' : ¬ (n.length : Int) ≤ p := by omega
  have h3n : ¬ n.length ≤ p := by omega
  simp [h1, h2, encInts, h3', h3n, hp, Nat.add_assoc]
  refine call_val (spec135 _ t ht n[p]) (by simp [typesC]) ?_
  generalize (attrsE t n[p]).2 = er
  generalize hal : (attrsE t n[p]).1 = al at *
  by_cases h4 : attr < 0
  · simp [h4, aFill, spl]
    exact zero _ 6 (by simp [resA, resOne]) (by rw [hS, if_neg (by omega)])
  by_cases h5 : (al.length : Int) ≤ attr
  · simp [h4, encAttrs, h5, aFill, spl]
    exact zero _ 6 (by simp [resA, resOne]) (by rw [hS, if_neg (by omega)])
  obtain ⟨q, rfl⟩ : ∃ q : Nat, attr = (q : Int) := ⟨_, (Int.toNat_of_nonneg (by omega)).symm⟩
  have hq : q < al.length := by omega
  have hqv : q < v[p].length := by omega
  have h5' : ¬ al.length ≤ q := by omega
  have g1 := attrCs_get al q 1 hq (by omega)
  have g2 := attrCs_get al q 2 hq (by omega)
  have hD : al.getD q default = al[q] := by simp [hq]
  have hS2 := hS value
  rw [if_pos (by omega), Int.toNat_natCast, hD] at hS2
  by_cases h6 : value < al[q].low
  · simp [h4, encAttrs, h5', hq, g1, attrC, h6, aFill, spl]
    exact zero _ 6 (by simp [resA, resOne]) (by rw [hS2, if_neg (by omega)])
  by_cases h7 : al[q].high < value
  · simp [h4, encAttrs, h5', hq, g1, g2, attrC, h6, h7, aFill, spl]
    exact zero _ 6 (by simp [resA, resOne]) (by rw [hS2, if_neg (by omega)])
  rw [if_pos (by omega)] at hS2
  rw [hS2]
  have hne : v[p] ≠ [] := by rintro h; rw [h] at hqv; simp at hqv
  simp [h4, encAttrs, h5', hq, g1, g2, attrC, h6, h7, Nat.add_assoc]
  refine call_own2 (spec136p _ n e v hn he (by omega) hr p hpv hne) (by simp [hostC, encInts]) ?_
  have hrow := rowsP_at (v := v) (p := p) (b := R + 4) (j := p) hpv
  have hpd : v.getD p [] = v[p] := by simp [hpv]
  rw [if_pos rfl, hpd] at hrow
  have hl1 : (rowsP v p (R + 4)).length = v.length := rowsP_len ..
  have hq1 : q + 1 ≤ v[p].length := hqv
  have hrow' : ∀ h : p < (rowsP v p (R + 4)).length, (rowsP v p (R + 4))[p] = .osl (R + 4) 0 v[p].length none 1 := fun h => by
    rw [List.getElem?_eq_getElem h] at hrow; exact Option.some.inj hrow
  simp [hpv, hrow', hl1, hqv, hq1, spl, Nat.add_assoc]
  refine ret_nest2 (l := [encInts n, encEdges e, .osl (R + 3) 0 v.length none 1]) (by simp [resA, resOne, encInts]) [(R + 4, (v[p].set q value).map (.int .i64))] [(R + 3, (v.set p (v[p].set q value)).map encInts)] ⟨?_, ?_⟩ ?_
  · simp [FzL, look, List.map_set]
    rw [← List.map_set]
    exact nmL_ints _
  · simp [look]
    exact toL_rows_frz hpv (by simp) (by simp [lookF, List.map_set])
  · simp [hostC, lookF, encIntss]
    refine ⟨?_, (List.take_of_length_le (by simp)).symm⟩
    show toB _ _ (encInts n) (encInts n)
    rw [toB_self (nm_encInts _)]
    trivial
end Go.Av
/- Setting a value of a host, in the reference. -/
namespace Go.Av
set_option linter.unusedVariables false
set_option linter.unusedSimpArgs false
open Go.Proofs

set_option maxHeartbeats 2000000 in
set_option maxRecDepth 100000 in
theorem spec50 (R : Nat) (t : TypesT) (ht : t.ok) (n : List Int) (e : List (Int × Int × Int)) (v : List (List Int)) (hn : n.length ≤ 1048576) (he : e.length ≤ 1048576) (hr : ∀ r ∈ v, r.length ≤ 1000000) (node attr value : Int) :
    Spec Tryz.prog R 0 50 [.agg (typesC t), .agg (hostC n e v), .int .i64 node, .int .i64 attr, .int .i64 value] [] (.tup [.agg (hostC (setH t n e v node attr value).1.1 (setH t n e v node attr value).1.2.1 (setH t n e v node attr value).1.2.2), .int .i64 (setH t n e v node attr value).2]) [] := by
  refine spec_intro hmix Tryz.func50 c50 (fun vs w => Tryz.call50 vs w) (by simp) (by simp [Tryz.ntmps50]) ?_
  show awb _ _ _ (retK _ _ _ _ _) _
  have zero : ∀ (s : St) (k : Int), resA Tryz.prog #[.cell 10 55, .tmp 11] s = some (.tup [.agg [.nilsl, .nilsl, .nilsl], .int .i64 k]) → setH t n e v node attr value = (zeroH, k) →
      RetOK Tryz.prog R #[.cell 10 55, .tmp 11] s (.tup [.agg (hostC (setH t n e v node attr value).1.1 (setH t n e v node attr value).1.2.1 (setH t n e v node attr value).1.2.2), .int .i64 (setH t n e v node attr value).2]) [] := by
    intro s k hs hk
    rw [hk]
    refine ret_nest2 hs [] [] ⟨by simp [FzL], by simp⟩ ?_
    simp [zeroH, hostC, encInts, encEdges, edgeCs, encIntss]
  simp [typesC, hostC, Nat.add_assoc]
  have hr2 : ∀ r ∈ v, r.length ≤ 1048576 := fun r hh => by have := hr r hh; omega
  refine call_val (spec34 _ t ht n e v hn he hr2) (by simp [typesC, hostC]) ?_
  by_cases h1 : (hostE t n e v).2 = 0
  case neg =>
    simp [h1, aFill, spl]
    exact zero _ (hostE t n e v).2 (by simp [resA, resOne]) (by simp [setH, h1])
  obtain ⟨hv, hg, hvl, hin⟩ := hostE_ok h1
  obtain ⟨gn, ge, _, _⟩ := validG_ok hg
  by_cases h2 : node < 0
  · simp [h1, h2, aFill, spl]
    exact zero _ 6 (by simp [resA, resOne]) (by simp [setH, h1, show ¬ 0 ≤ node by omega])
  by_cases h3 : (n.length : Int) ≤ node
  · simp [h1, h2, encInts, h3, aFill, spl]
    exact zero _ 6 (by simp [resA, resOne]) (by simp [setH, h1, show ¬ node < n.length by omega])
  obtain ⟨p, rfl⟩ : ∃ p : Nat, node = (p : Int) := ⟨_, (Int.toNat_of_nonneg (by omega)).symm⟩
  have hp : p < n.length := by omega
  have hpv : p < v.length := by omega
  have hno := hnode_len (hostE_nodes h1 p hp hpv)
  have hS : ∀ q : Int, setH t n e v p attr q = if 0 ≤ attr ∧ attr < (attrsE t n[p]).1.length then
      if ((attrsE t n[p]).1.getD attr.toNat default).low ≤ q ∧ q ≤ ((attrsE t n[p]).1.getD attr.toNat default).high then ((n, e, v.set p (v[p].set attr.toNat q)), 0) else (zeroH, 6) else (zeroH, 6) := fun q => by
    unfold setH
    rw [if_neg (by simp [h1]), if_pos (by omega)]
    simp [hp, hpv]
  have h3' : ¬ (n.length : Int) ≤ p := by omega
  have h3n : ¬ n.length ≤ p := by omega
  by_cases h4 : attr < 0
  · simp [h1, h2, encInts, h3', h3n, h4, aFill, spl]
    exact zero _ 6 (by simp [resA, resOne]) (by rw [hS, if_neg (by omega)])
  by_cases h5 : (v[p].length : Int) ≤ attr
  · simp [h1, h2, encInts, encIntss, h3', h3n, h4, hpv, h5, aFill, spl]
    exact zero _ 6 (by simp [resA, resOne]) (by rw [hS, if_neg (by omega)])
  have h5a : ¬ (v[p].length : Int) ≤ attr := h5
  obtain ⟨q, rfl⟩ : ∃ q : Nat, attr = (q : Int) := ⟨_, (Int.toNat_of_nonneg (by omega)).symm⟩
  have hq0 : q < (attrsE t n[p]).1.length := by omega
  have hqv : q < v[p].length := by omega
  have h5n : ¬ v[p].length ≤ q := by omega
  simp [h1, h2, encInts, encIntss, h3', h3n, hp, hpv, h4, h5n, Nat.add_assoc]
  refine call_val (spec130 _ t ht n[p]) (by simp [typesC]) ?_
  generalize (attrsE t n[p]).2 = er
  generalize hal : (attrsE t n[p]).1 = al at *
  have hq : q < al.length := hq0
  have g1 := attrCs_get al q 1 hq (by omega)
  have g2 := attrCs_get al q 2 hq (by omega)
  have hD : al.getD q default = al[q] := by simp [hq]
  have hS2 := hS value
  rw [if_pos (by omega), Int.toNat_natCast, hD] at hS2
  by_cases h6 : value < al[q].low
  · simp [encAttrs, hq, g1, attrC, h6, aFill, spl]
    exact zero _ 6 (by simp [resA, resOne]) (by rw [hS2, if_neg (by omega)])
  by_cases h7 : al[q].high < value
  · simp [encAttrs, hq, g1, g2, attrC, h6, h7, aFill, spl]
    exact zero _ 6 (by simp [resA, resOne]) (by rw [hS2, if_neg (by omega)])
  rw [if_pos (by omega)] at hS2
  rw [hS2]
  have hne : v[p] ≠ [] := by rintro h; rw [h] at hqv; simp at hqv
  simp [encAttrs, hq, g1, g2, attrC, h6, h7, Nat.add_assoc]
  refine call_own2 (spec33p _ n e v (by omega) (by omega) (by omega) hr p hpv) (by simp [hostC, encInts]) ?_
  have hrow := rowsP_at (v := v) (p := p) (b := R + 4) (j := p) hpv
  have hpd : v.getD p [] = v[p] := by simp [hpv]
  rw [if_pos rfl, hpd] at hrow
  have hl1 : (rowsP v p (R + 4)).length = v.length := rowsP_len ..
  have hq1 : q + 1 ≤ v[p].length := hqv
  have hrow' : ∀ h : p < (rowsP v p (R + 4)).length, (rowsP v p (R + 4))[p] = .osl (R + 4) 0 v[p].length none 1 := fun h => by
    rw [List.getElem?_eq_getElem h] at hrow; exact Option.some.inj hrow
  simp [hpv, hrow', hl1, hqv, hq1, spl, Nat.add_assoc]
  refine ret_nest2 (l := [encInts n, encEdges e, .osl (R + 3) 0 v.length none 1]) (by simp [resA, resOne, encInts]) [(R + 4, (v[p].set q value).map (.int .i64))] [(R + 3, (v.set p (v[p].set q value)).map encInts)] ⟨?_, ?_⟩ ?_
  · simp [FzL, look, List.map_set]
    rw [← List.map_set]
    exact nmL_ints _
  · simp [look]
    exact toL_rows_frz hpv (by simp) (by simp [lookF, List.map_set])
  · simp [hostC, lookF, encIntss]
    refine ⟨?_, (List.take_of_length_le (by simp)).symm⟩
    show toB _ _ (encInts n) (encInts n)
    rw [toB_self (nm_encInts _)]
    trivial
end Go.Av
/- HostSet: the plain law, and what the walk gives. -/
namespace Go.Av
set_option linter.unusedVariables false
set_option linter.unusedSimpArgs false
open Go.Proofs

theorem hnodeE_zero {t : TypesT} {kind : Int} {vals : List Int} : hnodeE t kind vals = 0 ↔ (¬ kind ≥ t.nodes.length ∧ (t.nodes.getD kind.toNat default).abs ≠ true ∧ vals.length = (attrsE t kind).1.length ∧ ∀ k, k < (attrsE t kind).1.length → valAt (attrsE t kind).1 vals k = none) := by
  unfold hnodeE
  by_cases c1 : kind ≥ t.nodes.length
  · rw [if_pos c1]; simp [c1]
  rw [if_neg c1]
  by_cases c2 : (t.nodes.getD kind.toNat default).abs = true
  · rw [if_pos c2]; exact ⟨fun h => (by cases h), fun h => absurd c2 h.2.1⟩
  rw [if_neg c2]
  by_cases c3 : vals.length = (attrsE t kind).1.length
  · rw [if_neg (by simp [c3])]
    cases hf : firstE (attrsE t kind).1.length (valAt (attrsE t kind).1 vals) with
    | none => exact ⟨fun _ => ⟨c1, c2, c3, fun k hk => firstE_of_none hf k hk⟩, fun _ => rfl⟩
    | some y =>
      obtain ⟨k, hk, hk2⟩ := List.exists_of_findSome?_eq_some hf
      have hk' : k < (attrsE t kind).1.length := by simpa using hk
      refine ⟨fun h => ?_, fun h => ?_⟩
      · have hy : y = 6 := by
          unfold valAt at hk2
          split at hk2
          · split at hk2
            · cases hk2; rfl
            · cases hk2
          · cases hk2
        subst hy; cases h
      · rw [h.2.2.2 k hk'] at hk2; cases hk2
  · rw [if_pos c3]
    exact ⟨fun h => (by cases h), fun h => absurd h.2.2.1 c3⟩

theorem hostE_edges {t : TypesT} {n : List Int} {e : List (Int × Int × Int)} {v : List (List Int)} (h : (hostE t n e v).2 = 0) : firstE e.length (hedgeAt t n e) = none := by
  obtain ⟨h1, h2, h3, _⟩ := hostE_ok h
  have hn : firstE n.length (hnodeAt t n v) = none := firstE_none fun i hi => by
    have := hostE_nodes h i hi (by omega)
    simp [hnodeAt, hi, show i < v.length by omega, this]
  rw [hostE_loop h1 h2 h3, hn, Option.none_or] at h
  cases hf : firstE e.length (hedgeAt t n e) with
  | none => rfl
  | some y =>
    rw [hf] at h
    obtain ⟨k, hk, hk2⟩ := List.exists_of_findSome?_eq_some hf
    unfold hedgeAt at hk2
    split at hk2
    · cases hk2; exact absurd h (by assumption)
    · cases hk2

theorem setH_ok {t : TypesT} {n : List Int} {e : List (Int × Int × Int)} {v : List (List Int)} {node attr value : Int} (h : (setH t n e v node attr value).2 = 0) :
    (hostE t n e v).2 = 0 ∧ ∃ p q : Nat, node = p ∧ attr = q ∧ ∃ (hp : p < v.length) (hpn : p < n.length) (hq : q < v[p].length) (hqa : q < (attrsE t n[p]).1.length),
      (attrsE t n[p]).1[q].low ≤ value ∧ value ≤ (attrsE t n[p]).1[q].high ∧ setH t n e v node attr value = ((n, e, v.set p (v[p].set q value)), 0) := by
  unfold setH at h
  split at h
  · rename_i h1; exact absurd h h1
  rename_i h1
  simp only [ne_eq, Decidable.not_not] at h1
  split at h
  case isFalse => cases h
  rename_i h2
  split at h
  case isFalse => cases h
  rename_i h3
  split at h
  case isFalse => cases h
  rename_i h4
  obtain ⟨_, _, hvl, _⟩ := hostE_ok h1
  obtain ⟨p, rfl⟩ : ∃ p : Nat, node = (p : Int) := ⟨_, (Int.toNat_of_nonneg h2.1).symm⟩
  obtain ⟨q, rfl⟩ : ∃ q : Nat, attr = (q : Int) := ⟨_, (Int.toNat_of_nonneg h3.1).symm⟩
  have hpn : p < n.length := by omega
  have hp : p < v.length := by omega
  have hg : n.getD (p : Int).toNat 0 = n[p] := by simp [hpn]
  rw [hg] at h3 h4
  have hqa : q < (attrsE t n[p]).1.length := by omega
  have hlen := hnode_len (hostE_nodes h1 p hpn hp)
  have hD : (attrsE t n[p]).1.getD (q : Int).toNat default = (attrsE t n[p]).1[q] := by simp [hqa]
  rw [hD] at h4
  refine ⟨h1, p, q, rfl, rfl, hp, hpn, by omega, hqa, h4.1, h4.2, ?_⟩
  unfold setH
  rw [if_neg (by simp [h1]), if_pos h2, hg, if_pos h3, hD, if_pos h4]
  simp [hp]

theorem set_valid {t : TypesT} {n : List Int} {e : List (Int × Int × Int)} {v : List (List Int)} (h1 : (hostE t n e v).2 = 0) {p q : Nat} {value : Int} (hp : p < v.length) (hpn : p < n.length) (hqa : q < (attrsE t n[p]).1.length)
    (hlo : (attrsE t n[p]).1[q].low ≤ value) (hhi : value ≤ (attrsE t n[p]).1[q].high) : (hostE t n e (v.set p (v[p].set q value))).2 = 0 := by
  obtain ⟨a1, a2, a3, _⟩ := hostE_ok h1
  have hn : firstE n.length (hnodeAt t n (v.set p (v[p].set q value))) = none := firstE_none fun i hi => by
    have hi' : i < v.length := by omega
    have hz := hostE_nodes h1 i hi hi'
    have hz2 : hnodeE t n[i] ((v.set p (v[p].set q value)).getD i []) = 0 := by
      by_cases hpi : p = i
      · subst hpi
        have hg : (v.set p (v[p].set q value)).getD p [] = v[p].set q value := by simp [hp]
        rw [hg]
        rw [hnodeE_zero] at hz ⊢
        refine ⟨hz.1, hz.2.1, by simpa using hz.2.2.1, fun k hk => ?_⟩
        have hkv : k < v[p].length := by omega
        have hold := hz.2.2.2 k hk
        rw [valAt_eq hk hkv] at hold
        rw [valAt_eq hk (by simpa using hkv), List.getElem_set]
        by_cases hqk : q = k
        · subst hqk
          rw [if_pos rfl, if_neg (by omega)]
        · rw [if_neg hqk]; exact hold
      · have hg : (v.set p (v[p].set q value)).getD i [] = v[i] := by simp [hpi, hi']
        rw [hg]; exact hz
    have hg0 : n.getD i 0 = n[i] := by simp [hi]
    unfold hnodeAt
    rw [hg0, if_neg (by simp only [ne_eq, Decidable.not_not]; exact hz2)]
  rw [hostE_loop a1 a2 (by simpa using a3), hn, hostE_edges h1]
  rfl

theorem set_back {t : TypesT} {n : List Int} {e : List (Int × Int × Int)} {v : List (List Int)} (h1 : (hostE t n e v).2 = 0) {p q : Nat} {value : Int} (hp : p < v.length) (hpn : p < n.length) (hq : q < v[p].length) (hqa : q < (attrsE t n[p]).1.length)
    (hlo : (attrsE t n[p]).1[q].low ≤ value) (hhi : value ≤ (attrsE t n[p]).1[q].high) : setH t n e (v.set p (v[p].set q value)) p q v[p][q] = ((n, e, v), 0) := by
  have h2 := set_valid h1 hp hpn hqa hlo hhi
  have hold := (hnodeE_zero.1 (hostE_nodes h1 p hpn hp)).2.2.2 q hqa
  rw [valAt_eq hqa hq] at hold
  have hr : ¬ (v[p][q] < (attrsE t n[p]).1[q].low ∨ v[p][q] > (attrsE t n[p]).1[q].high) := fun hh => by rw [if_pos hh] at hold; cases hold
  have hg : n.getD (p : Int).toNat 0 = n[p] := by simp [hpn]
  have hD : (attrsE t n[p]).1.getD (q : Int).toNat default = (attrsE t n[p]).1[q] := by simp [hqa]
  unfold setH
  rw [if_neg (by simp [h2]), if_pos (by omega), hg, if_pos (by omega), hD, if_pos (by omega)]
  have hg2 : (v.set p (v[p].set q value)).getD (p : Int).toNat [] = v[p].set q value := by simp [hp]
  rw [hg2]
  simp

theorem excs_set {t : TypesT} {n : List Int} {e : List (Int × Int × Int)} {v u : List (List Int)} (h1 : (hostE t n e v).2 = 0) (h2 : (hostE t n e u).2 = 0) : excsT t n e u = excsT t n e v := by
  unfold excsT; rw [if_neg (by simp [h2]), if_neg (by simp [h1])]

theorem setH_bad {t : TypesT} {n : List Int} {e : List (Int × Int × Int)} {v : List (List Int)} {node attr value : Int} (h : (setH t n e v node attr value).2 ≠ 0) : ∃ er, er ≠ 0 ∧ setH t n e v node attr value = (zeroH, er) := by
  refine ⟨_, h, ?_⟩
  unfold setH at h ⊢
  split
  · rfl
  split
  · split
    · split
      · rename_i h1 h2 h3 h4; rw [if_neg h1, if_pos h2, if_pos h3, if_pos h4] at h; exact absurd rfl h
      · rfl
    · rfl
  · rfl

/-- A place of a value. -/
def placeC (a b c : Int) : List AV := [.int .i64 a, .int .i64 b, .int .i64 c]

set_option maxHeartbeats 1000000 in
set_option maxRecDepth 100000 in
theorem spec9 (R : Nat) (t : TypesT) (ht : t.ok) (n : List Int) (e : List (Int × Int × Int)) (v : List (List Int)) (hv : ∀ r ∈ v, ∀ x ∈ r, I64 x) (node attr value : Int) (hval : I64 value) :
    Spec Tryz.prog R 0 9 [.agg (typesC t), .agg (hostC n e v), .agg (placeC node attr value)] [] (.bool true) [] := by
  refine spec_intro hmix Tryz.func9 c9 (fun vs w => Tryz.call9 vs w) (by simp) (by simp [Tryz.ntmps9]) ?_
  show awb _ _ _ (retK _ _ _ _ _) _
  simp [typesC, hostC, placeC, Nat.add_assoc]
  refine call_val (spec30 _) (by simp) ?_
  simp [aFill, repL, spl, Nat.add_assoc]
  refine call_lend [(R + 3, hostC n e v)] (spec31 _ t ht (n, e, v)) ?_ rfl (by simp) ?_ ?_
  · simp [lookF, toL_cons, toL_nil, typesC, encHosts, hostCs, hostHC, hostC]
  · simp [hget, hostC]
  cases hf : (fewT t && fewH n e v) with
  | false =>
    simp
    refine call_val (spec30 _) (by simp) ?_
    simp
    exact ret_pure (by simp [resA, resOne]) (by simp)
  | true =>
  simp only [Bool.and_eq_true] at hf
  have h1 := hf.2
  simp only [fewH, Bool.and_eq_true, decide_eq_true_eq, List.all_eq_true] at h1
  obtain ⟨⟨⟨a1, a2⟩, a3⟩, b3⟩ := h1
  have a5 : ∀ r ∈ v, r.length ≤ 1000000 := fun r hr => by have := b3 r hr; omega
  have a6 : ∀ r ∈ v, r.length ≤ 1048576 := fun r hr => by have := b3 r hr; omega
  simp
  refine call_val (spec33 _ n e v (by omega) (by omega) (by omega) a5) (by simp [hostC]) ?_
  simp
  refine call_val (spec49 _ t ht n e v (by omega) (by omega) a6 node attr value) (by simp [typesC, hostC]) ?_
  have b6 : ∀ r ∈ v, r.length < 4611686018427387904 ∧ ∀ x ∈ r, I64 x := fun r hr => ⟨by have := b3 r hr; omega, hv r hr⟩
  by_cases hz : (setH t n e v node attr value).2 = 0
  case neg =>
    obtain ⟨er, her, hS⟩ := setH_bad hz
    rw [hS]
    simp [zeroH, hostC, spl, Nat.add_assoc]
    refine call_val (spec50 _ t ht n e v (by omega) (by omega) a5 node attr value) (by simp [typesC, hostC]) ?_
    rw [hS]
    simp [zeroH, hostC, spl, Nat.add_assoc]
    refine call_val (spec41 _ [] [] [] [] [] [] (by simp) (by simp) (by simp) (by simp) (by simp)) (by simp [hostC]) ?_
    simp [her]
    refine call_val (spec41 _ [] [] [] [] [] [] (by simp) (by simp) (by simp) (by simp) (by simp)) (by simp [hostC]) ?_
    simp
    exact ret_pure (by simp [resA, resOne]) (by simp)
  obtain ⟨h1, p, q, rfl, rfl, hp, hpn, hq, hqa, lo, hi, hS⟩ := setH_ok hz
  have h2 := set_valid h1 hp hpn hqa lo hi
  have hB := set_back h1 hp hpn hq hqa lo hi
  have hX := excs_set h1 h2
  have hX2 : (excsT t n e v).2 = 0 := by unfold excsT; rw [if_neg (by simp [h1])]
  have hXl := excsT_len t n e v
  have hrow : ∀ x ∈ v[p].set q value, I64 x := fun x hx => by
    rcases List.mem_or_eq_of_mem_set hx with h | h
    · exact hv _ (List.getElem_mem hp) x h
    · rw [h]; exact hval
  have hmem : ∀ r ∈ v.set p (v[p].set q value), r ∈ v ∨ r = v[p].set q value := fun r hr => List.mem_or_eq_of_mem_set hr
  have hpl := b3 _ (List.getElem_mem hp)
  have c5 : ∀ r ∈ v.set p (v[p].set q value), r.length ≤ 1000000 := fun r hr => by
    rcases hmem r hr with h | h
    · exact a5 r h
    · rw [h]; simp; omega
  have c6 : ∀ r ∈ v.set p (v[p].set q value), r.length ≤ 1048576 := fun r hr => by have := c5 r hr; omega
  have c7 : ∀ r ∈ v.set p (v[p].set q value), r.length < 4611686018427387904 ∧ ∀ x ∈ r, I64 x := fun r hr => ⟨by have := c5 r hr; omega, fun x hx => by
    rcases hmem r hr with h | h
    · exact hv r h x hx
    · rw [h] at hx; exact hrow x hx⟩
  rw [hS]
  simp [hostC, spl, Nat.add_assoc]
  refine call_val (spec50 _ t ht n e v (by omega) (by omega) a5 p q value) (by simp [typesC, hostC]) ?_
  rw [hS]
  simp [hostC, spl, Nat.add_assoc]
  generalize hu : v.set p (v[p].set q value) = u at *
  have hul : u.length ≤ 45 := by rw [← hu]; simpa using a3
  refine call_val (spec41 _ n n e e u u (by omega) (by omega) (by omega) c7 c7) (by simp [hostC]) ?_
  simp [encIntss, encInts, hp, hq]
  refine call_val (spec49 _ t ht n e u (by omega) (by omega) c6 p q v[p][q]) (by simp [typesC, hostC, encInts, encIntss]) ?_
  rw [hB]
  simp [hostC, spl, Nat.add_assoc]
  refine call_val (spec35 _ t ht n e u (by omega) (by omega) c6) (by simp [typesC, hostC, encInts, encIntss]) ?_
  rw [hX]
  simp [hX2]
  refine call_val (spec35 _ t ht n e v (by omega) (by omega) a6) (by simp [typesC, hostC, encInts, encIntss]) ?_
  simp [hX2]
  refine call_val (spec41 _ n n e e v v (by omega) (by omega) (by omega) b6 b6) (by simp [hostC, encInts, encIntss]) ?_
  simp
  refine call_val (spec37 _ (excsT t n e v).1 (excsT t n e v).1 (by omega)) (by simp) ?_
  simp
  exact ret_pure (by simp [resA, resOne]) (by simp)
end Go.Av
