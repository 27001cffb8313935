/- What the functions of HostSameness compute, fifth part: copies. -/
import Derived.Test.YtojbfpfkkcdlhaaGreatS3
namespace Go.Av
set_option linter.unusedVariables false
set_option linter.unusedSimpArgs false
open Go.Proofs

theorem spec86 (R : Nat) (n : List Int) (e : List (Int × Int × Int)) (hn : n.length ≤ 1000000) (he : e.length ≤ 1000000) : Spec Tryz.prog R 0 86 [.agg (graphC n e)] [] (.agg (graphC n e)) [] := by
  refine spec_intro hmix Tryz.func86 c86 (fun vs w => Tryz.call86 vs w) (by simp) (by simp [Tryz.ntmps86]) ?_
  show awb _ _ _ (retK _ _ _ _ _) _
  have h1 : n.length ≤ 4294967296 := by omega
  have h2 : e.length ≤ 4294967296 := by omega
  simp [graphC, encInts, encEdges, h1, h2, aFill, repL, Nat.add_assoc, spl]
  refine ret_to (v := .agg [.osl (R + 3) 0 n.length none 1, .osl (R + 5) 0 e.length none 3]) ?_ [] [(R + 3, n.map (.int .i64)), (R + 5, edgeCs e)] ?_ ?_ ?_ ?_
  · simp [resA, resOne]
  · simp [NsOK]
  · have := nm_edgeCs (S := fun _ => False) e
    have := nmL_map (f := AV.int .i64) (S := fun _ => False) (fun _ => trivial) n
    simp [FzL, look, *]
  · simp [lookF]
    exact ⟨(List.take_of_length_le (by simp)).symm, (List.take_of_length_le (by simp)).symm⟩
  · simp

theorem spec33 (R : Nat) (n : List Int) (e : List (Int × Int × Int)) (v : List (List Int)) (hn : n.length ≤ 1000000) (he : e.length ≤ 1000000) (hv : v.length ≤ 1000000) (hr : ∀ r ∈ v, r.length ≤ 1000000) :
    Spec Tryz.prog R 0 33 [.agg (hostC n e v)] [] (.agg (hostC n e v)) [] := by
  refine spec_intro hmix Tryz.func33 c33 (fun vs w => Tryz.call33 vs w) (by simp) (by simp [Tryz.ntmps33]) ?_
  show awb _ _ _ (retK _ _ _ _ _) _
  simp [hostC, Nat.add_assoc]
  refine call_val (spec86 _ n e hn he) (by simp [nmL, nm_encInts, nm_encEdges]) ?_
  simp [graphC, aFill, spl, Nat.add_assoc]
  refine loop_intro (ι := { k : Nat // k ≤ v.length }) (fun k => ⟨[(1, .ptr R 0), (2, .ptr (R + 1) 0), (3, .ptr (R + 2) 0), (4, .int .i64 k.1)], [(R, hostC n e v), (R + 1, [.nilsl, .nilsl, .nilsl]), (R + 2, [encInts n, encEdges e, .osl (R + 3) 0 k.1 none 1]), (R + 3, (v.take k.1).map encInts)], R + 4⟩) (fun k => v.length - k.1) ⟨0, by simp⟩ ?_ ?_
  · refine shift_phantom.trans ?_
    simp [hset]
    refine shift_ren [(R, R), (R + 1, R + 1), (R + 2, R + 2), (R + 3, R + 3)] [] [R, R + 1, R + 2, R + 3] (by omega) ?_ ?_ ?_ ?_
    · simp [NsOK]
    · simp [FzL]
    · simp [look]
    · simp [HpTo_cons, HpTo_nil, look, hostC, toL_cons, toL_nil]
  · rintro ⟨k, hk⟩
    rcases Nat.lt_or_ge k v.length with hlt | hge
    · have hr' := hr _ (List.getElem_mem hlt)
      have h1 : v[k].length ≤ 4294967296 := by omega
      have h2 : k + 1 ≤ 4294967296 := by omega
      have h3 : k ≤ v.length := by omega
      simp [hostC, encIntss, encInts, hlt, h1, h2, h3, aFill, repL, spl, Nat.add_assoc, wrap_nat (show k < 4611686018427387904 by omega), -Subtype.exists]
      refine ⟨⟨k + 1, hlt⟩, by simp only; omega, shift_ren [(R, R), (R + 1, R + 1), (R + 2, R + 2), (R + 7, R + 3)] [(R + 5, v[k].map (.int .i64))] [R, R + 1, R + 2, R + 7] (by omega) ?_ ?_ ?_ ?_⟩
      · simp [NsOK]
      · simp [FzL, look]
      · simp [look]
      · simp [HpTo_cons, HpTo_nil, look, toL_cons, toL_nil, -List.map_take]
        have e1 : (v.map encInts).take (k + 1) = (v.take k).map encInts ++ [encInts v[k]] := by
          rw [List.take_add_one]; simp [hlt]
        rw [List.take_take, Nat.min_self, show min (k + 1) v.length = k + 1 by omega, ← List.map_take, e1, List.take_of_length_le (by simp; omega)]
        refine toL_append (toL_refl (nmL_intss _)) ?_
        simp [toL_cons, toL_nil, lookF, encInts]
        exact (List.take_of_length_le (by simp)).symm
    · have ek : k = v.length := by omega
      subst ek
      simp [hostC, encIntss, spl, List.take_of_length_le]
      refine ret_ren (v := .agg [encInts n, encEdges e, .osl (R + 3) 0 v.length none 1]) ?_ [] [(R + 3, v.map encInts)] [] ?_ ?_ ?_ ?_
      · simp [resA, resOne]
      · simp [NsOK]
      · simp [FzL, look, List.take_of_length_le]
      · simp [lookF, List.take_of_length_le]
      · simp [HpTo_nil]
end Go.Av
