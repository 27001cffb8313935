/- HostSameness returns true for every input, and its arguments read as they did. -/
import Derived.Test.YtojbfpfkkcdlhaaGreatS5
import Derived.Test.YtojbfpfkkcdlhaaGreatAv22
import Derived.Test.YtojbfpfkkcdlhaaGreatRows
import Derived.WalkKit
namespace Go.Av
set_option linter.unusedVariables false
set_option linter.unusedSimpArgs false
open Go.ChangeShapes Go.WideShapes Go.Proofs
section
variable {H : Type} {enc : TypeId × Value → H} {W : World} {base : Nat} {spare : Nat → Bool} {held : Bool}

theorem len2 {α : Type} {cs : List α} (h : cs.length = 2) : ∃ a b, cs = [a, b] := by
  match cs, h with
  | [a, b], _ => exact ⟨a, b, rfl⟩
theorem len3 {α : Type} {cs : List α} (h : cs.length = 3) : ∃ a b c, cs = [a, b, c] := by
  match cs, h with
  | [a, b, c], _ => exact ⟨a, b, c, rfl⟩
theorem flat_single {α : Type} (f : α → AV) (l : List α) : l.flatMap (fun a => [f a]) = l.map f := by
  induction l with
  | nil => rfl
  | cons a l ih => rw [List.flatMap_cons, ih]; rfl

theorem rd_ints {fuel : Nat} {cs : List Value} {x : DataW H × List MemPlace} (h : DataW.trod enc Tryz.prog W base spare held fuel 26 cs = some x) :
    ∃ l : List Int, (∀ n ∈ l, I64 n) ∧ l.length ≤ maxLen ∧ Rd W cs [encInts l] := by
  obtain ⟨l, h1, h2, h3⟩ := rd_slice Tryz.underlying26 (n := 1) (by kernel_rfl) (by omega) (fun n : Int => [AV.int .i64 n]) (fun _ => rfl) I64 (fun fuel cs x h => by
    obtain ⟨n, q1, _, q3⟩ := rd_int Tryz.underlying3 h
    exact ⟨n, i64_wf q1, q3⟩) h
  refine ⟨l, h1, h2, ?_⟩
  rw [flat_single] at h3
  exact h3

theorem rd_intss {fuel : Nat} {cs : List Value} {x : DataW H × List MemPlace} (h : DataW.trod enc Tryz.prog W base spare held fuel 53 cs = some x) :
    ∃ l : List (List Int), (∀ r ∈ l, r.length ≤ maxLen ∧ ∀ n ∈ r, I64 n) ∧ l.length ≤ maxLen ∧ Rd W cs [encIntss l] := by
  obtain ⟨l, h1, h2, h3⟩ := rd_slice Tryz.underlying53 (n := 1) (by kernel_rfl) (by omega) (fun r : List Int => [encInts r]) (fun _ => rfl) (fun r => r.length ≤ maxLen ∧ ∀ n ∈ r, I64 n) (fun fuel cs x h => by
    obtain ⟨r, q1, q2, q3⟩ := rd_ints h
    exact ⟨r, ⟨q2, q1⟩, q3⟩) h
  refine ⟨l, h1, h2, ?_⟩
  rw [flat_single] at h3
  exact h3

theorem rd_edge {fuel : Nat} {cs : List Value} {x : DataW H × List MemPlace} (h : DataW.trod enc Tryz.prog W base spare held fuel 84 cs = some x) :
    ∃ e : Int × Int × Int, (I64 e.1 ∧ I64 e.2.1 ∧ I64 e.2.2) ∧ Rd W cs (edgeC e) := by
  obtain ⟨xs, n, _, _, hl, hlen, hf⟩ := DataW.trod_struct Tryz.underlying84 h
  have c3 : Tryz.prog.cellsOf 3 = 1 := by kernel_rfl
  have c84 : Tryz.prog.cellsOf 84 = 3 := by kernel_rfl
  rw [c84] at hl
  obtain ⟨a, b, c, rfl⟩ := len3 hl
  have f0 : DataW.trod enc Tryz.prog W base spare held n 3 (([a, b, c].drop 0).take (Tryz.prog.cellsOf 3)) = xs[0]? := hf 0 _ rfl
  have f1 : DataW.trod enc Tryz.prog W base spare held n 3 (([a, b, c].drop 1).take (Tryz.prog.cellsOf 3)) = xs[1]? := hf 1 _ rfl
  have f2 : DataW.trod enc Tryz.prog W base spare held n 3 (([a, b, c].drop 2).take (Tryz.prog.cellsOf 3)) = xs[2]? := hf 2 _ rfl
  rw [c3] at f0 f1 f2
  obtain ⟨y0, y1, y2, rfl⟩ := len3 (cs := xs) hlen
  obtain ⟨x0, w0, e0', r0⟩ := rd_int (x := y0) Tryz.underlying3 f0
  obtain ⟨x1, w1, e1', r1⟩ := rd_int (x := y1) Tryz.underlying3 f1
  obtain ⟨x2, w2, e2', r2⟩ := rd_int (x := y2) Tryz.underlying3 f2
  exact ⟨(x0, x1, x2), ⟨i64_wf w0, i64_wf w1, i64_wf w2⟩, Rd.app (cs := [a]) r0 (Rd.app (cs := [b]) r1 r2)⟩

theorem rd_edges {fuel : Nat} {cs : List Value} {x : DataW H × List MemPlace} (h : DataW.trod enc Tryz.prog W base spare held fuel 27 cs = some x) :
    ∃ l : List (Int × Int × Int), (∀ e ∈ l, I64 e.1 ∧ I64 e.2.1 ∧ I64 e.2.2) ∧ l.length ≤ maxLen ∧ Rd W cs [encEdges l] :=
  rd_slice Tryz.underlying27 (n := 3) (by kernel_rfl) (by omega) edgeC edgeC_len (fun e => I64 e.1 ∧ I64 e.2.1 ∧ I64 e.2.2) (fun fuel cs x h => rd_edge h) h

theorem rd_graph {fuel : Nat} {cs : List Value} {x : DataW H × List MemPlace} (h : DataW.trod enc Tryz.prog W base spare held fuel 29 cs = some x) :
    ∃ n e, (∀ k ∈ n, I64 k) ∧ n.length ≤ maxLen ∧ (∀ k ∈ e, I64 k.1 ∧ I64 k.2.1 ∧ I64 k.2.2) ∧ e.length ≤ maxLen ∧ Rd W cs (graphC n e) := by
  obtain ⟨xs, n, _, _, hl, hlen, hf⟩ := DataW.trod_struct Tryz.underlying29 h
  have c26 : Tryz.prog.cellsOf 26 = 1 := by kernel_rfl
  have c27 : Tryz.prog.cellsOf 27 = 1 := by kernel_rfl
  have c29 : Tryz.prog.cellsOf 29 = 2 := by kernel_rfl
  rw [c29] at hl
  obtain ⟨a, b, rfl⟩ := len2 hl
  have f0 : DataW.trod enc Tryz.prog W base spare held n 26 (([a, b].drop 0).take (Tryz.prog.cellsOf 26)) = xs[0]? := hf 0 _ rfl
  have f1 : DataW.trod enc Tryz.prog W base spare held n 27 (([a, b].drop 1).take (Tryz.prog.cellsOf 27)) = xs[1]? := hf 1 _ rfl
  rw [c26] at f0
  rw [c27] at f1
  obtain ⟨y0, y1, rfl⟩ := len2 (cs := xs) hlen
  obtain ⟨l, l1, l2, r0⟩ := rd_ints (x := y0) f0
  obtain ⟨m, m1, m2, r1⟩ := rd_edges (x := y1) f1
  exact ⟨l, m, l1, l2, m1, m2, Rd.app (cs := [a]) r0 r1⟩

theorem rd_host {fuel : Nat} {cs : List Value} {x : DataW H × List MemPlace} (h : DataW.trod enc Tryz.prog W base spare held fuel 55 cs = some x) :
    ∃ n e v, (∀ k ∈ n, I64 k) ∧ n.length ≤ maxLen ∧ (∀ k ∈ e, I64 k.1 ∧ I64 k.2.1 ∧ I64 k.2.2) ∧ e.length ≤ maxLen ∧ (∀ r ∈ v, r.length ≤ maxLen ∧ ∀ k ∈ r, I64 k) ∧ v.length ≤ maxLen ∧ Rd W cs (hostC n e v) := by
  obtain ⟨xs, n, _, _, hl, hlen, hf⟩ := DataW.trod_struct Tryz.underlying55 h
  have c29 : Tryz.prog.cellsOf 29 = 2 := by kernel_rfl
  have c53 : Tryz.prog.cellsOf 53 = 1 := by kernel_rfl
  have c55 : Tryz.prog.cellsOf 55 = 3 := by kernel_rfl
  rw [c55] at hl
  obtain ⟨a, b, c, rfl⟩ := len3 hl
  have f0 : DataW.trod enc Tryz.prog W base spare held n 29 (([a, b, c].drop 0).take (Tryz.prog.cellsOf 29)) = xs[0]? := hf 0 _ rfl
  have f1 : DataW.trod enc Tryz.prog W base spare held n 53 (([a, b, c].drop 2).take (Tryz.prog.cellsOf 53)) = xs[1]? := hf 1 _ rfl
  rw [c29] at f0
  rw [c53] at f1
  obtain ⟨y0, y1, rfl⟩ := len2 (cs := xs) hlen
  obtain ⟨l, m, l1, l2, m1, m2, r0⟩ := rd_graph (x := y0) f0
  obtain ⟨v, v1, v2, r1⟩ := rd_intss (x := y1) f1
  exact ⟨l, m, v, l1, l2, m1, m2, v1, v2, Rd.app (cs := [a, b]) r0 r1⟩
end

set_option maxRecDepth 100000 in
theorem open_host {H : Type} {enc : TypeId × Value → H} {W : World} {base b0 : Nat} {spare : Nat → Bool} {held : Bool} {v : Value} {d : DataW H} {p : List MemPlace} (hv : Value.okWide Tryz.prog W .any b0 55 v) (h : DataW.Trod enc Tryz.prog W base spare held 55 v d p) :
    ∃ n e r, okRows r ∧ VR (e0 W) W (.agg (hostC n e r)) v := by
  obtain ⟨cs, rfl, _⟩ := okWide_struct Tryz.underlying55 hv
  obtain ⟨fuel, hf⟩ := h
  obtain ⟨n, e, r, h1, h2, h3, h4, h5, h6, h7⟩ := rd_host hf
  exact ⟨n, e, r, fun x hx => (h5 x hx).2, Rd.agg (by simpa [Value.cells] using h7)⟩
end Go.Av

namespace Go.Proofs.YtojbfpfkkcdlhaaGreat.hostSameness
open Go.ChangeShapes Go.WideShapes Go.ChangeAt Go.RowKit Go.Av

theorem own : ownKnob Tryz.prog.godebug = none := by kernel_rfl
theorem laid : laidOutB Tryz.prog = true := by kernel_rfl

set_option maxRecDepth 100000 in
theorem contract (H : Type) (enc : TypeId × Value → H) (W : World) (base : Nat) (args : Array Value) (ds gs : List (DataW H)) (before : List MemPlace)
    (hval : ∀ (j : Nat) t v, Tryz.f8.params[j]? = some t → args[j]? = some v → Value.okWide Tryz.prog W .any base t v)
    (hW : DataW.Whole enc Tryz.prog Tryz.f8.params.toList Rows.hostSamenessSpec.vars false W args.toList ds gs before) :
    Calls Tryz.prog 8 args W fun e W' => ∃ v, e = .returned v ∧ Rows.hostSamenessSpec.post enc Tryz.prog Tryz.f8 false true false false W args v W' := by
  have hW' := hW
  obtain ⟨p, q, hA0, hV, rfl, hfz, hnd⟩ := hW
  have hA : DataW.TrodAll enc Tryz.prog W 0 (fun _ => true) true Tryz.f8.params.toList args.toList ds p := hA0
  rw [Tryz.params8] at hA hval
  obtain ⟨v0, vs0, d0, ds0, p0, q0, hargs, rfl, rfl, h0, r0⟩ := trodAll_cons hA
  obtain ⟨v1, vs1, d1, ds1, p1, q1, rfl, rfl, rfl, h1, r1⟩ := trodAll_cons r0
  obtain ⟨rfl, rfl, rfl⟩ := trodAll_nil r1
  obtain rfl : args = #[v0, v1] := by cases args; simp_all
  obtain ⟨rfl, rfl⟩ := trodVars_none hV
  clear hA0
  obtain ⟨n, e, v, hv, k0⟩ := open_host (hval 0 55 v0 rfl rfl) h0
  obtain ⟨m, f, u, hu, k1⟩ := open_host (hval 1 55 v1 rfl rfl) h1
  refine (call_of_spec (spec8 0 n m e f v u hv hu) (W := W) (vs := #[v0, v1]) rfl (fun j a x hj hx => ?_)).mono fun en W' hh => ?_
  · match j with
    | 0 => simp at hj hx; subst hj hx; exact k0
    | 1 => simp at hj hx; subst hj hx; exact k1
    | j + 2 => simp at hj
  obtain ⟨r, e', rfl, hr, hg, hk⟩ := hh
  cases hr
  have hlt := hW'.lt
  have stay : ∀ {t : TypeId} {v : Value} {d : DataW H} {ps : List MemPlace} (sp : Nat → Bool), Tryz.prog.readableRec t = true → t < Tryz.prog.types.size → DataW.Trod enc Tryz.prog W 0 (fun _ => true) true t v d ps → (∀ p ∈ ps, p ∈ (p0 ++ (p1 ++ [])) ++ []) → (∀ p ∈ (p0 ++ (p1 ++ [])) ++ [], sp p.block = true) →
      DataW.Trod enc Tryz.prog W' 0 sp true t v d ps := fun sp hr hs ht hin hsp =>
    WideElems.Trod_stays laid hr hs ht (fun p hp => sameAt_of hk p (hlt p (hin p hp))) (fun p hp => hsp p (hin p hp))
  refine ⟨_, rfl, post_of_same (pa := p0 ++ (p1 ++ [])) (pv := []) hW' (fun _ _ _ => trodAll_cons_mk (shut_bool Tryz.underlying4 _) trodAll_mk0)
    (fun sp hsp => trodAll_cons_mk (stay sp (by kernel_rfl) (of_decide_eq_true (by kernel_rfl)) h0 (fun p hp => by simp [hp]) hsp) (trodAll_cons_mk (stay sp (by kernel_rfl) (of_decide_eq_true (by kernel_rfl)) h1 (fun p hp => by simp [hp]) hsp) trodAll_mk0))
    (fun _ _ => rfl) rfl (hg.frame _) hg.2.1 (ok_one (by kernel_rfl) rfl (okWide_bool_mk Tryz.underlying4 _))⟩

end Go.Proofs.YtojbfpfkkcdlhaaGreat.hostSameness
