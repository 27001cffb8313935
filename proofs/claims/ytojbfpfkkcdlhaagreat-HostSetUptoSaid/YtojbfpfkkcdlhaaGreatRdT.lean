/- How hosts among the arguments are read. -/
import Derived.Test.YtojbfpfkkcdlhaaGreatAv22
import Derived.Test.YtojbfpfkkcdlhaaGreatRows
import Derived.WalkKit
import Derived.Test.YtojbfpfkkcdlhaaGreatB7
namespace Go.Av
set_option linter.unusedVariables false
set_option linter.unusedSimpArgs false
open Go.ChangeShapes Go.WideShapes Go.Proofs
/-- Rows and their numbers are in range. -/
def okRows (v : List (List Int)) : Prop := ∀ r ∈ v, ∀ x ∈ r, I64 x
section
variable {H : Type} {enc : TypeId × Value → H} {W : World} {base : Nat} {spare : Nat → Bool} {held : Bool}

theorem len2 {α : Type} {cs : List α} (h : cs.length = 2) : ∃ a b, cs = [a, b] := by
  match cs, h with
  | [a, b], _ => exact ⟨a, b, rfl⟩
theorem len3 {α : Type} {cs : List α} (h : cs.length = 3) : ∃ a b c, cs = [a, b, c] := by
  match cs, h with
  | [a, b, c], _ => exact ⟨a, b, c, rfl⟩
theorem flat_single {α : Type} (f : α → AV) (l : List α) : l.flatMap (fun a => [f a]) = l.map f := by
  induction l with
  | nil => rfl
  | cons a l ih => rw [List.flatMap_cons, ih]; rfl

theorem rd_ints {fuel : Nat} {cs : List Value} {x : DataW H × List MemPlace} (h : DataW.trod enc Tryz.prog W base spare held fuel 26 cs = some x) :
    ∃ l : List Int, (∀ n ∈ l, I64 n) ∧ l.length ≤ maxLen ∧ Rd W cs [encInts l] := by
  obtain ⟨l, h1, h2, h3⟩ := rd_slice Tryz.underlying26 (n := 1) (by kernel_rfl) (by omega) (fun n : Int => [AV.int .i64 n]) (fun _ => rfl) I64 (fun fuel cs x h => by
    obtain ⟨n, q1, _, q3⟩ := rd_int Tryz.underlying3 h
    exact ⟨n, i64_wf q1, q3⟩) h
  refine ⟨l, h1, h2, ?_⟩
  rw [flat_single] at h3
  exact h3

theorem rd_intss {fuel : Nat} {cs : List Value} {x : DataW H × List MemPlace} (h : DataW.trod enc Tryz.prog W base spare held fuel 53 cs = some x) :
    ∃ l : List (List Int), (∀ r ∈ l, r.length ≤ maxLen ∧ ∀ n ∈ r, I64 n) ∧ l.length ≤ maxLen ∧ Rd W cs [encIntss l] := by
  obtain ⟨l, h1, h2, h3⟩ := rd_slice Tryz.underlying53 (n := 1) (by kernel_rfl) (by omega) (fun r : List Int => [encInts r]) (fun _ => rfl) (fun r => r.length ≤ maxLen ∧ ∀ n ∈ r, I64 n) (fun fuel cs x h => by
    obtain ⟨r, q1, q2, q3⟩ := rd_ints h
    exact ⟨r, ⟨q2, q1⟩, q3⟩) h
  refine ⟨l, h1, h2, ?_⟩
  rw [flat_single] at h3
  exact h3

theorem rd_edge {fuel : Nat} {cs : List Value} {x : DataW H × List MemPlace} (h : DataW.trod enc Tryz.prog W base spare held fuel 84 cs = some x) :
    ∃ e : Int × Int × Int, (I64 e.1 ∧ I64 e.2.1 ∧ I64 e.2.2) ∧ Rd W cs (edgeC e) := by
  obtain ⟨xs, n, _, _, hl, hlen, hf⟩ := DataW.trod_struct Tryz.underlying84 h
  have c3 : Tryz.prog.cellsOf 3 = 1 := by kernel_rfl
  have c84 : Tryz.prog.cellsOf 84 = 3 := by kernel_rfl
  rw [c84] at hl
  obtain ⟨a, b, c, rfl⟩ := len3 hl
  have f0 : DataW.trod enc Tryz.prog W base spare held n 3 (([a, b, c].drop 0).take (Tryz.prog.cellsOf 3)) = xs[0]? := hf 0 _ rfl
  have f1 : DataW.trod enc Tryz.prog W base spare held n 3 (([a, b, c].drop 1).take (Tryz.prog.cellsOf 3)) = xs[1]? := hf 1 _ rfl
  have f2 : DataW.trod enc Tryz.prog W base spare held n 3 (([a, b, c].drop 2).take (Tryz.prog.cellsOf 3)) = xs[2]? := hf 2 _ rfl
  rw [c3] at f0 f1 f2
  obtain ⟨y0, y1, y2, rfl⟩ := len3 (cs := xs) hlen
  obtain ⟨x0, w0, e0', r0⟩ := rd_int (x := y0) Tryz.underlying3 f0
  obtain ⟨x1, w1, e1', r1⟩ := rd_int (x := y1) Tryz.underlying3 f1
  obtain ⟨x2, w2, e2', r2⟩ := rd_int (x := y2) Tryz.underlying3 f2
  exact ⟨(x0, x1, x2), ⟨i64_wf w0, i64_wf w1, i64_wf w2⟩, Rd.app (cs := [a]) r0 (Rd.app (cs := [b]) r1 r2)⟩

theorem rd_edges {fuel : Nat} {cs : List Value} {x : DataW H × List MemPlace} (h : DataW.trod enc Tryz.prog W base spare held fuel 27 cs = some x) :
    ∃ l : List (Int × Int × Int), (∀ e ∈ l, I64 e.1 ∧ I64 e.2.1 ∧ I64 e.2.2) ∧ l.length ≤ maxLen ∧ Rd W cs [encEdges l] :=
  rd_slice Tryz.underlying27 (n := 3) (by kernel_rfl) (by omega) edgeC edgeC_len (fun e => I64 e.1 ∧ I64 e.2.1 ∧ I64 e.2.2) (fun fuel cs x h => rd_edge h) h

theorem rd_graph {fuel : Nat} {cs : List Value} {x : DataW H × List MemPlace} (h : DataW.trod enc Tryz.prog W base spare held fuel 29 cs = some x) :
    ∃ n e, (∀ k ∈ n, I64 k) ∧ n.length ≤ maxLen ∧ (∀ k ∈ e, I64 k.1 ∧ I64 k.2.1 ∧ I64 k.2.2) ∧ e.length ≤ maxLen ∧ Rd W cs (graphC n e) := by
  obtain ⟨xs, n, _, _, hl, hlen, hf⟩ := DataW.trod_struct Tryz.underlying29 h
  have c26 : Tryz.prog.cellsOf 26 = 1 := by kernel_rfl
  have c27 : Tryz.prog.cellsOf 27 = 1 := by kernel_rfl
  have c29 : Tryz.prog.cellsOf 29 = 2 := by kernel_rfl
  rw [c29] at hl
  obtain ⟨a, b, rfl⟩ := len2 hl
  have f0 : DataW.trod enc Tryz.prog W base spare held n 26 (([a, b].drop 0).take (Tryz.prog.cellsOf 26)) = xs[0]? := hf 0 _ rfl
  have f1 : DataW.trod enc Tryz.prog W base spare held n 27 (([a, b].drop 1).take (Tryz.prog.cellsOf 27)) = xs[1]? := hf 1 _ rfl
  rw [c26] at f0
  rw [c27] at f1
  obtain ⟨y0, y1, rfl⟩ := len2 (cs := xs) hlen
  obtain ⟨l, l1, l2, r0⟩ := rd_ints (x := y0) f0
  obtain ⟨m, m1, m2, r1⟩ := rd_edges (x := y1) f1
  exact ⟨l, m, l1, l2, m1, m2, Rd.app (cs := [a]) r0 r1⟩

theorem rd_host {fuel : Nat} {cs : List Value} {x : DataW H × List MemPlace} (h : DataW.trod enc Tryz.prog W base spare held fuel 55 cs = some x) :
    ∃ n e v, (∀ k ∈ n, I64 k) ∧ n.length ≤ maxLen ∧ (∀ k ∈ e, I64 k.1 ∧ I64 k.2.1 ∧ I64 k.2.2) ∧ e.length ≤ maxLen ∧ (∀ r ∈ v, r.length ≤ maxLen ∧ ∀ k ∈ r, I64 k) ∧ v.length ≤ maxLen ∧ Rd W cs (hostC n e v) := by
  obtain ⟨xs, n, _, _, hl, hlen, hf⟩ := DataW.trod_struct Tryz.underlying55 h
  have c29 : Tryz.prog.cellsOf 29 = 2 := by kernel_rfl
  have c53 : Tryz.prog.cellsOf 53 = 1 := by kernel_rfl
  have c55 : Tryz.prog.cellsOf 55 = 3 := by kernel_rfl
  rw [c55] at hl
  obtain ⟨a, b, c, rfl⟩ := len3 hl
  have f0 : DataW.trod enc Tryz.prog W base spare held n 29 (([a, b, c].drop 0).take (Tryz.prog.cellsOf 29)) = xs[0]? := hf 0 _ rfl
  have f1 : DataW.trod enc Tryz.prog W base spare held n 53 (([a, b, c].drop 2).take (Tryz.prog.cellsOf 53)) = xs[1]? := hf 1 _ rfl
  rw [c29] at f0
  rw [c53] at f1
  obtain ⟨y0, y1, rfl⟩ := len2 (cs := xs) hlen
  obtain ⟨l, m, l1, l2, m1, m2, r0⟩ := rd_graph (x := y0) f0
  obtain ⟨v, v1, v2, r1⟩ := rd_intss (x := y1) f1
  exact ⟨l, m, v, l1, l2, m1, m2, v1, v2, Rd.app (cs := [a, b]) r0 r1⟩
end

set_option maxRecDepth 100000 in
theorem open_host {H : Type} {enc : TypeId × Value → H} {W : World} {base b0 : Nat} {spare : Nat → Bool} {held : Bool} {v : Value} {d : DataW H} {p : List MemPlace} (hv : Value.okWide Tryz.prog W .any b0 55 v) (h : DataW.Trod enc Tryz.prog W base spare held 55 v d p) :
    ∃ n e r, okRows r ∧ VR (e0 W) W (.agg (hostC n e r)) v := by
  obtain ⟨cs, rfl, _⟩ := okWide_struct Tryz.underlying55 hv
  obtain ⟨fuel, hf⟩ := h
  obtain ⟨n, e, r, h1, h2, h3, h4, h5, h6, h7⟩ := rd_host hf
  exact ⟨n, e, r, fun x hx => (h5 x hx).2, Rd.agg (by simpa [Value.cells] using h7)⟩
end Go.Av
/- Type graphs among the arguments: how they are read, with what the bound gives. -/
namespace Go.Av
set_option linter.unusedVariables false
set_option linter.unusedSimpArgs false
open Go.ChangeShapes Go.WideShapes Go.Proofs Go.Proofs.YtojbfpfkkcdlhaaGreat

section bulk
variable {H : Type}
theorem bulk_one (d : DataW H) : 1 ≤ Rows.uptoBulk d := by
  cases d with
  | lit l => cases l <;> simp [Rows.uptoBulk]
  | _ => simp [Rows.uptoBulk]
theorem bulk_part {d : DataW H} : ∀ {l : List (DataW H)}, d ∈ l → Rows.uptoBulk d ≤ Rows.uptoBulkAll l
  | [], h => by cases h
  | x :: r, h => by
    simp only [Rows.uptoBulkAll]
    rcases List.mem_cons.1 h with rfl | h
    · omega
    · have := bulk_part h; omega
theorem bulk_length : ∀ (l : List (DataW H)), l.length ≤ Rows.uptoBulkAll l
  | [] => by simp [Rows.uptoBulkAll]
  | x :: r => by have := bulk_one x; have := bulk_length r; simp only [Rows.uptoBulkAll, List.length_cons]; omega
theorem bulk_slice {D : Nat → DataW H} {len B : Nat} {rest : List (DataW H)} (h : Rows.uptoBulk (.slice ((List.range len).map D) rest) ≤ B) : len ≤ B ∧ ∀ i, i < len → Rows.uptoBulk (D i) ≤ B := by
  simp only [Rows.uptoBulk] at h
  refine ⟨?_, fun i hi => ?_⟩
  · have := bulk_length ((List.range len).map D)
    simp only [List.length_map, List.length_range] at this
    omega
  · have := bulk_part (d := D i) (l := (List.range len).map D) (List.mem_map.2 ⟨i, by simpa using hi, rfl⟩)
    omega
theorem bulk_agg {xs : List (DataW H × List MemPlace)} {B : Nat} (h : Rows.uptoBulk (.agg (xs.map (·.1))) ≤ B) {y : DataW H × List MemPlace} (hy : y ∈ xs) : Rows.uptoBulk y.1 ≤ B := by
  simp only [Rows.uptoBulk] at h
  have := bulk_part (d := y.1) (l := xs.map (·.1)) (List.mem_map.2 ⟨y, hy, rfl⟩)
  omega
theorem bulk_str {s : ByteArray} {B : Nat} (h : Rows.uptoBulk (DataW.lit (H := H) (.string s.data.toList)) ≤ B) : s.size ≤ B := by
  simp only [Rows.uptoBulk, Array.length_toList] at h
  have : s.data.size = s.size := rfl
  omega
end bulk

theorem len4 {α : Type} {cs : List α} (h : cs.length = 4) : ∃ a b c d, cs = [a, b, c, d] := by
  match cs, h with
  | [a, b, c, d], _ => exact ⟨a, b, c, d, rfl⟩
theorem len7 {α : Type} {cs : List α} (h : cs.length = 7) : ∃ a b c d e f g, cs = [a, b, c, d, e, f, g] := by
  match cs, h with
  | [a, b, c, d, e, f, g], _ => exact ⟨a, b, c, d, e, f, g, rfl⟩

section
variable {H : Type} {enc : TypeId × Value → H} {P : Program} {W : World} {base : Nat} {spare : Nat → Bool} {held : Bool}

theorem rd_sliceB {t el : TypeId} (ht : P.underlying t = some (.slice el)) {n : Nat} (hn : P.cellsOf el = n) (h0 : 0 < n) {A : Type} (f : A → List AV) (hf : ∀ a, (f a).length = n) (good : A → Prop) {B : Nat}
    (hel : ∀ (fuel : Nat) (cs : List Value) (x : DataW H × List MemPlace), DataW.trod enc P W base spare held fuel el cs = some x → Rows.uptoBulk x.1 ≤ B → ∃ a, good a ∧ Rd W cs (f a))
    {fuel : Nat} {cs : List Value} {x : DataW H × List MemPlace} (h : DataW.trod enc P W base spare held fuel t cs = some x) (hB : Rows.uptoBulk x.1 ≤ B) :
    ∃ l : List A, (∀ a ∈ l, good a) ∧ l.length ≤ B ∧ Rd W cs [.vsl (l.flatMap f) l.length none] := by
  rcases Deep.open_slice ht h with ⟨rfl, rfl⟩ | ⟨a, len, cap, m, fu, D, Pl, rfl, hb, hl, hm, hmm, rfl, hx⟩
  · exact ⟨[], by simp, by simp, Rd.one (.vslz none (by intro _ h; cases h)) rfl⟩
  · rw [hn] at hx
    have hlm : len ≤ m := by rw [hmm]; split <;> omega
    have hbs := bulk_slice hB
    obtain ⟨l, l1, l2⟩ := list_of (Q := fun i (y : A) => good y ∧ ∃ cs', W.cells? base (a.add (i * n)) n = some cs' ∧ Rd W cs' (f y)) len (fun i hi => by
      obtain ⟨cs', q1, q2⟩ := hx i (by omega)
      obtain ⟨y, q3, q4⟩ := hel _ _ _ q2 (hbs.2 i hi)
      exact ⟨y, q3, cs', q1, q4⟩)
    refine ⟨l, fun y hy => ?_, by have := hbs.1; omega, Rd.one ?_ rfl⟩
    · obtain ⟨i, hi⟩ := List.getElem?_of_mem hy
      exact (l2 i y hi).1
    · cases len with
      | zero =>
        have : l = [] := List.eq_nil_of_length_eq_zero l1
        subst this
        exact .vslz (some a) (by intro _ h; cases h)
      | succ len =>
        have cell : ∀ (i r : Nat) (y : A), l[i]? = some y → r < n → ∃ c, W.cell? (a.add (i * n + r)) = some c ∧ ∀ z, (f y)[r]? = some z → VR (e0 W) W z c ∧ c.oneCell' = true := fun i r y hy hr => by
          obtain ⟨_, cs', q1, q2, q3⟩ := l2 i y hy
          obtain ⟨_, w2, w3⟩ := World.cells?_some q1
          have hlt : r < cs'.length := by omega
          refine ⟨cs'[r], by rw [← Deep.add_add, w3 r hr, List.getElem?_eq_getElem hlt], fun z hz => q3 r _ z (List.getElem?_eq_getElem hlt) hz⟩
        have first : ∃ c, W.cell? a = some c := by
          have hlt : 0 < l.length := by omega
          obtain ⟨c, q1, _⟩ := cell 0 0 l[0] (List.getElem?_eq_getElem hlt) h0
          exact ⟨c, by simpa [Addr.add] using q1⟩
        obtain ⟨ab, ao, asp⟩ := a
        obtain ⟨c0, hc0⟩ := first
        have hsp : asp = none := by
          cases asp with
          | none => rfl
          | some k => simp [World.cell?] at hc0; split at hc0 <;> cases hc0
        subst hsp
        have hlt : ab < W.heap.size := by
          simp only [World.cell?] at hc0
          cases hq : W.heap[ab]? with
          | none => rw [hq] at hc0; cases hc0
          | some o => exact (Array.getElem?_eq_some_iff.1 hq).1
        have hadd : ∀ j, (⟨ab, ao, none⟩ : Addr).add j = ⟨ab, ao + j, none⟩ := fun j => by
          unfold Addr.add; split
          · rename_i h; subst h; rfl
          · rfl
        have each : ∀ (j : Nat) (z : AV), (l.flatMap f)[j]? = some z → ∃ c, W.cell? ⟨ab, ao + j, none⟩ = some c ∧ VR (e0 W) W z c ∧ c.oneCell' = true := fun j z hj => by
          have hjl := (List.getElem?_eq_some_iff.1 hj).1
          rw [flat_len hf] at hjl
          have hi : j / n < l.length := Nat.div_lt_of_lt_mul (by rw [Nat.mul_comm]; exact hjl)
          have hr : j % n < n := Nat.mod_lt _ h0
          have hjr : j / n * n + j % n = j := by rw [Nat.mul_comm]; exact Nat.div_add_mod j n
          obtain ⟨c, q1, q2⟩ := cell (j / n) (j % n) l[j / n] (List.getElem?_eq_getElem hi) hr
          rw [hjr, hadd] at q1
          have := flat_get hf l (j / n) (j % n) hi hr
          rw [hjr, hj] at this
          exact ⟨c, q1, q2 z this.symm⟩
        rw [l1]
        have hI : (e0 W).I ab := hlt
        have hcp : ∀ k : Nat, (none : Option Nat) = some k → cap = k := fun k hk => (by cases hk)
        refine VR.vsl (e := e0 W) (b := ab) (s := ao) (c := cap) (cap := none) (fun j => (W.cell? ⟨ab, ao + j, none⟩).getD undef) hI (by omega) hcp (fun j z hj => ?_) (fun j z hj => ?_)
        · obtain ⟨c, q1, q2, q3⟩ := each j z hj
          rw [q1]; exact ⟨rfl, q3⟩
        · obtain ⟨c, q1, q2, q3⟩ := each j z hj
          rw [q1]; exact q2

end

section
variable {H : Type} {enc : TypeId × Value → H} {W : World} {base : Nat} {spare : Nat → Bool} {held : Bool}

theorem rd_str {fuel : Nat} {cs : List Value} {x : DataW H × List MemPlace} (h : DataW.trod enc Tryz.prog W base spare held fuel 9 cs = some x) {B : Nat} (hB : Rows.uptoBulk x.1 ≤ B) :
    ∃ s : ByteArray, s.size ≤ B ∧ Rd W cs [.str s] := by
  obtain ⟨s, rfl, rfl, _⟩ := DataW.trod_string Tryz.underlying9 h
  exact ⟨s, bulk_str hB, Rd.one (.str s) rfl⟩

theorem rd_bool {fuel : Nat} {cs : List Value} {x : DataW H × List MemPlace} (h : DataW.trod enc Tryz.prog W base spare held fuel 4 cs = some x) :
    ∃ b : Bool, Rd W cs [.bool b] := by
  obtain ⟨b, rfl, rfl⟩ := DataW.trod_bool Tryz.underlying4 h
  exact ⟨b, Rd.one (.bool b) rfl⟩

theorem rd_strs {fuel : Nat} {cs : List Value} {x : DataW H × List MemPlace} (h : DataW.trod enc Tryz.prog W base spare held fuel 158 cs = some x) {B : Nat} (hB : Rows.uptoBulk x.1 ≤ B) :
    ∃ l : List ByteArray, (∀ s ∈ l, s.size ≤ B) ∧ l.length ≤ B ∧ Rd W cs [encStrs l] := by
  obtain ⟨l, h1, h2, h3⟩ := rd_sliceB Tryz.underlying158 (n := 1) (by kernel_rfl) (by omega) (fun s : ByteArray => [AV.str s]) (fun _ => rfl) (fun s => s.size ≤ B) (fun fuel cs x h hb => rd_str h hb) h hB
  refine ⟨l, h1, h2, ?_⟩
  rw [flat_single] at h3
  exact h3

theorem rd_attr {fuel : Nat} {cs : List Value} {x : DataW H × List MemPlace} (h : DataW.trod enc Tryz.prog W base spare held fuel 160 cs = some x) (hB : Rows.uptoBulk x.1 ≤ 1048576) :
    ∃ a : AttrT, a.ok ∧ Rd W cs (attrC a) := by
  obtain ⟨xs, n, _, rfl, hl, hlen, hf⟩ := DataW.trod_struct Tryz.underlying160 h
  have c3 : Tryz.prog.cellsOf 3 = 1 := by kernel_rfl
  have c9 : Tryz.prog.cellsOf 9 = 1 := by kernel_rfl
  have c158 : Tryz.prog.cellsOf 158 = 1 := by kernel_rfl
  have c160 : Tryz.prog.cellsOf 160 = 4 := by kernel_rfl
  rw [c160] at hl
  obtain ⟨a, b, c, d, rfl⟩ := len4 hl
  obtain ⟨y0, y1, y2, y3, rfl⟩ := len4 (cs := xs) hlen
  have f0 : DataW.trod enc Tryz.prog W base spare held n 9 (([a, b, c, d].drop 0).take (Tryz.prog.cellsOf 9)) = some y0 := hf 0 _ rfl
  have f1 : DataW.trod enc Tryz.prog W base spare held n 3 (([a, b, c, d].drop 1).take (Tryz.prog.cellsOf 3)) = some y1 := hf 1 _ rfl
  have f2 : DataW.trod enc Tryz.prog W base spare held n 3 (([a, b, c, d].drop 2).take (Tryz.prog.cellsOf 3)) = some y2 := hf 2 _ rfl
  have f3 : DataW.trod enc Tryz.prog W base spare held n 158 (([a, b, c, d].drop 3).take (Tryz.prog.cellsOf 158)) = some y3 := hf 3 _ rfl
  rw [c9] at f0
  rw [c3] at f1 f2
  rw [c158] at f3
  obtain ⟨s, s1, r0⟩ := rd_str f0 (bulk_agg hB (by simp))
  obtain ⟨x1, w1, _, r1⟩ := rd_int (x := y1) Tryz.underlying3 f1
  obtain ⟨x2, w2, _, r2⟩ := rd_int (x := y2) Tryz.underlying3 f2
  obtain ⟨l, l1, l2, r3⟩ := rd_strs f3 (bulk_agg hB (by simp))
  exact ⟨⟨s, x1, x2, l⟩, ⟨s1, l2, l1, i64_wf w1, i64_wf w2⟩, Rd.app (cs := [a]) r0 (Rd.app (cs := [b]) r1 (Rd.app (cs := [c]) r2 r3))⟩

theorem rd_attrs {fuel : Nat} {cs : List Value} {x : DataW H × List MemPlace} (h : DataW.trod enc Tryz.prog W base spare held fuel 155 cs = some x) (hB : Rows.uptoBulk x.1 ≤ 1048576) :
    ∃ l : List AttrT, (∀ a ∈ l, a.ok) ∧ l.length ≤ 1048576 ∧ Rd W cs [encAttrs l] :=
  rd_sliceB Tryz.underlying155 (n := 4) (by kernel_rfl) (by omega) attrC attrC_len AttrT.ok (fun fuel cs x h hb => rd_attr h hb) h hB

theorem rd_node {fuel : Nat} {cs : List Value} {x : DataW H × List MemPlace} (h : DataW.trod enc Tryz.prog W base spare held fuel 157 cs = some x) (hB : Rows.uptoBulk x.1 ≤ 1048576) :
    ∃ a : NodeT, a.ok ∧ Rd W cs (nodeTC a) := by
  obtain ⟨xs, n, _, rfl, hl, hlen, hf⟩ := DataW.trod_struct Tryz.underlying157 h
  have c3 : Tryz.prog.cellsOf 3 = 1 := by kernel_rfl
  have c4 : Tryz.prog.cellsOf 4 = 1 := by kernel_rfl
  have c9 : Tryz.prog.cellsOf 9 = 1 := by kernel_rfl
  have c155 : Tryz.prog.cellsOf 155 = 1 := by kernel_rfl
  have c157 : Tryz.prog.cellsOf 157 = 4 := by kernel_rfl
  rw [c157] at hl
  obtain ⟨a, b, c, d, rfl⟩ := len4 hl
  obtain ⟨y0, y1, y2, y3, rfl⟩ := len4 (cs := xs) hlen
  have f0 : DataW.trod enc Tryz.prog W base spare held n 9 (([a, b, c, d].drop 0).take (Tryz.prog.cellsOf 9)) = some y0 := hf 0 _ rfl
  have f1 : DataW.trod enc Tryz.prog W base spare held n 3 (([a, b, c, d].drop 1).take (Tryz.prog.cellsOf 3)) = some y1 := hf 1 _ rfl
  have f2 : DataW.trod enc Tryz.prog W base spare held n 4 (([a, b, c, d].drop 2).take (Tryz.prog.cellsOf 4)) = some y2 := hf 2 _ rfl
  have f3 : DataW.trod enc Tryz.prog W base spare held n 155 (([a, b, c, d].drop 3).take (Tryz.prog.cellsOf 155)) = some y3 := hf 3 _ rfl
  rw [c9] at f0
  rw [c3] at f1
  rw [c4] at f2
  rw [c155] at f3
  obtain ⟨s, s1, r0⟩ := rd_str f0 (bulk_agg hB (by simp))
  obtain ⟨x1, w1, _, r1⟩ := rd_int (x := y1) Tryz.underlying3 f1
  obtain ⟨x2, r2⟩ := rd_bool f2
  obtain ⟨l, l1, l2, r3⟩ := rd_attrs f3 (bulk_agg hB (by simp))
  exact ⟨⟨s, x1, x2, l⟩, ⟨s1, l2, l1, i64_wf w1⟩, Rd.app (cs := [a]) r0 (Rd.app (cs := [b]) r1 (Rd.app (cs := [c]) r2 r3))⟩

theorem rd_nodes {fuel : Nat} {cs : List Value} {x : DataW H × List MemPlace} (h : DataW.trod enc Tryz.prog W base spare held fuel 22 cs = some x) (hB : Rows.uptoBulk x.1 ≤ 1048576) :
    ∃ l : List NodeT, (∀ a ∈ l, a.ok) ∧ l.length ≤ 1048576 ∧ Rd W cs [encNodes l] :=
  rd_sliceB Tryz.underlying22 (n := 4) (by kernel_rfl) (by omega) nodeTC nodeTC_len NodeT.ok (fun fuel cs x h hb => rd_node h hb) h hB

theorem rd_etype {fuel : Nat} {cs : List Value} {x : DataW H × List MemPlace} (h : DataW.trod enc Tryz.prog W base spare held fuel 81 cs = some x) (hB : Rows.uptoBulk x.1 ≤ 1048576) :
    ∃ a : EdgeT, a.ok ∧ Rd W cs (edgeTC a) := by
  obtain ⟨xs, n, _, rfl, hl, hlen, hf⟩ := DataW.trod_struct Tryz.underlying81 h
  have c3 : Tryz.prog.cellsOf 3 = 1 := by kernel_rfl
  have c9 : Tryz.prog.cellsOf 9 = 1 := by kernel_rfl
  have c81 : Tryz.prog.cellsOf 81 = 7 := by kernel_rfl
  rw [c81] at hl
  obtain ⟨a, b, c, d, e, f, g, rfl⟩ := len7 hl
  obtain ⟨y0, y1, y2, y3, y4, y5, y6, rfl⟩ := len7 (cs := xs) hlen
  have f0 : DataW.trod enc Tryz.prog W base spare held n 9 (([a, b, c, d, e, f, g].drop 0).take (Tryz.prog.cellsOf 9)) = some y0 := hf 0 _ rfl
  have f1 : DataW.trod enc Tryz.prog W base spare held n 3 (([a, b, c, d, e, f, g].drop 1).take (Tryz.prog.cellsOf 3)) = some y1 := hf 1 _ rfl
  have f2 : DataW.trod enc Tryz.prog W base spare held n 3 (([a, b, c, d, e, f, g].drop 2).take (Tryz.prog.cellsOf 3)) = some y2 := hf 2 _ rfl
  have f3 : DataW.trod enc Tryz.prog W base spare held n 3 (([a, b, c, d, e, f, g].drop 3).take (Tryz.prog.cellsOf 3)) = some y3 := hf 3 _ rfl
  have f4 : DataW.trod enc Tryz.prog W base spare held n 3 (([a, b, c, d, e, f, g].drop 4).take (Tryz.prog.cellsOf 3)) = some y4 := hf 4 _ rfl
  have f5 : DataW.trod enc Tryz.prog W base spare held n 3 (([a, b, c, d, e, f, g].drop 5).take (Tryz.prog.cellsOf 3)) = some y5 := hf 5 _ rfl
  have f6 : DataW.trod enc Tryz.prog W base spare held n 3 (([a, b, c, d, e, f, g].drop 6).take (Tryz.prog.cellsOf 3)) = some y6 := hf 6 _ rfl
  rw [c9] at f0
  rw [c3] at f1 f2 f3 f4 f5 f6
  obtain ⟨s, s1, r0⟩ := rd_str f0 (bulk_agg hB (by simp))
  obtain ⟨x1, w1, _, r1⟩ := rd_int (x := y1) Tryz.underlying3 f1
  obtain ⟨x2, w2, _, r2⟩ := rd_int (x := y2) Tryz.underlying3 f2
  obtain ⟨x3, w3, _, r3⟩ := rd_int (x := y3) Tryz.underlying3 f3
  obtain ⟨x4, w4, _, r4⟩ := rd_int (x := y4) Tryz.underlying3 f4
  obtain ⟨x5, w5, _, r5⟩ := rd_int (x := y5) Tryz.underlying3 f5
  obtain ⟨x6, w6, _, r6⟩ := rd_int (x := y6) Tryz.underlying3 f6
  exact ⟨⟨s, x1, x2, x3, x4, x5, x6⟩, ⟨s1, i64_wf w1, i64_wf w2, i64_wf w3, i64_wf w4, i64_wf w5, i64_wf w6⟩, Rd.app (cs := [a]) r0 (Rd.app (cs := [b]) r1 (Rd.app (cs := [c]) r2 (Rd.app (cs := [d]) r3 (Rd.app (cs := [e]) r4 (Rd.app (cs := [f]) r5 r6)))))⟩

theorem rd_etypes {fuel : Nat} {cs : List Value} {x : DataW H × List MemPlace} (h : DataW.trod enc Tryz.prog W base spare held fuel 23 cs = some x) (hB : Rows.uptoBulk x.1 ≤ 1048576) :
    ∃ l : List EdgeT, (∀ a ∈ l, a.ok) ∧ l.length ≤ 1048576 ∧ Rd W cs [encETypes l] :=
  rd_sliceB Tryz.underlying23 (n := 7) (by kernel_rfl) (by omega) edgeTC edgeTC_len EdgeT.ok (fun fuel cs x h hb => rd_etype h hb) h hB

theorem rd_types {fuel : Nat} {cs : List Value} {x : DataW H × List MemPlace} (h : DataW.trod enc Tryz.prog W base spare held fuel 25 cs = some x) (hB : Rows.uptoBulk x.1 ≤ 1048576) :
    ∃ t : TypesT, t.ok ∧ Rd W cs (typesC t) := by
  obtain ⟨xs, n, _, rfl, hl, hlen, hf⟩ := DataW.trod_struct Tryz.underlying25 h
  have c22 : Tryz.prog.cellsOf 22 = 1 := by kernel_rfl
  have c23 : Tryz.prog.cellsOf 23 = 1 := by kernel_rfl
  have c25 : Tryz.prog.cellsOf 25 = 2 := by kernel_rfl
  rw [c25] at hl
  obtain ⟨a, b, rfl⟩ := len2 hl
  obtain ⟨y0, y1, rfl⟩ := len2 (cs := xs) hlen
  have f0 : DataW.trod enc Tryz.prog W base spare held n 22 (([a, b].drop 0).take (Tryz.prog.cellsOf 22)) = some y0 := hf 0 _ rfl
  have f1 : DataW.trod enc Tryz.prog W base spare held n 23 (([a, b].drop 1).take (Tryz.prog.cellsOf 23)) = some y1 := hf 1 _ rfl
  rw [c22] at f0
  rw [c23] at f1
  obtain ⟨l, l1, l2, r0⟩ := rd_nodes f0 (bulk_agg hB (by simp))
  obtain ⟨m, m1, m2, r1⟩ := rd_etypes f1 (bulk_agg hB (by simp))
  exact ⟨⟨l, m⟩, ⟨l2, m2, l1, m1⟩, Rd.app (cs := [a]) r0 r1⟩
end

set_option maxRecDepth 100000 in
theorem open_types {H : Type} {enc : TypeId × Value → H} {W : World} {base b0 : Nat} {spare : Nat → Bool} {held : Bool} {v : Value} {d : DataW H} {p : List MemPlace} (hv : Value.okWide Tryz.prog W .any b0 25 v) (h : DataW.Trod enc Tryz.prog W base spare held 25 v d p) (hB : Rows.uptoBulk d ≤ 1048576) :
    ∃ t : TypesT, t.ok ∧ VR (e0 W) W (.agg (typesC t)) v := by
  obtain ⟨cs, rfl, _⟩ := okWide_struct Tryz.underlying25 hv
  obtain ⟨fuel, hf⟩ := h
  obtain ⟨t, h1, h2⟩ := rd_types hf hB
  exact ⟨t, h1, Rd.agg (by simpa [Value.cells] using h2)⟩
end Go.Av
