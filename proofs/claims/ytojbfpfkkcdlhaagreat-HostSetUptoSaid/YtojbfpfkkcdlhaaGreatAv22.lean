/- From what an argument reads as to its abstract value, and from the step to the statement's frame. -/
import Derived.Test.YtojbfpfkkcdlhaaGreatAv21
import Derived.OpenShut
import Derived.ProofKit
import Derived.Deep.Slices
import Derived.WideKeyArgs
import Derived.Carry
import Derived.JoinedCond
namespace Go.Av
set_option linter.unusedVariables false
set_option linter.unusedSimpArgs false
open Go.ChangeShapes Go.WideShapes

/-- The state of names at the call: nothing is owned, all that is there is looked at. -/
def e0 (W : World) : Env := { β := fun _ => none, I := fun b => b < W.heap.size }

theorem hr0 (W : World) : HR (e0 W) W (hget []) := ⟨fun n cs h => (by cases h), fun n m b s t h => absurd rfl h, fun b h => h⟩

def Rd (W : World) (cs : List Value) (as : List AV) : Prop := cs.length = as.length ∧ ∀ (j : Nat) (c : Value) (a : AV), cs[j]? = some c → as[j]? = some a → VR (e0 W) W a c ∧ c.oneCell' = true

theorem Rd.one {W : World} {c : Value} {a : AV} (h : VR (e0 W) W a c) (h1 : c.oneCell' = true) : Rd W [c] [a] := ⟨rfl, fun j x y hx hy => by
  cases j with
  | zero => simp at hx hy; subst hx hy; exact ⟨h, h1⟩
  | succ j => simp at hx⟩

theorem Rd.app {W : World} {cs ds : List Value} {as bs : List AV} (h : Rd W cs as) (k : Rd W ds bs) : Rd W (cs ++ ds) (as ++ bs) := by
  obtain ⟨h1, h2⟩ := h
  obtain ⟨k1, k2⟩ := k
  refine ⟨by simp [h1, k1], fun j c a hc ha => ?_⟩
  by_cases hj : j < cs.length
  · rw [List.getElem?_append_left hj] at hc
    rw [List.getElem?_append_left (by omega)] at ha
    exact h2 j c a hc ha
  · rw [List.getElem?_append_right (by omega)] at hc ha
    rw [h1] at hc
    exact k2 _ c a hc ha

theorem Rd.agg {W : World} {cs : Array Value} {as : List AV} (h : Rd W cs.toList as) : VR (e0 W) W (.agg as) (.agg cs) := by
  obtain ⟨h1, h2⟩ := h
  refine .agg (by simpa using h1) (fun j v hj => ?_) (fun j a v ha hv => (h2 j v a (by simpa using hv) ha).1)
  have hlt := (Array.getElem?_eq_some_iff.1 hj).1
  have : j < as.length := by rw [← h1]; simpa using hlt
  exact (h2 j v as[j] (by simpa using hj) (List.getElem?_eq_getElem this)).2

/-- Chosen one by one. -/
theorem list_of {A : Type} {Q : Nat → A → Prop} : ∀ n, (∀ i, i < n → ∃ a, Q i a) → ∃ l : List A, l.length = n ∧ ∀ (i : Nat) (a : A), l[i]? = some a → Q i a
  | 0, _ => ⟨[], rfl, by simp⟩
  | n + 1, h => by
    obtain ⟨l, h1, h2⟩ := list_of n (fun i hi => h i (by omega))
    obtain ⟨a, ha⟩ := h n (by omega)
    refine ⟨l ++ [a], by simp [h1], fun i x hx => ?_⟩
    by_cases hi : i < l.length
    · rw [List.getElem?_append_left hi] at hx; exact h2 i x hx
    · rw [List.getElem?_append_right (by omega)] at hx
      cases hk : i - l.length with
      | zero => rw [hk] at hx; simp at hx; subst hx; rw [show i = n by omega]; exact ha
      | succ k => rw [hk] at hx; simp at hx

section
variable {H : Type} {enc : TypeId × Value → H} {P : Program} {W : World} {base : Nat} {spare : Nat → Bool} {held : Bool}

theorem rd_slice {t el : TypeId} (ht : P.underlying t = some (.slice el)) {n : Nat} (hn : P.cellsOf el = n) (h0 : 0 < n) {A : Type} (f : A → List AV) (hf : ∀ a, (f a).length = n) (good : A → Prop)
    (hel : ∀ (fuel : Nat) (cs : List Value) (x : DataW H × List MemPlace), DataW.trod enc P W base spare held fuel el cs = some x → ∃ a, good a ∧ Rd W cs (f a))
    {fuel : Nat} {cs : List Value} {x : DataW H × List MemPlace} (h : DataW.trod enc P W base spare held fuel t cs = some x) :
    ∃ l : List A, (∀ a ∈ l, good a) ∧ l.length ≤ maxLen ∧ Rd W cs [.vsl (l.flatMap f) l.length none] := by
  rcases Deep.open_slice ht h with ⟨rfl, rfl⟩ | ⟨a, len, cap, m, fu, D, Pl, rfl, hb, hl, hm, hmm, rfl, hx⟩
  · exact ⟨[], by simp, by simp, Rd.one (.vslz none (by intro _ h; cases h)) rfl⟩
  · rw [hn] at hx
    have hlm : len ≤ m := by rw [hmm]; split <;> omega
    obtain ⟨l, l1, l2⟩ := list_of (Q := fun i (y : A) => good y ∧ ∃ cs', W.cells? base (a.add (i * n)) n = some cs' ∧ Rd W cs' (f y)) len (fun i hi => by
      obtain ⟨cs', q1, q2⟩ := hx i (by omega)
      obtain ⟨y, q3, q4⟩ := hel _ _ _ q2
      exact ⟨y, q3, cs', q1, q4⟩)
    refine ⟨l, fun y hy => ?_, by omega, Rd.one ?_ rfl⟩
    · obtain ⟨i, hi⟩ := List.getElem?_of_mem hy
      exact (l2 i y hi).1
    · cases len with
      | zero =>
        have : l = [] := List.eq_nil_of_length_eq_zero l1
        subst this
        exact .vslz (some a) (by intro _ h; cases h)
      | succ len =>
        have cell : ∀ (i r : Nat) (y : A), l[i]? = some y → r < n → ∃ c, W.cell? (a.add (i * n + r)) = some c ∧ ∀ z, (f y)[r]? = some z → VR (e0 W) W z c ∧ c.oneCell' = true := fun i r y hy hr => by
          obtain ⟨_, cs', q1, q2, q3⟩ := l2 i y hy
          obtain ⟨_, w2, w3⟩ := World.cells?_some q1
          have hlt : r < cs'.length := by omega
          refine ⟨cs'[r], by rw [← Deep.add_add, w3 r hr, List.getElem?_eq_getElem hlt], fun z hz => q3 r _ z (List.getElem?_eq_getElem hlt) hz⟩
        have first : ∃ c, W.cell? a = some c := by
          have hlt : 0 < l.length := by omega
          obtain ⟨c, q1, _⟩ := cell 0 0 l[0] (List.getElem?_eq_getElem hlt) h0
          exact ⟨c, by simpa [Addr.add] using q1⟩
        obtain ⟨ab, ao, asp⟩ := a
        obtain ⟨c0, hc0⟩ := first
        have hsp : asp = none := by
          cases asp with
          | none => rfl
          | some k => simp [World.cell?] at hc0; split at hc0 <;> cases hc0
        subst hsp
        have hlt : ab < W.heap.size := by
          simp only [World.cell?] at hc0
          cases hq : W.heap[ab]? with
          | none => rw [hq] at hc0; cases hc0
          | some o => exact (Array.getElem?_eq_some_iff.1 hq).1
        have hadd : ∀ j, (⟨ab, ao, none⟩ : Addr).add j = ⟨ab, ao + j, none⟩ := fun j => by
          unfold Addr.add; split
          · rename_i h; subst h; rfl
          · rfl
        have each : ∀ (j : Nat) (z : AV), (l.flatMap f)[j]? = some z → ∃ c, W.cell? ⟨ab, ao + j, none⟩ = some c ∧ VR (e0 W) W z c ∧ c.oneCell' = true := fun j z hj => by
          have hjl := (List.getElem?_eq_some_iff.1 hj).1
          rw [flat_len hf] at hjl
          have hi : j / n < l.length := Nat.div_lt_of_lt_mul (by rw [Nat.mul_comm]; exact hjl)
          have hr : j % n < n := Nat.mod_lt _ h0
          have hjr : j / n * n + j % n = j := by rw [Nat.mul_comm]; exact Nat.div_add_mod j n
          obtain ⟨c, q1, q2⟩ := cell (j / n) (j % n) l[j / n] (List.getElem?_eq_getElem hi) hr
          rw [hjr, hadd] at q1
          have := flat_get hf l (j / n) (j % n) hi hr
          rw [hjr, hj] at this
          exact ⟨c, q1, q2 z this.symm⟩
        rw [l1]
        have hI : (e0 W).I ab := hlt
        have hcp : ∀ k : Nat, (none : Option Nat) = some k → cap = k := fun k hk => (by cases hk)
        refine VR.vsl (e := e0 W) (b := ab) (s := ao) (c := cap) (cap := none) (fun j => (W.cell? ⟨ab, ao + j, none⟩).getD undef) hI (by omega) hcp (fun j z hj => ?_) (fun j z hj => ?_)
        · obtain ⟨c, q1, q2, q3⟩ := each j z hj
          rw [q1]; exact ⟨rfl, q3⟩
        · obtain ⟨c, q1, q2, q3⟩ := each j z hj
          rw [q1]; exact q2

theorem rd_int {t : TypeId} {k : IntKind} (ht : P.underlying t = some (.int k)) {fuel : Nat} {cs : List Value} {x : DataW H × List MemPlace} (h : DataW.trod enc P W base spare held fuel t cs = some x) :
    ∃ n, (Lit.int k n).wf = true ∧ cs = [.int k n] ∧ Rd W cs [.int k n] := by
  obtain ⟨n, rfl, _, hw⟩ := DataW.trod_int ht h
  exact ⟨n, hw, rfl, Rd.one (.int k n) rfl⟩

theorem i64_wf {n : Int} (h : (Lit.int .i64 n).wf = true) : I64 n := by
  simpa [Lit.wf, IntKind.min, IntKind.max, IntKind.signed, IntKind.bits, I64] using h
end

/-- What a contract of flat result says of a call from outside. -/
theorem call_of_spec {P : Program} {made : Nat} {f : FuncId} {args : List AV} {r : AV} (h : Spec P 0 made f args [] r []) {W : World} {vs : Array Value} (hl : vs.size = args.length)
    (hv : ∀ (j : Nat) (a : AV) (v : Value), args[j]? = some a → vs[j]? = some v → VR (e0 W) W a v) :
    Calls P f vs W fun en w' => ∃ v e', en = .returned v ∧ VR e' w' r v ∧ Go.RowKit.Grown W w' ∧ ∀ b, b < W.heap.size → w'.heap[b]? = W.heap[b]? := by
  refine Calls.mono (h.2.2 (e0 W) W vs hl hv (hr0 W) (fun _ _ => rfl)) ?_
  rintro en w' ⟨v, e', he, q1, q2, q3, q4⟩
  have keep : ∀ b, b < W.heap.size → w'.heap[b]? = W.heap[b]? := fun b hb => q3.keep b hb (fun ⟨n, s, hn, _⟩ => hn rfl)
  refine ⟨v, e', he, q1, ⟨⟨q3.still.os, q3.still.output, fun i hi => ?_⟩, q3.still.frozen, q3.size⟩, keep⟩
  rw [keep i hi]
  cases W.heap[i]? with
  | none => rfl
  | some o => cases o <;> simp

theorem sameAt_of {W w' : World} (h : ∀ b, b < W.heap.size → w'.heap[b]? = W.heap[b]?) (p : MemPlace) (hp : p.block < W.heap.size) : W.sameAt w' p := by
  cases p with
  | cell b o => exact cell_congr (h b hp)
  | map b => exact h b hp
end Go.Av
