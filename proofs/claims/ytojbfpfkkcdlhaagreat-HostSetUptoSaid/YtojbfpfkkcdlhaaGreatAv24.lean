/- Freezing blocks that hold names of frozen blocks; calls that make two blocks. -/
import Derived.Test.YtojbfpfkkcdlhaaGreatAv23
namespace Go.Av
set_option linter.unusedVariables false
set_option linter.unusedSimpArgs false

theorem Sub.mono {h : HF} {σ : Nat → Option Nat} {F F' : Nat → Prop} (hF : ∀ n, F n → F' n) {a b : AV} (s : Sub h σ F a b) : Sub h σ F' a b := by
  induction s with
  | any a => exact .any a
  | refl a ha => exact .refl a ha
  | ptr hs => exact .ptr hs
  | ptrf hf hn hl _ ih => exact .ptrf (hF _ hf) hn hl ih
  | osl hs hc => exact .osl hs hc
  | oslf hf hn hle hl hc _ ih => exact .oslf (hF _ hf) hn hle hl hc ih
  | nilo => exact .nilo
  | nilv hc => exact .nilv hc
  | vsl hl hc _ ih => exact .vsl hl hc ih
  | iptr hl _ ih => exact .iptr hl ih
  | agg hl _ ih => exact .agg hl ih
  | tup hl _ ih => exact .tup hl ih
  | fn hl _ ih => exact .fn hl ih

theorem lookF_app (l m : List (Nat × List AV)) (n : Nat) : lookF (l ++ m) n = (lookF l n).or (lookF m n) := by
  induction l with
  | nil => simp [lookF]
  | cons p l ih =>
    obtain ⟨a, b⟩ := p
    simp only [List.cons_append, lookF]
    split
    · rfl
    · exact ih

/-- Frozen blocks, some of which hold others. -/
def FzN (H : Heap) (ns : List (Nat × Nat)) (f1 f2 : List (Nat × List AV)) : Prop :=
  FzL H ns f1 ∧ ∀ p ∈ f2, look ns p.1 = none ∧ ∃ cs0, hget H p.1 = some cs0 ∧ toL (look ns) (lookF f1) cs0 p.2

theorem fzN_ok {H : Heap} {ns : List (Nat × Nat)} {f1 f2 : List (Nat × List AV)} (h : FzN H ns f1 f2) : FzOK (hget H) (look ns) (lookF (f1 ++ f2)) := fun n cs hn => by
  have h1 := fzL_ok h.1
  have mono : ∀ m, (lookF f1 m).isSome = true → (lookF (f1 ++ f2) m).isSome = true := fun m hm => by
    rw [lookF_app]; cases hh : lookF f1 m with
    | none => rw [hh] at hm; cases hm
    | some x => rfl
  rw [lookF_app] at hn
  cases hh : lookF f1 n with
  | some x =>
    rw [hh] at hn; cases hn
    obtain ⟨q1, cs0, q2, q3, q4⟩ := h1 n cs hh
    exact ⟨q1, cs0, q2, q3, fun j a b ha hb => (q4 j a b ha hb).mono mono⟩
  | none =>
    rw [hh, Option.none_or] at hn
    obtain ⟨q1, cs0, q2, q3⟩ := h.2 (n, cs) (lookF_mem hn)
    have hs := SubL.spec (toL_sub h1 q3)
    exact ⟨q1, cs0, q2, hs.1, fun j a b ha hb => (hs.2 j a b ha hb).mono mono⟩

/-- Results with frozen blocks that hold others. -/
theorem ret_nest {P : Program} {R : Nat} {rv : Array ResultVar} {s : St} {v r : AV} (hv : resA P rv s = some v) (f1 f2 : List (Nat × List AV)) (hf : FzN s.hp [] f1 f2) (hr : toA (look []) (lookF (f1 ++ f2)) v r) : RetOK P R rv s r [] := by
  have hF := fzN_ok hf
  refine ⟨v, hv, vs_sub (look []) (fun n => (lookF (f1 ++ f2) n).isSome) (fun n m h => by cases h) (fun n n' m h h' => by cases h) (fun n h => rfl) (fun _ => toA_sub hF hr) (fun m b' hb => by cases hb)⟩

/-- A call that makes two blocks. -/
theorem call_own2 {P : Program} {fid : Nat} {caps args : List AV} {H : Heap} {nx : Nat} {r : AV} {c1 c2 : List AV} {Kk : List Nat → List Nat → AV → Heap → Nat → Prop}
    (hs : Spec P nx 2 fid (args ++ caps) [] r [(nx, c1), (nx + 1, c2)]) (hn : nmL (fun _ => False) (args ++ caps)) (hk : Kk [] [nx, nx + 1] r (hset (hset H nx c1) (nx + 1) c2) (nx + 2)) : callC P (.fn fid caps) args H nx Kk :=
  ⟨fid, caps, 2, [], [(nx, c1), (nx + 1, c2)], r, rfl, hs, by
    rw [nmL_iff] at hn ⊢
    intro a ha
    exact nm_mono (fun _ h => h.elim) (hn a ha), by simp, fun p hp h => by
      simp only [List.mem_cons, List.mem_singleton, List.not_mem_nil, or_false] at hp
      rcases hp with rfl | rfl
      · exact absurd h (Nat.lt_irrefl _)
      · simp only at h; omega, by simpa [callUps, hups, hget] using hk⟩
end Go.Av
