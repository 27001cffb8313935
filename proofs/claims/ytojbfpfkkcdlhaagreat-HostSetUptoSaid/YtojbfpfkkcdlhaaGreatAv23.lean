/- Calls with own blocks lent, and calls that make a block. -/
import Derived.Test.YtojbfpfkkcdlhaaGreatAv22
namespace Go.Av
set_option linter.unusedVariables false
set_option linter.unusedSimpArgs false

theorem hget_lookF (pre : Heap) (n : Nat) : lookF pre n = hget pre n := by
  induction pre with
  | nil => rfl
  | cons p l ih => obtain ⟨a, b⟩ := p; simp only [lookF, hget, ih]

theorem hset_self : ∀ {H : Heap} {n : Nat} {c : Blk}, hget H n = some c → hset H n c = H
  | [], n, c, h => by cases h
  | (m, d) :: H, n, c, h => by
    simp only [hget] at h
    simp only [hset]
    by_cases e : n = m
    · subst e
      simp only [if_true, Option.some.injEq] at h
      subst h; simp
    · simp only [e, if_false] at h
      have e' : ¬ m = n := fun x => e x.symm
      simp [e, e', hset_self h]

theorem hups_self : ∀ {l : List (Nat × Option Blk)} {H : Heap}, (∀ p ∈ l, ∃ c, p.2 = some c ∧ hget H p.1 = some c) → hups H l = H
  | [], H, _ => rfl
  | (n, b) :: l, H, h => by
    obtain ⟨c, hc, hh⟩ := h (n, b) (by simp)
    simp only at hc hh; subst hc
    simp only [hups]
    rw [hset_self hh]
    exact hups_self fun p hp => h p (by simp [hp])

/-- A call that reads own blocks: they are lent by value. -/
theorem call_lend {P : Program} {fid : Nat} {caps args args' : List AV} {H : Heap} {nx : Nat} {r : AV} {Kk : List Nat → List Nat → AV → Heap → Nat → Prop} (pre : Heap)
    (hs : Spec P nx 0 fid args' [] r []) (hz : toL (fun _ => none) (lookF pre) (args ++ caps) args') (hr : r.flat = true) (hn : nmL (· < nx) (args ++ caps))
    (hpre : ∀ p ∈ pre, hget H p.1 = some p.2 ∧ p.1 < nx ∧ nmL (fun _ => False) p.2 ∧ hget pre p.1 = some p.2)
    (hk : Kk (pre.map (·.1)) ((pre ++ pre).map (·.1)) r H nx) : callC P (.fn fid caps) args H nx Kk := by
  have hfz : FzOK (hget pre) (fun _ => none) (lookF pre) := fun n cs h => by
    rw [hget_lookF] at h
    refine ⟨rfl, cs, h, rfl, fun j a b ha hb => ?_⟩
    rw [ha] at hb; cases hb
    exact .refl a (nmL_get (hpre _ (hget_mem h)).2.2.1 ha)
  have hz' : FrzAll pre (args ++ caps) args' := by
    have := toL_sub hfz hz
    simp only [hget_lookF] at this
    have e : (fun n => (hget pre n).isSome = true) = fun n => hget pre n ≠ none := by
      funext n; cases hget pre n <;> simp
    rw [e] at this
    exact this
  have hH : hups H (callUps pre pre) = H := hups_self fun p hp => by
    simp only [callUps, List.mem_map, List.mem_append, or_self] at hp
    obtain ⟨q, hq, rfl⟩ := hp
    exact ⟨q.2, (hpre q hq).2.2.2, (hpre q hq).1⟩
  exact ⟨fid, caps, 0, pre, pre, r, rfl, hs.lend hz' (fun p hp => (hpre p hp).2.1) hr, hn, fun p hp => ⟨(hpre p hp).1, (hpre p hp).2.1, nmL_iff.2 fun a ha => nm_mono (fun _ h => h.elim) (nmL_iff.1 (hpre p hp).2.2.1 a ha)⟩,
    fun p hp _ => List.mem_map_of_mem hp, by rw [hH]; exact hk⟩

/-- A call that makes one block. -/
theorem call_own {P : Program} {fid : Nat} {caps args : List AV} {H : Heap} {nx : Nat} {r : AV} {cells : List AV} {Kk : List Nat → List Nat → AV → Heap → Nat → Prop}
    (hs : Spec P nx 1 fid (args ++ caps) [] r [(nx, cells)]) (hn : nmL (fun _ => False) (args ++ caps)) (hk : Kk [] [nx] r (hset H nx cells) (nx + 1)) : callC P (.fn fid caps) args H nx Kk :=
  ⟨fid, caps, 1, [], [(nx, cells)], r, rfl, hs, by
    rw [nmL_iff] at hn ⊢
    intro a ha
    exact nm_mono (fun _ h => h.elim) (hn a ha), by simp, fun p hp h => by
      simp only [List.mem_singleton] at hp; subst hp; exact absurd h (Nat.lt_irrefl _), by simpa [callUps, hups, hget] using hk⟩

/-- A call that changes one own block in place. -/
theorem call_upd {P : Program} {fid : Nat} {caps args : List AV} {H : Heap} {nx n : Nat} {r : AV} {c c' : List AV} {Kk : List Nat → List Nat → AV → Heap → Nat → Prop}
    (hs : Spec P nx 0 fid (args ++ caps) [(n, c)] r [(n, c')]) (hn : nmL (· < nx) (args ++ caps)) (hH : hget H n = some c) (hlt : n < nx) (hc : nmL (· < nx) c) (hk : Kk [n] [n, n] r (hset H n c') nx) :
    callC P (.fn fid caps) args H nx Kk :=
  ⟨fid, caps, 0, [(n, c)], [(n, c')], r, rfl, hs, hn, fun p hp => by simp only [List.mem_singleton] at hp; subst hp; exact ⟨hH, hlt, hc⟩, fun p hp _ => by
      simp only [List.mem_singleton] at hp; subst hp; simp, by
    have h1 : hset (hset H n c') n c' = hset H n c' := hset_self (by rw [hget_hset]; simp)
    simpa [callUps, hups, hget, h1] using hk⟩

/-- A contract from what the kit says of a call. -/
theorem spec_calls {P : Program} {R : Nat} {f : FuncId} {args : List AV} {r : AV} (henter : ∀ vs w, (callFunc f vs).run P w = .ok (.enter f vs) w)
    (h : ∀ (e : Env) (w : World) (vs : Array Value), vs.size = args.length → (∀ (j : Nat) (a : AV) (v : Value), args[j]? = some a → vs[j]? = some v → VR e w a v) →
      ∃ v, (∀ e w, VR e w r v) ∧ Calls P f vs w fun en w' => en = .returned v ∧ w' = w) : Spec P R 0 f args [] r [] := by
  refine ⟨henter, by simp, fun e w vs hl hv H hβ => ?_⟩
  obtain ⟨v, h1, h2⟩ := h e w vs hl hv
  refine h2.mono ?_
  rintro en w' ⟨rfl, rfl⟩
  exact ⟨v, e, rfl, h1 _ _, H, Step.refl _ _ _ _, fun n hn _ => hβ n hn⟩
end Go.Av
