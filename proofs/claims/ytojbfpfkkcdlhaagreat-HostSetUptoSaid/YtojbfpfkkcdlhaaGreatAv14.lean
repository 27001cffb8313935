/- How a contract is proved from a function's code. -/
import Derived.Test.YtojbfpfkkcdlhaaGreatAv13
namespace Go.Av
set_option linter.unusedVariables false
set_option linter.unusedSimpArgs false

def argRegs : Nat → List AV → List (Nat × AV)
  | _, [] => []
  | i, a :: l => (i, a) :: argRegs (i + 1) l

theorem rget_argRegs (as : List AV) : ∀ (i t : Nat), rget (argRegs i as) t = if i ≤ t then (as[t - i]?).getD .any else .any := by
  induction as with
  | nil => intro i t; simp [argRegs, rget]
  | cons a l ih =>
    intro i t
    simp only [argRegs, rget, ih]
    by_cases h : t = i
    · subst h; simp
    · by_cases h2 : i ≤ t
      · rw [if_neg h, if_pos (by omega), if_pos h2, show t - i = (t - (i + 1)) + 1 by omega, List.getElem?_cons_succ]
      · rw [if_neg h, if_neg (by omega), if_neg h2]

def resOne (P : Program) (s : St) : ResultVar → Option AV
  | .tmp t => some (rget s.rs t)
  | .cell a t => (opLoad P (hget s.hp) t (rget s.rs a)).map (·.v)

def resA (P : Program) (rv : Array ResultVar) (s : St) : Option AV :=
  match rv.toList.mapM (resOne P s) with
  | some [v] => some v
  | some vs => some (.tup vs)
  | none => none

/-- The results, and the blocks that are handed over. -/
def RetOK (P : Program) (R : Nat) (rv : Array ResultVar) (s : St) (r : AV) (post : Heap) : Prop :=
  ∃ v, resA P rv s = some v ∧ VS R (fun _ => v) (hget s.hp) s.nx (fun _ => r) (hget post) (fun n => hget post n ≠ none)

def resFn (ts : Array Value) : ResultVar → Sem Value
  | .tmp t => pure (ts.getD t undef)
  | .cell a t => do loadVar t (← asAddr (ts.getD a undef))

theorem results_eq (fn : Func) (ts : Array Value) : results fn ts = (fn.results.mapM (resFn ts) >>= fun vs => pure (if h : vs.size = 1 then vs[0] else .tuple vs)) := by
  unfold results
  congr 1

theorem run_results {P : Program} {fn : Func} {s : St} {rv : AV} (hr : resA P fn.results s = some rv) {e : Env} {w : World} {a : Act} {nt : Nat} (r : RR e w (rget s.rs) (hget s.hp) a nt) :
    ∃ v, (results fn a.tmps).run P w = .ok v w ∧ VR e w rv v := by
  have key : ∀ (l : List ResultVar) (as : List AV), l.mapM (resOne P s) = some as →
      ∃ vs : List Value, (l.mapM (m := Sem) (resFn a.tmps)).run P w = .ok vs w ∧ vs.length = as.length ∧
        ∀ (j : Nat) (c : AV) (v : Value), as[j]? = some c → vs[j]? = some v → VR e w c v := by
    intro l
    induction l with
    | nil => intro as h; cases h; exact ⟨[], by simp, rfl, by simp⟩
    | cons x l ih =>
      intro as h
      simp only [List.mapM_cons, Option.bind_eq_bind, Option.bind_eq_some_iff] at h
      obtain ⟨c, hc, cs, hcs, h⟩ := h
      cases h
      obtain ⟨vs, h1, h2, h3⟩ := ih cs hcs
      have one : ∃ v, (resFn a.tmps x).run P w = .ok v w ∧ VR e w c v := by
        cases x with
        | tmp t => simp only [resOne] at hc; cases hc; exact ⟨_, rfl, r.regs t⟩
        | cell a' t =>
          simp only [resOne, Option.map_eq_some_iff] at hc
          obtain ⟨L, hL, rfl⟩ := hc
          obtain ⟨⟨v, q1, q2⟩, _, _⟩ := opLoad_run hL (r.regs a') r.heap (fun p hp => opA_req (E := fun _ => rget s.rs a') (op := .load t (.tmp 0)) (nx := 0) (by simpa [opA] using hL) p hp)
          refine ⟨v, ?_, q2⟩
          simp only [resFn]
          generalize a.tmps.getD a' undef = x at q1
          cases x with
          | pointer ad =>
            cases ad with
            | none => simp [Instr.loadAt, Instr.sureAddr, stuck] at q1
            | some ad => simpa [Instr.loadAt, Instr.sureAddr, asAddr] using q1
          | _ => simp [Instr.loadAt, Instr.sureAddr, stuck] at q1
      obtain ⟨v, g1, g2⟩ := one
      refine ⟨v :: vs, by simp only [List.mapM_cons, Sem.run_bind, g1, Result.andThen_ok, h1, Sem.run_pure], by simp [h2], fun j c' v' hc' hv' => ?_⟩
      cases j with
      | zero => simp at hc' hv'; subst hc' hv'; exact g2
      | succ j => simp at hc' hv'; exact h3 j c' v' hc' hv'
  unfold resA at hr
  cases hm : fn.results.toList.mapM (resOne P s) with
  | none => rw [hm] at hr; cases hr
  | some as =>
    rw [hm] at hr
    obtain ⟨vs, h1, h2, h3⟩ := key _ as hm
    have hrun : (results fn a.tmps).run P w = .ok (if h : vs.toArray.size = 1 then vs.toArray[0] else .tuple vs.toArray) w := by
      have e1 : (fn.results.mapM (resFn a.tmps)).run P w = .ok vs.toArray w := by
        have : fn.results = fn.results.toList.toArray := by simp
        rw [this, List.mapM_toArray]
        simp only [Sem.run_map]
        rw [h1]
        rfl
      rw [results_eq]
      simp only [Sem.run_bind, e1, Result.andThen_ok, Sem.run_pure]
    refine ⟨_, hrun, ?_⟩
    cases as with
    | nil =>
      cases hr
      have : vs = [] := List.eq_nil_of_length_eq_zero (by simpa using h2)
      subst this
      exact .tup (by simp) (by simp)
    | cons c cs =>
      cases cs with
      | nil =>
        simp only at hr
        cases hr
        obtain ⟨v, hv⟩ : ∃ v, vs = [v] := by
          cases vs with
          | nil => simp at h2
          | cons v vs => cases vs with
            | nil => exact ⟨v, rfl⟩
            | cons _ _ => simp at h2
        subst hv
        exact h3 0 _ v (by simp) (by simp)
      | cons d ds =>
        cases hr
        have : ¬ (vs.toArray.size = 1) := by simp [h2]
        rw [dif_neg this]
        exact .tup (by simp [h2]) (fun j c v hc hv => h3 j c v hc (by simpa using hv))

/-- A contract from the code. -/
theorem spec_intro {P : Program} {R made : Nat} {f : FuncId} {fn : Func} {b : BC} {args : List AV} {pre post : Heap} {r : AV} (hm : P.follows .mixedOrders = true) (hf : P.funcs[f]? = some fn)
    (hc : fn.body.bind (compile fn.ntmps) = some b) (hcall : ∀ vs w, (callFunc f vs).run P w = .ok (.enter f vs) w) (hpost : ∀ p ∈ post, p.1 < R + made) (hlen : args.length ≤ fn.ntmps)
    (h : awb P R b (fun x s => (x = .normal ∨ x = .ret) ∧ RetOK P R fn.results s r post) ⟨argRegs 0 args, pre, R⟩) : Spec P R made f args pre r post := by
  refine ⟨hcall, hpost, fun e w vs hl hv H hβ => ?_⟩
  rw [Option.bind_eq_some_iff] at hc
  obtain ⟨c, hb, hc⟩ := hc
  refine calls_of_wp hf hb ?_
  have hsr : SR R fn.ntmps e w ⟨argRegs 0 args, pre, R⟩ { tmps := vs ++ Array.replicate (fn.ntmps - vs.size) undef, defers := [] } := by
    refine ⟨⟨rfl, by simp; omega, fun t => ?_, H⟩, hβ, Nat.le_refl _⟩
    rw [rget_argRegs]
    simp only [Nat.zero_le, if_true, Nat.sub_zero]
    cases ht : args[t]? with
    | none => exact .any _
    | some a =>
      have hlt : t < vs.size := by rw [hl]; exact (List.getElem?_eq_some_iff.1 ht).1
      have : (vs ++ Array.replicate (fn.ntmps - vs.size) undef).getD t undef = vs[t] := by
        rw [Array.getD_eq_getD_getElem?, Array.getElem?_append_left hlt, Array.getElem?_eq_getElem hlt]; rfl
      rw [this]
      exact hv t a _ ht (Array.getElem?_eq_getElem hlt)
  refine wp_mono (awb_sound hm c b hc _ _ h e w _ hsr) (fun x a' w' hp => ?_)
  obtain ⟨e', s', ax, q1, ⟨q2, rv, q3, q4⟩, q5, q6⟩ := hp
  obtain ⟨v, g1, g2⟩ := run_results q3 q5.rr
  obtain ⟨e2, k1, k2, k3, k4⟩ := q4 e' w' (fun _ => v) (fun _ => g2) q5.rr.heap q5.fresh
  have fin : a'.defers = [] ∧ ∃ v, (results fn a'.tmps).run P w' = .ok v w' ∧ ∃ v1 e1, Ending.returned v = .returned v1 ∧ VR e1 w' r v1 ∧ HR e1 w' (hget post) ∧ Step e w (hget pre) e1 w' (hget post) R ∧ (∀ n, R ≤ n → hget post n = none → e1.β n = none) :=
    ⟨q5.rr.defers, v, g1, v, e2, rfl, k1 0, k2, q6.trans k3, fun n hn hq => k4 n hn (fun hh => hh hq)⟩
  cases x <;> simp only [axOf] at q1 <;> cases q1
  · exact fin
  · rcases q2 with q2 | q2 <;> cases q2
  · exact fin

/-- The transformer is monotone. -/
theorem awb_mono {P : Program} {R : Nat} : ∀ (b : BC) {Q Q' : AX → St → Prop} {s : St}, awb P R b Q s → (∀ x s, Q x s → Q' x s) → awb P R b Q' s := by
  have rg : ∀ (U : List (Nat × Nat)) (l : List ROp) (dn : List (Nat × List Nat × List Nat)) (rs : List (Nat × AV)) (H : Heap) (nx : Nat) {K K' : St → Prop}, regC P U l dn rs H nx K → (∀ s, K s → K' s) → regC P U l dn rs H nx K' := by
    intro U l
    induction l with
    | nil => intro dn rs H nx K K' h hk; exact hk _ h
    | cons o l ih =>
      intro dn rs H nx K K' h hk
      simp only [regC] at h ⊢
      split
      · rename_i hw; rw [hw] at h; exact h
      · rename_i hw; rw [hw] at h; exact ih _ _ _ _ h hk
      · rename_i hw
        rw [hw] at h
        simp only at h
        split
        · rename_i f args ts hop
          rw [hop] at h
          simp only at h
          obtain ⟨fid, caps, made, pre, post, r, h1, h2, h3, h4, h5, h6, h7⟩ := h
          exact ⟨fid, caps, made, pre, post, r, h1, h2, h3, h4, h5, h6, ih _ _ _ _ h7 hk⟩
        · rename_i hne
          split at h
          · rename_i f args ts hop
            exact absurd hop (hne f args ts)
          · split
            · rename_i hq; rw [hq] at h; exact h
            · rename_i L hq
              rw [hq] at h
              exact ⟨h.1, ih _ _ _ _ h.2 hk⟩
  intro b
  induction b with
  | skip => intro Q Q' s h hq; exact hq _ _ h
  | reg ops U => intro Q Q' s h hq; exact rg _ _ _ _ _ _ h (hq _)
  | seq a b iha ihb =>
    intro Q Q' s h hq
    refine iha h (fun x s' hx => ?_)
    cases x with
    | normal => exact ihb hx hq
    | exit id => exact hq _ _ hx
    | ret => exact hq _ _ hx
  | cond c a b iha ihb =>
    intro Q Q' s h hq
    simp only [awb] at h ⊢
    generalize oev (rget s.rs) c = v at h ⊢
    cases v with
    | bool t => exact ⟨fun h1 => iha (h.1 h1) hq, fun h1 => ihb (h.2 h1) hq⟩
    | anyb => exact ⟨iha h.1 hq, ihb h.2 hq⟩
    | _ => exact h
  | block id b ih =>
    intro Q Q' s h hq
    refine ih h (fun x s' hx => ?_)
    cases x with
    | normal => exact hq _ _ hx
    | exit i =>
      simp only at hx ⊢
      split
      · rename_i hi; rw [if_pos hi] at hx; exact hq _ _ hx
      · rename_i hi; rw [if_neg hi] at hx; exact hq _ _ hx
    | ret => exact hq _ _ hx
  | loop b ih =>
    intro Q Q' s h hq
    obtain ⟨ι, J, μ, i0, h0, hr⟩ := h
    refine ⟨ι, J, μ, i0, h0, fun i => ih (hr i) (fun x s' hx => ?_)⟩
    cases x with
    | normal => exact hx
    | exit id => exact hq _ _ hx
    | ret => exact hq _ _ hx
  | exit id => intro Q Q' s h hq; exact hq _ _ h
  | ret => intro Q Q' s h hq; exact hq _ _ h

end Go.Av
