/- Regions: operations one behind the other, in the text's order or in any order that the edges allow. -/
import Derived.Test.YtojbfpfkkcdlhaaGreatAv8
namespace Go.Av
set_option linter.unusedVariables false
set_option linter.unusedSimpArgs false

/-- A step of a region: where it writes, the registers it looks at, its value, what it does to the heap, the names it makes. -/
structure GS where
  dst : Option Nat
  ins : List (Nat × AV)
  v : AV
  req : List (Nat × Blk)
  ups : List (Nat × Option Blk)
  nx : Nat
  made : Nat

abbrev RF := Nat → AV

def GS.ok (P : Program) (ops : Array Oper) (i : Nat) (g : GS) : Prop :=
  ∀ (e : Env) (w : World) (a : Act) (h : HF), (∀ p ∈ g.ins, VR e w p.2 (a.tmps.getD p.1 undef)) → a.defers = [] → HR e w h → (∀ p ∈ g.req, h p.1 = some p.2) →
    (∀ n, g.nx ≤ n → n < g.nx + g.made → e.β n = none) → ∀ (Q : Exit → Act → World → Prop) (K : Act → World → Prop),
    (∀ e' w' v, VR e' w' g.v v → Out e w h g.nx g.made e' w' (updL h g.ups) → K (a.put g.dst v) w') → wpOp P ops Q i K a w

def rset (ρ : RF) (d : Option Nat) (v : AV) : RF := match d with
  | none => ρ
  | some d => fun t => if t = d then v else ρ t

def GS.fits (g : GS) (ρ : RF) (h : HF) : Prop := (∀ p ∈ g.ins, ρ p.1 = p.2) ∧ (∀ p ∈ g.req, h p.1 = some p.2)

inductive Chain (P : Program) (ops : Array Oper) : RF → HF → List (Nat × GS) → RF → HF → Prop
  | nil (ρ : RF) (h : HF) : Chain P ops ρ h [] ρ h
  | cons {ρ : RF} {h : HF} {i : Nat} {g : GS} {l : List (Nat × GS)} {ρf : RF} {hf : HF} (ok : g.ok P ops i) (fits : g.fits ρ h)
      (rest : Chain P ops (rset ρ g.dst g.v) (updL h g.ups) l ρf hf) : Chain P ops ρ h ((i, g) :: l) ρf hf

structure Indep (a b : GS) : Prop where
  d1 : ∀ d, a.dst = some d → d ∉ b.ins.map (·.1) ∧ b.dst ≠ some d
  d2 : ∀ d, b.dst = some d → d ∉ a.ins.map (·.1)
  h1 : ∀ n ∈ a.ups.map (·.1), n ∉ b.req.map (·.1) ∧ n ∉ b.ups.map (·.1)
  h2 : ∀ n ∈ b.ups.map (·.1), n ∉ a.req.map (·.1)

theorem updL_other (h : HF) (l : List (Nat × Option Blk)) (n : Nat) (hn : n ∉ l.map (·.1)) : updL h l n = h n := by
  induction l generalizing h with
  | nil => rfl
  | cons p l ih =>
    simp only [List.map_cons, List.mem_cons, not_or] at hn
    rw [updL, ih _ hn.2, upd_other h _ hn.1]

theorem updL_congr (h h' : HF) (l : List (Nat × Option Blk)) (n : Nat) (he : n ∉ l.map (·.1) → h n = h' n) : updL h l n = updL h' l n := by
  induction l generalizing h h' with
  | nil => exact he (by simp)
  | cons p l ih =>
    obtain ⟨m, b⟩ := p
    simp only [updL]
    refine ih _ _ (fun hn => ?_)
    by_cases hm : n = m
    · subst hm; simp
    · rw [upd_other h _ hm, upd_other h' _ hm]
      exact he (by simp only [List.map_cons, List.mem_cons, not_or]; exact ⟨hm, hn⟩)

theorem updL_comm (h : HF) (a b : List (Nat × Option Blk)) (hd : ∀ n ∈ a.map (·.1), n ∉ b.map (·.1)) : updL (updL h a) b = updL (updL h b) a := by
  funext n
  by_cases hb : n ∈ b.map (·.1)
  · have ha : n ∉ a.map (·.1) := fun ha => hd n ha hb
    rw [updL_other (updL h b) a n ha]
    exact updL_congr _ _ b n (fun hnb => absurd hb hnb)
  · rw [updL_other (updL h a) b n hb]
    exact updL_congr _ _ a n (fun _ => (updL_other h b n hb).symm)

theorem rset_comm (ρ : RF) (d e : Option Nat) (v u : AV) (h : ∀ x, d = some x → e ≠ some x) : rset (rset ρ d v) e u = rset (rset ρ e u) d v := by
  cases d with
  | none => rfl
  | some d =>
    cases e with
    | none => rfl
    | some e =>
      have hne : d ≠ e := fun he => h d rfl (by rw [he])
      funext t
      simp only [rset]
      by_cases h1 : t = d <;> by_cases h2 : t = e
      · exact absurd (h1.symm.trans h2) hne
      · simp [h1, hne]
      · simp [h2, Ne.symm hne]
      · simp [h1, h2]

theorem rset_other (ρ : RF) (d : Option Nat) (v : AV) (t : Nat) (h : d ≠ some t) : rset ρ d v t = ρ t := by
  cases d with
  | none => rfl
  | some d => simp only [rset]; rw [if_neg (fun e => h (by rw [e]))]

theorem Chain.swap {P : Program} {ops : Array Oper} {ρ : RF} {h : HF} {i j : Nat} {a b : GS} {l : List (Nat × GS)} {ρf : RF} {hf : HF} (hi : Indep a b)
    (c : Chain P ops ρ h ((i, a) :: (j, b) :: l) ρf hf) : Chain P ops ρ h ((j, b) :: (i, a) :: l) ρf hf := by
  cases c with
  | cons ok1 f1 c1 =>
    cases c1 with
    | cons ok2 f2 c2 =>
      refine .cons ok2 ⟨fun p hp => ?_, fun p hp => ?_⟩ (.cons ok1 ⟨fun p hp => ?_, fun p hp => ?_⟩ ?_)
      · rw [← f2.1 p hp]
        exact (rset_other ρ a.dst a.v p.1 (fun e => (hi.d1 _ e).1 (List.mem_map_of_mem hp))).symm
      · rw [← f2.2 p hp]
        exact (updL_other h a.ups p.1 (fun hm => (hi.h1 _ hm).1 (List.mem_map_of_mem hp))).symm
      · rw [← f1.1 p hp]
        exact rset_other ρ b.dst b.v p.1 (fun e => hi.d2 _ e (List.mem_map_of_mem hp))
      · rw [← f1.2 p hp]
        exact updL_other h b.ups p.1 (fun hm => hi.h2 _ hm (List.mem_map_of_mem hp))
      · rw [rset_comm ρ b.dst a.dst b.v a.v (fun x hx hy => (hi.d1 x hy).2 hx), ← updL_comm h a.ups b.ups (fun n hn => (hi.h1 n hn).2)]
        exact c2

theorem Chain.front {P : Program} {ops : Array Oper} {i : Nat} {g : GS} {B : List (Nat × GS)} {ρf : RF} {hf : HF} : ∀ (A : List (Nat × GS)) (ρ : RF) (h : HF), (∀ p ∈ A, Indep p.2 g) →
    Chain P ops ρ h (A ++ (i, g) :: B) ρf hf → Chain P ops ρ h ((i, g) :: (A ++ B)) ρf hf
  | [], _, _, _, c => c
  | (j, a) :: A, ρ, h, hA, c => by
    cases c with
    | cons ok f c1 =>
      have := Chain.front A _ _ (fun p hp => hA p (by simp [hp])) c1
      exact Chain.swap (hA (j, a) (by simp)) (.cons ok f this)

/-- `j` comes before `i` whatever the order. -/
def anc (ops : Array Oper) : Nat → Nat → Nat → Bool
  | 0, _, _ => false
  | f + 1, j, i => ((ops[i]?).map fun o => o.after.any fun e => Region.binds .any e && (e.on == j || anc ops f j e.on)).getD false

/-- edges lead backwards -/
def wellOrd (ops : Array Oper) : Bool :=
  (List.range ops.size).all fun i => ((ops[i]?).map fun o => o.after.all fun e => !Region.binds .any e || decide (e.on < i)).getD true

theorem anc_listed {ops : Array Oper} {listed : Array Bool} (closed : ∀ i o, ops[i]? = some o → listed.getD i true = true → ∀ e ∈ o.after, Region.binds .any e = true → listed.getD e.on false = true) :
    ∀ (f j i : Nat), anc ops f j i = true → (∀ o, ops[i]? = some o → ∀ e ∈ o.after, Region.binds .any e = true → listed.getD e.on false = true) → listed.getD j false = true := by
  intro f
  induction f with
  | zero => intro j i h; simp [anc] at h
  | succ f ih =>
    intro j i h hi
    simp only [anc] at h
    cases ho : ops[i]? with
    | none => rw [ho] at h; simp at h
    | some o =>
      rw [ho] at h
      simp only [Option.map_some, Option.getD_some, Array.any_eq_true, Bool.and_eq_true, Bool.or_eq_true, beq_iff_eq] at h
      obtain ⟨k, hk, hb, hc⟩ := h
      have hl := hi o ho o.after[k] (by simp) hb
      rcases hc with hc | hc
      · rw [← hc]; exact hl
      · refine ih j _ hc (fun o' ho' e he hb' => ?_)
        refine closed _ o' ho' ?_ e he hb'
        rw [Array.getD_eq_getD_getElem?] at hl ⊢
        cases hq : listed[o.after[k].on]? with
        | none => rw [hq] at hl; simp at hl
        | some b => rw [hq] at hl; simpa using hl

structure RR (e : Env) (w : World) (ρ : RF) (h : HF) (a : Act) (nt : Nat) : Prop where
  defers : a.defers = []
  size : a.tmps.size = nt
  regs : ∀ t, VR e w (ρ t) (a.tmps.getD t undef)
  heap : HR e w h

theorem RR.put {e : Env} {w : World} {ρ : RF} {h : HF} {a : Act} {nt : Nat} (r : RR e w ρ h a nt) {g : GS} (hd : ∀ d, g.dst = some d → d < nt) {e' : Env} {w' : World} {v : Value} (hv : VR e' w' g.v v)
    (o : Out e w h g.nx g.made e' w' (updL h g.ups)) : RR e' w' (rset ρ g.dst g.v) (updL h g.ups) (a.put g.dst v) nt := by
  cases hg : g.dst with
  | none => exact ⟨r.defers, r.size, fun t => (r.regs t).mono o.ext, o.hr⟩
  | some d =>
    have hlt := hd d hg
    refine ⟨r.defers, by simp [Act.put, r.size], fun t => ?_, o.hr⟩
    by_cases ht : t = d
    · subst ht
      have : (a.tmps.setIfInBounds t v).getD t undef = v := by simp [Array.getD_eq_getD_getElem?, r.size, hlt]
      simp only [rset, if_true, Act.put]
      rw [this]
      exact hv
    · have : (a.tmps.setIfInBounds d v).getD t undef = a.tmps.getD t undef := by
        rw [Array.getD_eq_getD_getElem?, Array.getD_eq_getD_getElem?, Array.getElem?_setIfInBounds_ne (Ne.symm ht)]
      simp only [rset, if_neg ht, Act.put]
      rw [this]
      exact (r.regs t).mono o.ext

theorem Step.weaken {e : Env} {w : World} {h : HF} {e' : Env} {w' : World} {h' : HF} {R R' : Nat} (s : Step e w h e' w' h' R) (hR : R' ≤ R) : Step e w h e' w' h' R' :=
  ⟨s.size, s.keep, s.shape, fun n hn => s.β n (by omega), s.I, s.Inew, s.own, s.still⟩

/-- Text order. -/
theorem ops_text {P : Program} {ops : Array Oper} {Q : Exit → Act → World → Prop} {nt R nx0 nxf : Nat} : ∀ (l : List (Nat × GS)) (ρ : RF) (h : HF) (ρf : RF) (hf : HF) (e : Env) (w : World) (a : Act) (nxc : Nat),
    Chain P ops ρ h l ρf hf → RR e w ρ h a nt → (∀ p ∈ l, (∀ d, p.2.dst = some d → d < nt) ∧ nx0 ≤ p.2.nx ∧ p.2.nx + p.2.made ≤ nxf) → R ≤ nx0 →
    l.Pairwise (fun p q => p.2.nx + p.2.made ≤ q.2.nx) → (∀ p ∈ l, nxc ≤ p.2.nx) → (∀ n, nxc ≤ n → e.β n = none) → nxc ≤ nxf →
    (∀ e' w' a', RR e' w' ρf hf a' nt → Step e w h e' w' hf R → (∀ n, nxf ≤ n → e'.β n = none) → Q .normal a' w') →
    wpOps P ops Q (l.map (·.1)) a w
  | [], ρ, h, ρf, hf, e, w, a, nxc, c, r, _, _, _, _, hβ, hle, hQ => by
    cases c
    exact hQ e w a r (Step.refl _ _ _ _) (fun n hn => hβ n (by omega))
  | (i, g) :: l, ρ, h, ρf, hf, e, w, a, nxc, c, r, hl, hR, hp, hc, hβ, hle, hQ => by
    cases c with
    | cons ok f c =>
      have hg : (∀ d, g.dst = some d → d < nt) ∧ nx0 ≤ g.nx ∧ g.nx + g.made ≤ nxf := hl (i, g) (by simp)
      have hcg : nxc ≤ g.nx := hc (i, g) (by simp)
      rw [List.pairwise_cons] at hp
      simp only [List.map_cons]
      rw [wpOps_cons]
      refine ok e w a h (fun p hp => by rw [← f.1 p hp]; exact r.regs p.1) r.defers r.heap f.2 (fun n h1 _ => hβ n (by omega)) Q _ (fun e' w' v hv o => ?_)
      have hr := r.put hg.1 hv o
      refine ops_text l _ _ ρf hf e' w' _ (g.nx + g.made) c hr (fun p hp => hl p (by simp [hp])) hR hp.2 (fun p hpl => hp.1 p hpl) (fun n hn => ?_) hg.2.2 (fun e'' w'' a'' hr'' st hb => ?_)
      · rw [o.β n (.inr hn)]; exact hβ n (by omega)
      · exact hQ e'' w'' a'' hr'' (Step.trans (o.step.weaken (by omega)) st) hb

theorem getD_set_true (l : Array Bool) (i j : Nat) (d : Bool) : (l.setIfInBounds i true).getD j d = if i = j ∧ j < l.size then true else l.getD j d := by
  rw [Array.getD_eq_getD_getElem?, Array.getD_eq_getD_getElem?, Array.getElem?_setIfInBounds]
  by_cases hij : i = j
  · subst hij
    by_cases hl : i < l.size
    · simp [hl]
    · simp [hl]
  · simp [hij]

/-- Any order. -/
theorem ops_any {P : Program} {ops : Array Oper} {Q : Exit → Act → World → Prop} {nt R nx0 nxf F : Nat} (hw : wellOrd ops = true) : ∀ (fuel : Nat) (l : List (Nat × GS)) (ρ : RF) (h : HF) (ρf : RF) (hf : HF) (e : Env) (w : World) (a : Act) (listed : Array Bool),
    Chain P ops ρ h l ρf hf → RR e w ρ h a nt → (∀ p ∈ l, (∀ d, p.2.dst = some d → d < nt) ∧ nx0 ≤ p.2.nx ∧ p.2.nx + p.2.made ≤ nxf) → R ≤ nx0 →
    l.Pairwise (fun p q => p.2.nx + p.2.made ≤ q.2.nx) → l.Pairwise (fun p q => p.1 < q.1) →
    l.Pairwise (fun p q => anc ops F p.1 q.1 = true ∨ Indep p.2 q.2) →
    listed.size = ops.size → (∀ j, j < ops.size → (listed.getD j true = false ↔ j ∈ l.map (·.1))) → (∀ p ∈ l, p.1 < ops.size) →
    (∀ i o, ops[i]? = some o → listed.getD i true = true → ∀ e ∈ o.after, Region.binds .any e = true → listed.getD e.on false = true) →
    (∀ p ∈ l, ∀ n, p.2.nx ≤ n → n < p.2.nx + p.2.made → e.β n = none) → (∀ n, nxf ≤ n → e.β n = none) → l.length ≤ fuel →
    (∀ e' w' a', RR e' w' ρf hf a' nt → Step e w h e' w' hf R → (∀ n, nxf ≤ n → e'.β n = none) → Q .normal a' w') →
    wpAny P .any ops Q fuel listed a w := by
  intro fuel
  induction fuel with
  | zero =>
    intro l ρ h ρf hf e w a listed c r hl hR hp hlt hind hls hlm hlo hcl hβ hβf hfuel hQ
    have : l = [] := List.eq_nil_of_length_eq_zero (by omega)
    subst this
    cases c
    refine ⟨?_, hQ e w a r (Step.refl _ _ _ _) hβf⟩
    unfold Region.ready
    rw [List.filter_eq_nil_iff]
    intro i hi
    simp only [List.mem_range] at hi
    have : ¬ (listed.getD i true = false) := fun hh => by have := (hlm i hi).1 hh; simp at this
    simp only [Bool.and_eq_true, Bool.not_eq_true', not_and]
    intro hh
    exact absurd hh this
  | succ fuel ih =>
    intro l ρ h ρf hf e w a listed c r hl hR hp hlt hind hls hlm hlo hcl hβ hβf hfuel hQ
    have hunlisted : ∀ i ∈ Region.ready .any ops listed, i ∈ l.map (·.1) := fun i hi => by
      unfold Region.ready at hi
      rw [List.mem_filter] at hi
      obtain ⟨h1, h2⟩ := hi
      simp only [List.mem_range] at h1
      simp only [Bool.and_eq_true, Bool.not_eq_true'] at h2
      exact (hlm i h1).1 h2.1
    refine ⟨fun hnil => ?_, fun i hi => ?_⟩
    · -- nothing ready: nothing left
      have hl0 : l = [] := by
        cases l with
        | nil => rfl
        | cons p l =>
          exfalso
          obtain ⟨i, g⟩ := p
          have hi : i < ops.size := hlo (i, g) (by simp)
          have hun : listed.getD i true = false := (hlm i hi).2 (by simp)
          have : i ∈ Region.ready .any ops listed := by
            unfold Region.ready
            rw [List.mem_filter]
            refine ⟨by simpa using hi, ?_⟩
            rw [hun]
            have ho : ops[i]? = some ops[i] := Array.getElem?_eq_getElem hi
            rw [ho]
            simp only [Bool.not_false, Bool.true_and, Option.map_some, Option.getD_some]
            rw [Array.all_eq_true_iff_forall_mem]
            intro ed hed
            cases hb : Region.binds .any ed with
            | false => rfl
            | true =>
              simp only [Bool.not_true, Bool.false_or]
              have hlt' : ed.on < i := by
                unfold wellOrd at hw
                rw [List.all_eq_true] at hw
                have := hw i (by simpa using hi)
                rw [ho] at this
                simp only [Option.map_some, Option.getD_some] at this
                rw [Array.all_eq_true_iff_forall_mem] at this
                have := this ed hed
                rw [hb] at this
                simpa using this
              have h2 : ed.on < ops.size := by omega
              cases hq : listed.getD ed.on false with
              | true => rfl
              | false =>
                exfalso
                have : listed.getD ed.on true = false := by
                  rw [Array.getD_eq_getD_getElem?] at hq ⊢
                  rw [Array.getElem?_eq_getElem (by omega)] at hq ⊢
                  exact hq
                have := (hlm ed.on h2).1 this
                simp only [List.map_cons, List.mem_cons] at this
                rcases this with h' | h'
                · omega
                · rw [List.mem_map] at h'
                  obtain ⟨q, hq1, hq2⟩ := h'
                  rw [List.pairwise_cons] at hlt
                  have := hlt.1 q hq1
                  simp at this
                  omega
          rw [hnil] at this
          simp at this
      subst hl0
      cases c
      exact hQ e w a r (Step.refl _ _ _ _) hβf
    · -- a step
      have hil := hunlisted i hi
      rw [List.mem_map] at hil
      obtain ⟨p, hpl, hpi⟩ := hil
      obtain ⟨i', g⟩ := p
      simp only at hpi
      subst hpi
      obtain ⟨A, B, rfl⟩ := List.append_of_mem hpl
      have hready : ∀ o, ops[i']? = some o → ∀ e ∈ o.after, Region.binds .any e = true → listed.getD e.on false = true := fun o ho ed hed hb => by
        unfold Region.ready at hi
        rw [List.mem_filter] at hi
        have h2 := hi.2
        rw [ho] at h2
        simp only [Bool.and_eq_true, Option.map_some, Option.getD_some] at h2
        have := (Array.all_eq_true_iff_forall_mem.1 h2.2) ed hed
        rw [hb] at this
        simpa using this
      have hA : ∀ p ∈ A, Indep p.2 g := fun p hpA => by
        rw [List.pairwise_append] at hind
        rcases hind.2.2 p hpA (i', g) (by simp) with h' | h'
        · exfalso
          have := anc_listed hcl F p.1 i' h' hready
          have hpo : p.1 < ops.size := hlo p (by simp [hpA])
          have hun : listed.getD p.1 true = false := (hlm p.1 hpo).2 (by simp only [List.map_append, List.mem_append]; exact .inl (List.mem_map_of_mem hpA))
          rw [Array.getD_eq_getD_getElem?] at this hun
          rw [Array.getElem?_eq_getElem (by omega)] at this hun
          simp at this hun
          rw [this] at hun
          cases hun
        · exact h'
      have c' := Chain.front A ρ h hA c
      cases c' with
      | cons ok f c' =>
        have hg : (∀ d, g.dst = some d → d < nt) ∧ nx0 ≤ g.nx ∧ g.nx + g.made ≤ nxf := hl (i', g) hpl
        refine ok e w a h (fun p hp => by rw [← f.1 p hp]; exact r.regs p.1) r.defers r.heap f.2 (fun n h1 h2 => hβ (i', g) hpl n h1 h2) Q _ (fun e' w' v hv o => ?_)
        have hr := r.put hg.1 hv o
        have sub : ∀ p, p ∈ A ++ B → p ∈ A ++ (i', g) :: B := fun p hp => by
          rw [List.mem_append] at hp ⊢
          exact hp.imp id (List.mem_cons_of_mem _)
        have subl : List.Sublist (A ++ B) (A ++ (i', g) :: B) := List.Sublist.append (List.Sublist.refl A) (List.sublist_cons_self _ _)
        have hlt2 := List.pairwise_append.1 hlt
        have hp2 := List.pairwise_append.1 hp
        have hne : ∀ p ∈ A ++ B, p.1 ≠ i' ∧ (p.2.nx + p.2.made ≤ g.nx ∨ g.nx + g.made ≤ p.2.nx) := fun p hpm => by
          rcases List.mem_append.1 hpm with hpm | hpm
          · exact ⟨Nat.ne_of_lt (hlt2.2.2 p hpm (i', g) (by simp)), .inl (hp2.2.2 p hpm (i', g) (by simp))⟩
          · exact ⟨Nat.ne_of_gt ((List.pairwise_cons.1 hlt2.2.1).1 p hpm), .inr ((List.pairwise_cons.1 hp2.2.1).1 p hpm)⟩
        have hi' : i' < ops.size := hlo (i', g) hpl
        have hfin : ∀ n, nxf ≤ n → e'.β n = none := fun n hn => by rw [o.β n (.inr (by omega))]; exact hβf n hn
        refine ih (A ++ B) _ _ ρf hf e' w' _ (listed.setIfInBounds i' true) c' hr (fun p hp => hl p (sub p hp)) hR (hp.sublist subl) (hlt.sublist subl) (hind.sublist subl) (by simpa using hls) (fun j hj => ?_) (fun p hp => hlo p (sub p hp)) (fun j oj hoj hlj ed hed hb => ?_) (fun p hpm n h1 h2 => ?_) hfin ?_ (fun e'' w'' a'' hr'' st hb => hQ e'' w'' a'' hr'' (Step.trans (o.step.weaken (by omega)) st) hb)
        · rw [getD_set_true]
          by_cases hij : i' = j
          · subst hij
            rw [if_pos ⟨rfl, by omega⟩]
            constructor
            · intro h'; cases h'
            · intro h'
              rw [List.mem_map] at h'
              obtain ⟨q, hq1, hq2⟩ := h'
              exact absurd hq2 (hne q hq1).1
          · rw [if_neg (fun h' => hij h'.1), hlm j hj]
            simp only [List.map_append, List.map_cons, List.mem_append, List.mem_cons]
            constructor
            · rintro (h' | h' | h')
              · exact .inl h'
              · exact absurd h'.symm hij
              · exact .inr h'
            · rintro (h' | h')
              · exact .inl h'
              · exact .inr (.inr h')
        · rw [getD_set_true] at hlj ⊢
          by_cases hij : i' = j
          · subst hij
            split
            · rfl
            · exact hready oj hoj ed hed hb
          · rw [if_neg (fun h' => hij h'.1)] at hlj
            split
            · rfl
            · exact hcl j oj hoj hlj ed hed hb
        · have := (hne p hpm).2
          rw [o.β n (by omega)]
          exact hβ p (sub p hpm) n h1 h2
        · simp only [List.length_append, List.length_cons] at hfuel ⊢
          omega

end Go.Av
