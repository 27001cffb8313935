/- View shifts, code as a predicate transformer, and how a contract is proved. -/
import Derived.Test.YtojbfpfkkcdlhaaGreatAv12
namespace Go.Av
set_option linter.unusedVariables false
set_option linter.unusedSimpArgs false

/-- From one abstract state to another one of the same memory. -/
def VS (R : Nat) (ρ : RF) (h : HF) (nx : Nat) (ρ' : RF) (h' : HF) (S' : Nat → Prop) : Prop :=
  ∀ (e : Env) (w : World) (f : Nat → Value), (∀ t, VR e w (ρ t) (f t)) → HR e w h → (∀ n, nx ≤ n → e.β n = none) →
    ∃ e', (∀ t, VR e' w (ρ' t) (f t)) ∧ HR e' w h' ∧ Step e w h e' w h' R ∧ (∀ n, R ≤ n → ¬ S' n → e'.β n = none)

inductive Sub (h : HF) (σ : Nat → Option Nat) (F : Nat → Prop) : AV → AV → Prop
  | any (a : AV) : Sub h σ F a .any
  | refl (a : AV) (ha : a.nm (fun _ => False)) : Sub h σ F a a
  | ptr {n m off : Nat} (hs : σ n = some m) : Sub h σ F (.ptr n off) (.ptr m off)
  | ptrf {n off : Nat} {cs0 cs : List AV} (hf : F n) (hn : h n = some cs0) (hl : cs.length = cs0.length)
      (hc : ∀ (j : Nat) (a b : AV), cs0[j]? = some a → cs[j]? = some b → Sub h σ F a b) : Sub h σ F (.ptr n off) (.iptr cs off)
  | osl {n m off len sz : Nat} {cap cap' : Option Nat} (hs : σ n = some m) (hcap : cap' = cap ∨ cap' = none) : Sub h σ F (.osl n off len cap sz) (.osl m off len cap' sz)
  | oslf {n off len sz : Nat} {cap cap' : Option Nat} {cs0 cs : List AV} (hf : F n) (hn : h n = some cs0) (hle : off + len * sz ≤ cs0.length) (hl : cs.length = len * sz) (hcap : cap' = cap ∨ cap' = none)
      (hc : ∀ (j : Nat) (a b : AV), cs0[off + j]? = some a → cs[j]? = some b → Sub h σ F a b) : Sub h σ F (.osl n off len cap sz) (.vsl cs len cap')
  | nilo {m off sz : Nat} : Sub h σ F .nilsl (.osl m off 0 none sz)
  | nilv {cap' : Option Nat} (hcap : cap' = none ∨ cap' = some 0) : Sub h σ F .nilsl (.vsl [] 0 cap')
  | vsl {cs cs' : List AV} {len : Nat} {cap cap' : Option Nat} (hl : cs'.length = cs.length) (hcap : cap' = cap ∨ cap' = none)
      (hc : ∀ (j : Nat) (a b : AV), cs[j]? = some a → cs'[j]? = some b → Sub h σ F a b) : Sub h σ F (.vsl cs len cap) (.vsl cs' len cap')
  | iptr {cs cs' : List AV} {off : Nat} (hl : cs'.length = cs.length)
      (hc : ∀ (j : Nat) (a b : AV), cs[j]? = some a → cs'[j]? = some b → Sub h σ F a b) : Sub h σ F (.iptr cs off) (.iptr cs' off)
  | agg {cs cs' : List AV} (hl : cs'.length = cs.length)
      (hc : ∀ (j : Nat) (a b : AV), cs[j]? = some a → cs'[j]? = some b → Sub h σ F a b) : Sub h σ F (.agg cs) (.agg cs')
  | tup {cs cs' : List AV} (hl : cs'.length = cs.length)
      (hc : ∀ (j : Nat) (a b : AV), cs[j]? = some a → cs'[j]? = some b → Sub h σ F a b) : Sub h σ F (.tup cs) (.tup cs')
  | fn {f : FuncId} {cs cs' : List AV} (hl : cs'.length = cs.length)
      (hc : ∀ (j : Nat) (a b : AV), cs[j]? = some a → cs'[j]? = some b → Sub h σ F a b) : Sub h σ F (.fn f cs) (.fn f cs')

/-- Pointwise. -/
def SubL (h : HF) (σ : Nat → Option Nat) (F : Nat → Prop) : List AV → List AV → Prop
  | [], [] => True
  | a :: l, b :: m => Sub h σ F a b ∧ SubL h σ F l m
  | _, _ => False

theorem SubL.spec {h : HF} {σ : Nat → Option Nat} {F : Nat → Prop} : ∀ {l m : List AV}, SubL h σ F l m → m.length = l.length ∧ ∀ (j : Nat) (a b : AV), l[j]? = some a → m[j]? = some b → Sub h σ F a b
  | [], [], _ => ⟨rfl, fun j a b ha => by simp at ha⟩
  | [], _ :: _, h => h.elim
  | _ :: _, [], h => h.elim
  | x :: l, y :: m, h => by
    obtain ⟨h1, h2⟩ := h
    obtain ⟨i1, i2⟩ := SubL.spec h2
    refine ⟨by simp [i1], fun j a b ha hb => ?_⟩
    cases j with
    | zero => simp at ha hb; subst ha hb; exact h1
    | succ j => simp at ha hb; exact i2 j a b ha hb

open Classical in
theorem vs_sub {R nx : Nat} {ρ ρ' : RF} {h h' : HF} {S' : Nat → Prop} (σ : Nat → Option Nat) (F : Nat → Prop)
    (c1 : ∀ n m, σ n = some m → (n < R → m = n) ∧ (R ≤ n → R ≤ m ∧ S' m)) (c2 : ∀ n n' m, σ n = some m → σ n' = some m → n = n') (c4 : ∀ n, F n → σ n = none)
    (hreg : ∀ t, Sub h σ F (ρ t) (ρ' t))
    (hheap : ∀ m b', h' m = some b' → ∃ n b, σ n = some m ∧ h n = some b ∧ ∀ (j : Nat) (x : AV), b'[j]? = some x → ∃ y, b[j]? = some y ∧ Sub h σ F y x) :
    VS R ρ h nx ρ' h' S' := by
  intro e w f hf H hβ
  let e' : Env := { β := fun m => if m < R then e.β m else if hm : ∃ n, R ≤ n ∧ σ n = some m then e.β (Classical.choose hm) else none,
                    I := fun b => e.I b ∨ ∃ n s, F n ∧ h n ≠ none ∧ e.β n = some (b, s) }
  have kept : ∀ n m, σ n = some m → e'.β m = e.β n := fun n m hs => by
    show (if m < R then e.β m else if hm : ∃ n, R ≤ n ∧ σ n = some m then e.β (Classical.choose hm) else none) = e.β n
    by_cases hn : n < R
    · have := (c1 n m hs).1 hn
      subst this
      rw [if_pos hn]
    · have hm := (c1 n m hs).2 (by omega)
      rw [if_neg (by omega)]
      have hex : ∃ n, R ≤ n ∧ σ n = some m := ⟨n, by omega, hs⟩
      rw [dif_pos hex]
      have := Classical.choose_spec hex
      rw [c2 _ _ m this.2 hs]
  have I' : ∀ b, e.I b → e'.I b := fun b hb => .inl hb
  have val : ∀ a a', Sub h σ F a a' → ∀ v, VR e w a v → VR e' w a' v := by
    intro a a' hs
    induction hs with
    | any a => intro v _; exact .any v
    | refl a ha =>
      intro v hv
      have hx : Ext (e.cut fun _ => False) w e' w := ⟨fun n p hp => (cut_some hp).1.elim, I', fun _ _ => rfl, fun _ cs _ _ hc => ⟨cs, hc, rfl⟩⟩
      exact VR.mono hx (hv.cut ha)
    | ptr hs => intro v hv; cases hv with | ptr hb => exact .ptr ((kept _ _ hs).trans hb)
    | @ptrf n off cs0 cs hf' hn hl _ ih =>
      intro v hv
      cases hv with
      | @ptr _ _ b s hb =>
        rcases H.blk n cs0 hn with ⟨h0, _⟩ | ⟨b', s', cells, el, q1, q2, q3, q4⟩
        · rw [hb] at h0; cases h0
        rw [hb] at q1
        cases q1
        refine .iptr (fun j => cells.getD (s + j) undef) (.inr ⟨n, s, hf', by rw [hn]; simp, hb⟩) (fun j c hj => ?_) (fun j c hj => ?_)
        · have hlt : j < cs0.length := by have := (List.getElem?_eq_some_iff.1 hj).1; omega
          obtain ⟨u, r1, r2, r3⟩ := q4 j cs0[j] (List.getElem?_eq_getElem hlt)
          rw [cell_of_row w b _ cells el (0, 0) q3, Array.getD_eq_getD_getElem?, r1]
          exact ⟨rfl, r2⟩
        · have hlt : j < cs0.length := by have := (List.getElem?_eq_some_iff.1 hj).1; omega
          obtain ⟨u, r1, r2, r3⟩ := q4 j cs0[j] (List.getElem?_eq_getElem hlt)
          rw [Array.getD_eq_getD_getElem?, r1]
          exact ih j _ c (List.getElem?_eq_getElem hlt) hj u r3
    | osl hs hcap =>
      intro v hv
      cases hv with
      | osl hb hlen hcap' room => exact .osl ((kept _ _ hs).trans hb) hlen (fun k hk => by rcases hcap with rfl | rfl; exact hcap' k hk; cases hk) room
      | oslz a hcap' => exact .oslz a (fun k hk => by rcases hcap with rfl | rfl; exact hcap' k hk; cases hk)
    | @oslf n off len sz cap cap' cs0 cs hf' hn hle hl hcap _ ih =>
      intro v hv
      cases hv with
      | @osl _ _ _ _ b s c _ hb hlen hcap' room =>
        rcases H.blk n cs0 hn with ⟨h0, _⟩ | ⟨b', s', cells, el, q1, q2, q3, q4⟩
        · rw [hb] at h0; cases h0
        rw [hb] at q1
        cases q1
        have get : ∀ j, j < cs.length → ∃ u, cells[s + off + j]? = some u ∧ u.oneCell' = true ∧ ∃ c0, cs0[off + j]? = some c0 ∧ VR e w c0 u := fun j hj => by
          have hlt : off + j < cs0.length := by omega
          obtain ⟨u, r1, r2, r3⟩ := q4 (off + j) cs0[off + j] (List.getElem?_eq_getElem hlt)
          exact ⟨u, by rw [show s + off + j = s + (off + j) by omega]; exact r1, r2, _, List.getElem?_eq_getElem hlt, r3⟩
        refine .vsl (fun j => cells.getD (s + off + j) undef) (.inr ⟨n, s, hf', by rw [hn]; simp, hb⟩) hlen (fun k hk => by rcases hcap with rfl | rfl; exact hcap' k hk; cases hk) (fun j x hj => ?_) (fun j x hj => ?_)
        · obtain ⟨u, r1, r2, _⟩ := get j (List.getElem?_eq_some_iff.1 hj).1
          rw [cell_of_row w b _ cells el (0, 0) q3, Array.getD_eq_getD_getElem?, r1]
          exact ⟨rfl, r2⟩
        · obtain ⟨u, r1, r2, c0, r3, r4⟩ := get j (List.getElem?_eq_some_iff.1 hj).1
          rw [Array.getD_eq_getD_getElem?, r1]
          exact ih j c0 x r3 hj u r4
      | oslz a hcap' =>
        have : cs = [] := List.eq_nil_of_length_eq_zero (by simpa using hl)
        subst this
        exact .vslz a (fun k hk => by rcases hcap with rfl | rfl; exact (hcap' k hk).symm; cases hk)
    | nilo =>
      intro v hv
      cases hv
      exact .oslz none (fun k hk => by cases hk)
    | nilv hcap =>
      intro v hv
      cases hv
      exact .vslz none (fun k hk => by rcases hcap with rfl | rfl <;> cases hk; rfl)
    | @vsl cs cs' len cap cap' hl hcap _ ih =>
      intro v hv
      cases hv with
      | vsl vs hI hlen hcap' hc hv =>
        have lt : ∀ j x, cs'[j]? = some x → ∃ c0, cs[j]? = some c0 := fun j x hj => ⟨_, List.getElem?_eq_getElem (by have := (List.getElem?_eq_some_iff.1 hj).1; omega)⟩
        refine .vsl vs (I' _ hI) hlen (fun k hk => by rcases hcap with rfl | rfl; exact hcap' k hk; cases hk) (fun j x hj => ?_) (fun j x hj => ?_)
        · obtain ⟨c0, h0⟩ := lt j x hj; exact hc j c0 h0
        · obtain ⟨c0, h0⟩ := lt j x hj; exact ih j c0 x h0 hj _ (hv j c0 h0)
      | vslz a hcap' =>
        have : cs' = [] := List.eq_nil_of_length_eq_zero (by simpa using hl)
        subst this
        exact .vslz a (fun k hk => by rcases hcap with rfl | rfl; exact hcap' k hk; cases hk)
    | @iptr cs cs' off hl _ ih =>
      intro v hv
      cases hv with
      | iptr vs hI hc hv =>
        have lt : ∀ j x, cs'[j]? = some x → ∃ c0, cs[j]? = some c0 := fun j x hj => ⟨_, List.getElem?_eq_getElem (by have := (List.getElem?_eq_some_iff.1 hj).1; omega)⟩
        refine .iptr vs (I' _ hI) (fun j x hj => ?_) (fun j x hj => ?_)
        · obtain ⟨c0, h0⟩ := lt j x hj; exact hc j c0 h0
        · obtain ⟨c0, h0⟩ := lt j x hj; exact ih j c0 x h0 hj _ (hv j c0 h0)
    | agg hl _ ih =>
      intro v hv
      cases hv with
      | agg hl' h1 hv =>
        exact .agg (by omega) h1 (fun j c u hc hu => ih j _ c (List.getElem?_eq_getElem (by have := (List.getElem?_eq_some_iff.1 hc).1; omega)) hc u (hv j _ u (List.getElem?_eq_getElem (by have := (List.getElem?_eq_some_iff.1 hc).1; omega)) hu))
    | tup hl _ ih =>
      intro v hv
      cases hv with
      | tup hl' hv =>
        exact .tup (by omega) (fun j c u hc hu => ih j _ c (List.getElem?_eq_getElem (by have := (List.getElem?_eq_some_iff.1 hc).1; omega)) hc u (hv j _ u (List.getElem?_eq_getElem (by have := (List.getElem?_eq_some_iff.1 hc).1; omega)) hu))
    | fn hl _ ih =>
      intro v hv
      cases hv with
      | fn hl' hv =>
        exact .fn (by omega) (fun j c u hc hu => ih j _ c (List.getElem?_eq_getElem (by have := (List.getElem?_eq_some_iff.1 hc).1; omega)) hc u (hv j _ u (List.getElem?_eq_getElem (by have := (List.getElem?_eq_some_iff.1 hc).1; omega)) hu))
  have src : ∀ m, h' m ≠ none → ∃ n, σ n = some m ∧ h n ≠ none := fun m hm => by
    cases hq : h' m with
    | none => exact absurd hq hm
    | some b' => obtain ⟨n, b, q1, q2, _⟩ := hheap m b' hq; exact ⟨n, q1, by rw [q2]; simp⟩
  refine ⟨e', fun t => val _ _ (hreg t) _ (hf t), ⟨fun m b' hm => ?_, fun m m' b s t hm hm' h1 h2 => ?_, fun b hb => ?_⟩, ⟨Nat.le_refl _, fun _ _ _ => rfl, fun _ cs _ _ hc => ⟨cs, hc, rfl⟩, fun n hn => ?_, I', fun b hb => ?_, fun b hb => ?_, Still.refl w⟩, fun n hn hS => ?_⟩
  · obtain ⟨n, b, hs, hn, hc⟩ := hheap m b' hm
    rcases H.blk n b hn with ⟨q1, q2⟩ | ⟨x, s, cells, el, q1, q2, q3, q4⟩
    · refine .inl ⟨(kept n m hs).trans q1, ?_⟩
      cases b' with
      | nil => rfl
      | cons y ys => obtain ⟨z, hz, _⟩ := hc 0 y (by simp); rw [q2] at hz; simp at hz
    · refine .inr ⟨x, s, cells, el, (kept n m hs).trans q1, fun hI => ?_, q3, fun j a hj => ?_⟩
      · rcases hI with hI | ⟨n', s', hF, hn', hb'⟩
        · exact q2 hI
        · have := H.inj n n' x s s' (by rw [hn]; simp) hn' q1 hb'
          subst this
          rw [c4 n hF] at hs
          cases hs
      · obtain ⟨y, hy, hsub⟩ := hc j a hj
        obtain ⟨v, r1, r2, r3⟩ := q4 j y hy
        exact ⟨v, r1, r2, val _ _ hsub v r3⟩
  · obtain ⟨n, hs, hn⟩ := src m hm
    obtain ⟨n', hs', hn'⟩ := src m' hm'
    rw [kept n m hs] at h1
    rw [kept n' m' hs'] at h2
    have := H.inj n n' b s t hn hn' h1 h2
    subst this
    rw [hs] at hs'
    cases hs'
    rfl
  · rcases hb with hb | ⟨n, s, _, hn, hb⟩
    · exact H.Ib b hb
    · exact H.lt ⟨n, s, hn, hb⟩
  · show (if n < R then e.β n else _) = _
    rw [if_pos hn]
  · rcases hb with hb | ⟨n, s, _, hn, hb⟩
    · exact .inl hb
    · exact .inr (.inl ⟨n, s, hn, hb⟩)
  · obtain ⟨m, s, hm, hb⟩ := hb
    obtain ⟨n, hs, hn⟩ := src m hm
    rw [kept n m hs] at hb
    exact .inl ⟨n, s, hn, hb⟩
  · show (if n < R then e.β n else if hm : ∃ k, R ≤ k ∧ σ k = some n then e.β (Classical.choose hm) else none) = none
    rw [if_neg (by omega)]
    split
    · rename_i hm
      obtain ⟨k, hk, hs⟩ := hm
      exact absurd ((c1 k n hs).2 hk).2 hS
    · rfl

/-- A register that holds nil becomes a slice of an own empty block. -/
theorem vs_nil {R nx t0 : Nat} {ρ : RF} {h : HF} {sz : Nat} (ht : ρ t0 = .nilsl) (hR : R ≤ nx) :
    VS R ρ h nx (fun t => if t = t0 then .osl nx 0 0 none sz else ρ t) (upd h nx (some [])) (· < nx + 1) := by
  intro e w f hf H hβ
  have o := out_phantom (nx := nx) H (hβ nx (Nat.le_refl _))
  refine ⟨e, fun t => ?_, o.hr, o.step.weaken hR, fun n _ hn => hβ n (by omega)⟩
  show VR e w (if t = t0 then .osl nx 0 0 none sz else ρ t) (f t)
  by_cases h0 : t = t0
  · subst h0
    rw [if_pos rfl]
    have := hf t
    rw [ht] at this
    generalize f t = v at this
    cases this
    exact .oslz none (by intro _ h; cases h)
  · rw [if_neg h0]
    exact hf t

theorem VS.trans {R nx nx1 : Nat} {ρ ρ1 ρ2 : RF} {h h1 h2 : HF} {S2 : Nat → Prop} (hR : R ≤ nx1) (a : VS R ρ h nx ρ1 h1 (· < nx1)) (b : VS R ρ1 h1 nx1 ρ2 h2 S2) : VS R ρ h nx ρ2 h2 S2 := by
  intro e w f hf H hβ
  obtain ⟨e1, q1, q2, q3, q4⟩ := a e w f hf H hβ
  obtain ⟨e2, r1, r2, r3, r4⟩ := b e1 w f q1 q2 (fun n hn => q4 n (by omega) (by omega))
  exact ⟨e2, r1, r2, q3.trans r3, r4⟩

/-! code -/
inductive BC where
  | skip
  | reg (ops : List ROp) (U : List (Nat × Nat))
  | seq (a b : BC)
  | cond (c : Operand) (a b : BC)
  | block (id : Nat) (b : BC)
  | loop (b : BC)
  | exit (id : Nat)
  | ret

/-- The pairs of a region whose order is open. -/
def openPairs (ops : Array Oper) : List (Nat × Nat) :=
  (List.range ops.size).flatMap fun i => (List.range i).filterMap fun j => if anc ops ops.size j i then none else some (j, i)

def compile (nt : Nat) : Code → Option BC
  | .skip => some .skip
  | .region _ ops draw =>
    match rops ops with
    | some qs => if regOk nt ops draw (if draw then openPairs ops else []) then some (.reg qs (if draw then openPairs ops else [])) else none
    | none => none
  | .seq a b => match compile nt a, compile nt b with | some x, some y => some (.seq x y) | _, _ => none
  | .cond c a b => match compile nt a, compile nt b with | some x, some y => some (.cond c x y) | _, _ => none
  | .block id b => (compile nt b).map (.block id)
  | .loop b => (compile nt b).map .loop
  | .exit id => some (.exit id)
  | .ret => some .ret
  | _ => none

inductive AX where
  | normal
  | exit (id : Nat)
  | ret
  deriving DecidableEq

def axOf : Exit → Option AX
  | .normal => some .normal
  | .exit id => some (.exit id)
  | .ret => some .ret
  | _ => none

def St.shift (R : Nat) (s s' : St) : Prop := R ≤ s.nx → R ≤ s'.nx ∧ VS R (rget s.rs) (hget s.hp) s.nx (rget s'.rs) (hget s'.hp) (· < s'.nx)

def awb (P : Program) (R : Nat) : BC → (AX → St → Prop) → St → Prop
  | .skip, Q, s => Q .normal s
  | .reg ops U, Q, s => regC P U ops [] s.rs s.hp s.nx (Q .normal)
  | .seq a b, Q, s => awb P R a (fun x s' => match x with | .normal => awb P R b Q s' | x => Q x s') s
  | .cond c a b, Q, s => match oev (rget s.rs) c with
    | .bool t => (t = true → awb P R a Q s) ∧ (t = false → awb P R b Q s)
    | .anyb => awb P R a Q s ∧ awb P R b Q s
    | _ => False
  | .block id b, Q, s => awb P R b (fun x s' => match x with | .exit i => if i = id then Q .normal s' else Q (.exit i) s' | x => Q x s') s
  | .loop b, Q, s => ∃ (ι : Type) (J : ι → St) (μ : ι → Nat) (i0 : ι), St.shift R s (J i0) ∧
      ∀ i, awb P R b (fun x s' => match x with | .normal => ∃ j, μ j < μ i ∧ St.shift R s' (J j) | x => Q x s') (J i)
  | .exit id, Q, s => Q (.exit id) s
  | .ret, Q, s => Q .ret s

/-- A state and the machine's. -/
structure SR (R nt : Nat) (e : Env) (w : World) (s : St) (a : Act) : Prop where
  rr : RR e w (rget s.rs) (hget s.hp) a nt
  fresh : ∀ n, s.nx ≤ n → e.β n = none
  le : R ≤ s.nx

def Post (R nt : Nat) (e : Env) (w : World) (s : St) (Q : AX → St → Prop) : Exit → Act → World → Prop := fun x a' w' =>
  ∃ e' s' ax, axOf x = some ax ∧ Q ax s' ∧ SR R nt e' w' s' a' ∧ Step e w (hget s.hp) e' w' (hget s'.hp) R

theorem Post.after {R nt : Nat} {e e1 : Env} {w w1 : World} {s s1 : St} {Q : AX → St → Prop} (st : Step e w (hget s.hp) e1 w1 (hget s1.hp) R) {x : Exit} {a : Act} {w2 : World}
    (h : Post R nt e1 w1 s1 Q x a w2) : Post R nt e w s Q x a w2 := by
  obtain ⟨e', s', ax, h1, h2, h3, h4⟩ := h
  exact ⟨e', s', ax, h1, h2, h3, st.trans h4⟩

theorem SR.shift {R nt : Nat} {e : Env} {w : World} {s s' : St} {a : Act} (r : SR R nt e w s a) (h : St.shift R s s') : ∃ e', SR R nt e' w s' a ∧ Step e w (hget s.hp) e' w (hget s'.hp) R := by
  obtain ⟨h1, h2⟩ := h r.le
  obtain ⟨e', q1, q2, q3, q4⟩ := h2 e w (fun t => a.tmps.getD t undef) r.rr.regs r.rr.heap r.fresh
  exact ⟨e', ⟨⟨r.rr.defers, r.rr.size, q1, q2⟩, fun n hn => q4 n (by omega) (by omega), h1⟩, q3⟩

/-- A loop, with an index that stands in no register. -/
theorem wp_loop_ghost {P : Program} {c : Code} {Q : Exit → Act → World → Prop} {ι : Type} (I : ι → Act → World → Prop) (μ : ι → Nat)
    (round : ∀ i a w, I i a w → c.wp P (Exit.then (fun a' w' => ∃ j, I j a' w' ∧ μ j < μ i) Q) a w) {i0 : ι} {a : Act} {w : World} (h0 : I i0 a w) : (Code.loop c).wp P Q a w := by
  intro b k cs
  have key : ∀ n i a w, μ i = n → I i a w → ∃ e a' w', Q e a' w' ∧ Arrives P (lone (b.at a (.code c :: .inLoop c :: k)) cs w) b k cs e a' w' := by
    intro n
    induction n using Nat.strongRecOn with
    | _ n ih =>
      intro i a w hn hI
      obtain ⟨e, a1, w1, hq, harr⟩ := round i a w hI b (.inLoop c :: k) cs
      have out : ∀ e, e ≠ .normal → Q e a1 w1 → Arrives P (lone (b.at a (.code c :: .inLoop c :: k)) cs w) b (.inLoop c :: k) cs e a1 w1 →
          ∃ e a' w', Q e a' w' ∧ Arrives P (lone (b.at a (.code c :: .inLoop c :: k)) cs w) b k cs e a' w' := fun e hne hq harr =>
        ⟨e, a1, w1, hq, .pass (x := .inLoop c) rfl (fun _ _ => .inl hne) harr⟩
      cases e with
      | normal =>
        obtain ⟨j, hI1, hlt⟩ := hq
        obtain ⟨e2, a2, w2, hq2, harr2⟩ := ih (μ j) (hn ▸ hlt) j a1 w1 rfl hI1
        exact ⟨e2, a2, w2, hq2, .of_steps (Steps.trans harr (.one step_inLoop)) harr2⟩
      | exit id => exact out _ (by simp) hq harr
      | goto l => exact out _ (by simp) hq harr
      | ret => exact out _ (by simp) hq harr
      | panic ch => exact out _ (by simp) hq harr
      | outgrown => exact out _ (by simp) hq harr
  obtain ⟨e, a', w', hq, harr⟩ := key _ i0 a w rfl h0
  exact ⟨e, a', w', hq, .of_steps (.one step_loop) harr⟩

theorem awb_sound {P : Program} {R nt : Nat} (hm : P.follows .mixedOrders = true) : ∀ (c : Code) (b : BC), compile nt c = some b → ∀ (Q : AX → St → Prop) (s : St), awb P R b Q s → ∀ (e : Env) (w : World) (a : Act), SR R nt e w s a →
    c.wp P (Post R nt e w s Q) a w := by
  intro c
  induction c with
  | skip =>
    intro b hc Q s h e w a r
    cases hc
    exact wp_skip ⟨e, s, _, rfl, h, r, Step.refl _ _ _ _⟩
  | region id ops draw =>
    intro b hc Q s h e w a r
    simp only [compile] at hc
    split at hc
    case h_2 => cases hc
    rename_i qs hq
    by_cases hok : regOk nt ops draw (if draw then openPairs ops else []) = true
    case neg => rw [if_neg hok] at hc; cases hc
    rw [if_pos hok] at hc
    cases hc
    exact region_wp hm hq hok h r.rr r.fresh r.le (fun s' e' w' a' hK r' st hf hR => ⟨e', s', _, rfl, hK, ⟨r', hf, hR⟩, st⟩)
  | seq c1 c2 ih1 ih2 =>
    intro b hc Q s h e w a r
    simp only [compile] at hc
    split at hc
    case h_2 => cases hc
    rename_i x y hx hy
    cases hc
    refine wp_seq (wp_mono (ih1 x hx _ s h e w a r) (fun ex a' w' hp => ?_))
    obtain ⟨e', s', ax, q1, q2, q3, q4⟩ := hp
    cases ex <;> simp only [axOf, Option.some.injEq] at q1 <;> first | cases q1 | subst q1
    · exact wp_mono (ih2 y hy Q s' q2 e' w' a' q3) (fun ex a'' w'' hp => hp.after q4)
    · exact ⟨e', s', _, rfl, q2, q3, q4⟩
    · exact ⟨e', s', _, rfl, q2, q3, q4⟩
  | cond c c1 c2 ih1 ih2 =>
    intro b hc Q s h e w a r
    simp only [compile] at hc
    split at hc
    case h_2 => cases hc
    rename_i x y hx hy
    cases hc
    simp only [awb] at h
    have hv : VR e w (oev (rget s.rs) c) (a.eval c) := by
      cases c with
      | tmp t => exact r.rr.regs t
      | const v => exact ofV_rel e w v
      | global g => exact .any _
      | func f => exact .fn (by simp) (fun j c v hj _ => by simp at hj)
    split at h
    · rename_i t ht
      rw [ht] at hv
      have he : a.eval c = .bool t := by generalize a.eval c = v at hv; cases hv; rfl
      exact wp_cond_split he (fun h1 => ih1 x hx Q s (h.1 h1) e w a r) (fun h1 => ih2 y hy Q s (h.2 h1) e w a r)
    · rename_i ht
      rw [ht] at hv
      obtain ⟨t, he⟩ : ∃ t, a.eval c = .bool t := by generalize a.eval c = v at hv; cases hv; exact ⟨_, rfl⟩
      exact wp_cond_split he (fun _ => ih1 x hx Q s h.1 e w a r) (fun _ => ih2 y hy Q s h.2 e w a r)
    · exact h.elim
  | block id c ih =>
    intro b hc Q s h e w a r
    simp only [compile, Option.map_eq_some_iff] at hc
    obtain ⟨x, hx, rfl⟩ := hc
    refine wp_block (wp_mono (ih x hx _ s h e w a r) (fun ex a' w' hp => ?_))
    obtain ⟨e', s', ax, q1, q2, q3, q4⟩ := hp
    cases ex <;> simp only [axOf, Option.some.injEq] at q1 <;> first | cases q1 | subst q1
    · exact ⟨e', s', _, rfl, q2, q3, q4⟩
    · simp only [Exit.inBlock]
      simp only at q2
      split
      · rename_i hid
        rw [if_pos hid] at q2
        exact ⟨e', s', _, rfl, q2, q3, q4⟩
      · rename_i hid
        rw [if_neg hid] at q2
        exact ⟨e', s', _, rfl, q2, q3, q4⟩
    · exact ⟨e', s', _, rfl, q2, q3, q4⟩
  | loop c ih =>
    intro b hc Q s h e w a r
    simp only [compile, Option.map_eq_some_iff] at hc
    obtain ⟨x, hx, rfl⟩ := hc
    obtain ⟨ι, J, μ, i0, h0, hround⟩ := h
    obtain ⟨e1, r1, st1⟩ := r.shift h0
    refine wp_loop_ghost (fun i a' w' => ∃ e', SR R nt e' w' (J i) a' ∧ Step e w (hget s.hp) e' w' (hget (J i).hp) R) μ ?_ (i0 := i0) ⟨e1, r1, st1⟩
    rintro i a' w' ⟨e2, r2, st2⟩
    refine wp_mono (ih x hx _ (J i) (hround i) e2 w' a' r2) (fun ex a'' w'' hp => ?_)
    obtain ⟨e3, s3, ax, q1, q2, q3, q4⟩ := hp.after st2
    cases ex <;> simp only [axOf, Option.some.injEq] at q1 <;> first | cases q1 | subst q1
    · obtain ⟨j, hj, hsh⟩ := q2
      obtain ⟨e4, r4, st4⟩ := q3.shift hsh
      exact ⟨j, ⟨e4, r4, q4.trans st4⟩, hj⟩
    · exact ⟨e3, s3, _, rfl, q2, q3, q4⟩
    · exact ⟨e3, s3, _, rfl, q2, q3, q4⟩
  | ret =>
    intro b hc Q s h e w a r
    cases hc
    exact wp_ret ⟨e, s, _, rfl, h, r, Step.refl _ _ _ _⟩
  | exit id =>
    intro b hc Q s h e w a r
    cases hc
    exact wp_exit ⟨e, s, _, rfl, h, r, Step.refl _ _ _ _⟩
  | _ => intro b hc; simp [compile] at hc

end Go.Av
