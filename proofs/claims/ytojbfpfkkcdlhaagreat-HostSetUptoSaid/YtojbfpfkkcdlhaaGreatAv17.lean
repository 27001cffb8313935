/- Loops, view shifts and returns, in the form in which simp closes them. -/
import Derived.Test.YtojbfpfkkcdlhaaGreatAv16
namespace Go.Av
set_option linter.unusedVariables false
set_option linter.unusedSimpArgs false

/-- From a value to a weaker one: names by σ, frozen blocks by fz. -/
def toB (σ : Nat → Option Nat) (fz : Nat → Option (List AV)) : AV → AV → Prop
  | .ptr n off, .ptr m off' => σ n = some m ∧ off' = off
  | .ptr n off, .iptr cs off' => fz n = some cs ∧ off' = off
  | .osl n off len cap sz, .osl m off' len' cap' sz' => σ n = some m ∧ off' = off ∧ len' = len ∧ sz' = sz ∧ (cap' = cap ∨ cap' = none)
  | .osl n off len cap sz, .vsl cs len' cap' => (∃ c, fz n = some c ∧ off + len * sz ≤ c.length ∧ cs = (c.drop off).take (len * sz)) ∧ len' = len ∧ (cap' = cap ∨ cap' = none)
  | .nilsl, .osl _ _ len cap _ => len = 0 ∧ cap = none
  | .nilsl, .vsl cs len cap => cs = [] ∧ len = 0 ∧ (cap = none ∨ cap = some 0)
  | a, b => b = a ∧ a.nm (fun _ => False)

def toA (σ : Nat → Option Nat) (fz : Nat → Option (List AV)) : AV → AV → Prop
  | _, .any => True
  | .tup [], .tup [] => True
  | .tup (a :: l), .tup (b :: m) => toB σ fz a b ∧ toA σ fz (.tup l) (.tup m)
  | .agg [], .agg [] => True
  | .agg (a :: l), .agg (b :: m) => toB σ fz a b ∧ toA σ fz (.agg l) (.agg m)
  | .fn f [], .fn g [] => g = f
  | .fn f (a :: l), .fn g (b :: m) => toB σ fz a b ∧ toA σ fz (.fn f l) (.fn g m)
  | a, b => toB σ fz a b

/-- Blocks that are frozen have these cells. -/
def FzOK (h : HF) (σ : Nat → Option Nat) (fz : Nat → Option (List AV)) : Prop :=
  ∀ n cs, fz n = some cs → σ n = none ∧ ∃ cs0, h n = some cs0 ∧ cs.length = cs0.length ∧ ∀ (j : Nat) (a b : AV), cs0[j]? = some a → cs[j]? = some b → Sub h σ (fun n => (fz n).isSome) a b

theorem toB_sub {h : HF} {σ : Nat → Option Nat} {fz : Nat → Option (List AV)} (hf : FzOK h σ fz) {a b : AV} (ht : toB σ fz a b) : Sub h σ (fun n => (fz n).isSome) a b := by
  unfold toB at ht
  split at ht
  · obtain ⟨h1, rfl⟩ := ht; exact .ptr h1
  · obtain ⟨h1, rfl⟩ := ht
    obtain ⟨_, cs0, h2, h3, h4⟩ := hf _ _ h1
    exact .ptrf (by rw [h1]; rfl) h2 h3 h4
  · obtain ⟨h1, rfl, rfl, rfl, h2⟩ := ht; exact .osl h1 h2
  · obtain ⟨⟨c, h1, h2, rfl⟩, rfl, h3⟩ := ht
    obtain ⟨_, cs0, h4, h5, h6⟩ := hf _ _ h1
    refine .oslf (by rw [h1]; rfl) h4 (by omega) (by simp; omega) h3 (fun j x y hx hy => h6 _ x y hx ?_)
    rw [List.getElem?_take] at hy
    split at hy
    · rwa [List.getElem?_drop] at hy
    · cases hy
  · obtain ⟨rfl, rfl⟩ := ht; exact .nilo
  · obtain ⟨rfl, rfl, h1⟩ := ht; exact .nilv h1
  · obtain ⟨rfl, h1⟩ := ht; exact .refl _ h1

theorem toA_sub {h : HF} {σ : Nat → Option Nat} {fz : Nat → Option (List AV)} (hf : FzOK h σ fz) : ∀ {a b : AV}, toA σ fz a b → Sub h σ (fun n => (fz n).isSome) a b := by
  have tl : ∀ (l m : List AV), toA σ fz (.tup l) (.tup m) → m.length = l.length ∧ ∀ (j : Nat) (a b : AV), l[j]? = some a → m[j]? = some b → Sub h σ (fun n => (fz n).isSome) a b := by
    intro l
    induction l with
    | nil =>
      intro m hm
      cases m with
      | nil => exact ⟨rfl, by simp⟩
      | cons b m => simp [toA, toB] at hm
    | cons a l ih =>
      intro m hm
      cases m with
      | nil => simp [toA, toB] at hm
      | cons b m =>
        simp only [toA] at hm
        obtain ⟨i1, i2⟩ := ih m hm.2
        refine ⟨by simp [i1], fun j x y hx hy => ?_⟩
        cases j with
        | zero => simp at hx hy; subst hx hy; exact toB_sub hf hm.1
        | succ j => simp at hx hy; exact i2 j x y hx hy
  have ag : ∀ (l m : List AV), toA σ fz (.agg l) (.agg m) → m.length = l.length ∧ ∀ (j : Nat) (a b : AV), l[j]? = some a → m[j]? = some b → Sub h σ (fun n => (fz n).isSome) a b := by
    intro l
    induction l with
    | nil =>
      intro m hm
      cases m with
      | nil => exact ⟨rfl, by simp⟩
      | cons b m => simp [toA, toB] at hm
    | cons a l ih =>
      intro m hm
      cases m with
      | nil => simp [toA, toB] at hm
      | cons b m =>
        simp only [toA] at hm
        obtain ⟨i1, i2⟩ := ih m hm.2
        refine ⟨by simp [i1], fun j x y hx hy => ?_⟩
        cases j with
        | zero => simp at hx hy; subst hx hy; exact toB_sub hf hm.1
        | succ j => simp at hx hy; exact i2 j x y hx hy
  have fl : ∀ (f g : FuncId) (l m : List AV), toA σ fz (.fn f l) (.fn g m) → g = f ∧ m.length = l.length ∧ ∀ (j : Nat) (a b : AV), l[j]? = some a → m[j]? = some b → Sub h σ (fun n => (fz n).isSome) a b := by
    intro f g l
    induction l with
    | nil =>
      intro m hm
      cases m with
      | nil => exact ⟨by simpa [toA] using hm, rfl, by simp⟩
      | cons b m => simp [toA, toB] at hm
    | cons a l ih =>
      intro m hm
      cases m with
      | nil => simp [toA, toB] at hm
      | cons b m =>
        simp only [toA] at hm
        obtain ⟨i0, i1, i2⟩ := ih m hm.2
        refine ⟨i0, by simp [i1], fun j x y hx hy => ?_⟩
        cases j with
        | zero => simp at hx hy; subst hx hy; exact toB_sub hf hm.1
        | succ j => simp at hx hy; exact i2 j x y hx hy
  intro a b ht
  cases b with
  | any => exact .any a
  | tup m =>
    cases a with
    | tup l => obtain ⟨h1, h2⟩ := tl l m ht; exact .tup h1 h2
    | _ => exact toB_sub hf (by simpa [toA] using ht)
  | agg m =>
    cases a with
    | agg l => obtain ⟨h1, h2⟩ := ag l m ht; exact .agg h1 h2
    | _ => exact toB_sub hf (by simpa [toA] using ht)
  | fn g m =>
    cases a with
    | fn f l => obtain ⟨rfl, h1, h2⟩ := fl f g l m ht; exact .fn h1 h2
    | _ => exact toB_sub hf (by simpa [toA] using ht)
  | _ => exact toB_sub hf (by cases a <;> simpa [toA] using ht)

/-- names by a list -/
def look (l : List (Nat × Nat)) (n : Nat) : Option Nat := match l with
  | [] => none
  | (a, b) :: l => if n = a then some b else look l n
def lookF (l : List (Nat × List AV)) (n : Nat) : Option (List AV) := match l with
  | [] => none
  | (a, b) :: l => if n = a then some b else lookF l n

theorem look_mem {l : List (Nat × Nat)} {n m : Nat} (h : look l n = some m) : (n, m) ∈ l := by
  induction l with
  | nil => cases h
  | cons p l ih =>
    obtain ⟨a, b⟩ := p
    simp only [look] at h
    split at h
    · rename_i e; cases h; subst e; simp
    · exact List.mem_cons_of_mem _ (ih h)

theorem look_inj {l : List (Nat × Nat)} (hn : (l.map (·.2)).Nodup) {n n' m : Nat} (h : look l n = some m) (h' : look l n' = some m) : n = n' := by
  induction l with
  | nil => cases h
  | cons p l ih =>
    obtain ⟨a, b⟩ := p
    simp only [List.map_cons, List.nodup_cons] at hn
    simp only [look] at h h'
    split at h <;> split at h'
    · rename_i e e'; rw [e, e']
    · cases h
      exact absurd (List.mem_map_of_mem (look_mem h')) hn.1
    · cases h'
      exact absurd (List.mem_map_of_mem (look_mem h)) hn.1
    · exact ih hn.2 h h'

theorem lookF_mem {l : List (Nat × List AV)} {n : Nat} {m : List AV} (h : lookF l n = some m) : (n, m) ∈ l := by
  induction l with
  | nil => cases h
  | cons p l ih =>
    obtain ⟨a, b⟩ := p
    simp only [lookF] at h
    split at h
    · rename_i e; cases h; subst e; simp
    · exact List.mem_cons_of_mem _ (ih h)

/-- The frozen blocks: flat cells, as they are. -/
def FzL (H : Heap) (ns : List (Nat × Nat)) (fz : List (Nat × List AV)) : Prop := ∀ p ∈ fz, look ns p.1 = none ∧ hget H p.1 = some p.2 ∧ nmL (fun _ => False) p.2

theorem fzL_ok {H : Heap} {ns : List (Nat × Nat)} {fz : List (Nat × List AV)} (h : FzL H ns fz) : FzOK (hget H) (look ns) (lookF fz) := fun n cs hn => by
  obtain ⟨h1, h2, h3⟩ := h (n, cs) (lookF_mem hn)
  exact ⟨h1, cs, h2, rfl, fun j a b ha hb => by rw [ha] at hb; cases hb; exact .refl a (nmL_get h3 ha)⟩

/-- Names: the caller's stay, the own ones go below the bound. -/
def NsOK (R : Nat) (ns : List (Nat × Nat)) (S : Nat → Prop) : Prop := (∀ p ∈ ns, (p.1 < R → p.2 = p.1) ∧ (R ≤ p.1 → R ≤ p.2 ∧ S p.2)) ∧ (ns.map (·.2)).Nodup

theorem rget_to {ρ : RF} {T : AV → AV → Prop} (h0 : ∀ a, T a .any) : ∀ {rs' : List (Nat × AV)}, (∀ p ∈ rs', T (ρ p.1) p.2) → ∀ t, T (ρ t) (rget rs' t)
  | [], _, t => h0 _
  | (d, v) :: l, h, t => by
    simp only [rget]
    split
    · rename_i e; subst e; exact h (t, v) (by simp)
    · exact rget_to h0 (fun p hp => h p (by simp [hp])) t

/-- A shift: registers, names, frozen blocks, the blocks that are kept. -/
theorem shift_to {R : Nat} {rs rs' : List (Nat × AV)} {H H' : Heap} {nx nx' : Nat} (ns : List (Nat × Nat)) (fz : List (Nat × List AV)) (hR : R ≤ nx') (hn : NsOK R ns (· < nx')) (hf : FzL H ns fz)
    (hr : ∀ p ∈ rs', toA (look ns) (lookF fz) (rget rs p.1) p.2)
    (hh : ∀ p ∈ H', ∃ q ∈ ns, q.2 = p.1 ∧ look ns q.1 = some p.1 ∧ ∃ b, hget H q.1 = some b ∧ SubL (hget H) (look ns) (fun n => (lookF fz n).isSome) (b.take p.2.length) p.2) :
    St.shift R ⟨rs, H, nx⟩ ⟨rs', H', nx'⟩ := by
  intro hR0
  have hF := fzL_ok hf
  refine ⟨hR, vs_sub (look ns) (fun n => (lookF fz n).isSome) (fun n m h => hn.1 _ (look_mem h)) (fun n n' m h h' => look_inj hn.2 h h') (fun n h => ?_)
    (fun t => rget_to (T := Sub (hget H) (look ns) fun n => (lookF fz n).isSome) (fun a => .any a) (fun p hp => toA_sub hF (hr p hp)) t) (fun m b' hb => ?_)⟩
  · obtain ⟨cs, hcs⟩ := Option.isSome_iff_exists.1 h
    exact (hF n cs hcs).1
  · obtain ⟨q, _, _, h2, b, h3, h4⟩ := hh (m, b') (hget_mem hb)
    refine ⟨q.1, b, h2, h3, fun j x hj => ?_⟩
    obtain ⟨l1, l2⟩ := SubL.spec h4
    simp only at l1 l2
    have hlt := (List.getElem?_eq_some_iff.1 hj).1
    have : j < (b.take b'.length).length := by omega
    refine ⟨(b.take b'.length)[j], ?_, l2 j _ x (List.getElem?_eq_getElem this) hj⟩
    rw [← List.getElem?_eq_getElem this, List.getElem?_take, if_pos hlt]

/-- Results: names, frozen blocks, the blocks that are handed over. -/
theorem ret_to {P : Program} {R : Nat} {rv : Array ResultVar} {s : St} {v r : AV} {post : Heap} (hv : resA P rv s = some v) (ns : List (Nat × Nat)) (fz : List (Nat × List AV))
    (hn : NsOK R ns (fun n => hget post n ≠ none)) (hf : FzL s.hp ns fz) (hr : toA (look ns) (lookF fz) v r)
    (hh : ∀ p ∈ post, ∃ q ∈ ns, q.2 = p.1 ∧ look ns q.1 = some p.1 ∧ ∃ b, hget s.hp q.1 = some b ∧ SubL (hget s.hp) (look ns) (fun n => (lookF fz n).isSome) (b.take p.2.length) p.2) : RetOK P R rv s r post := by
  have hF := fzL_ok hf
  refine ⟨v, hv, vs_sub (look ns) (fun n => (lookF fz n).isSome) (fun n m h => hn.1 _ (look_mem h)) (fun n n' m h h' => look_inj hn.2 h h') (fun n h => ?_) (fun _ => toA_sub hF hr) (fun m b' hb => ?_)⟩
  · obtain ⟨cs, hcs⟩ := Option.isSome_iff_exists.1 h
    exact (hF n cs hcs).1
  · obtain ⟨q, _, _, h2, b, h3, h4⟩ := hh (m, b') (hget_mem hb)
    refine ⟨q.1, b, h2, h3, fun j x hj => ?_⟩
    obtain ⟨l1, l2⟩ := SubL.spec h4
    simp only at l1 l2
    have hlt := (List.getElem?_eq_some_iff.1 hj).1
    have : j < (b.take b'.length).length := by omega
    refine ⟨(b.take b'.length)[j], ?_, l2 j _ x (List.getElem?_eq_getElem this) hj⟩
    rw [← List.getElem?_eq_getElem this, List.getElem?_take, if_pos hlt]

theorem St.shift.trans {R : Nat} {a b c : St} (h1 : St.shift R a b) (h2 : St.shift R b c) : St.shift R a c := fun hR =>
  ⟨(h2 (h1 hR).1).1, VS.trans (h1 hR).1 (h1 hR).2 (h2 (h1 hR).1).2⟩

/-- A register that holds nil: a slice of an own empty block. -/
theorem shift_nil {R : Nat} {rs : List (Nat × AV)} {H : Heap} {nx : Nat} (t sz : Nat) (ht : rget rs t = .nilsl) : St.shift R ⟨rs, H, nx⟩ ⟨(t, .osl nx 0 0 none sz) :: rs, hset H nx [], nx + 1⟩ := by
  intro hR
  refine ⟨Nat.le_succ_of_le hR, ?_⟩
  have := vs_nil (R := R) (nx := nx) (t0 := t) (ρ := rget rs) (h := hget H) (sz := sz) ht hR
  simp only [hget_hset]
  exact this

def loopQ {ι : Type} (R : Nat) (J : ι → St) (μ : ι → Nat) (i : ι) (Q : AX → St → Prop) : AX → St → Prop := fun x s' => match x with | .normal => ∃ j, μ j < μ i ∧ St.shift R s' (J j) | x => Q x s'
theorem loopQ_normal {ι : Type} (R : Nat) (J : ι → St) (μ : ι → Nat) (i : ι) (Q : AX → St → Prop) (s : St) : loopQ R J μ i Q .normal s = ∃ j, μ j < μ i ∧ St.shift R s (J j) := rfl
theorem loopQ_exit {ι : Type} (R : Nat) (J : ι → St) (μ : ι → Nat) (i : ι) (Q : AX → St → Prop) (k : Nat) (s : St) : loopQ R J μ i Q (.exit k) s = Q (.exit k) s := rfl
theorem loopQ_ret {ι : Type} (R : Nat) (J : ι → St) (μ : ι → Nat) (i : ι) (Q : AX → St → Prop) (s : St) : loopQ R J μ i Q .ret s = Q .ret s := rfl

theorem loop_intro {P : Program} {R : Nat} {b : BC} {Q : AX → St → Prop} {s : St} {ι : Type} (J : ι → St) (μ : ι → Nat) (i0 : ι) (h0 : St.shift R s (J i0)) (hr : ∀ i, awb P R b (loopQ R J μ i Q) (J i)) : loopK P R b Q s :=
  ⟨ι, J, μ, i0, h0, hr⟩

theorem compile_region {nt id : Nat} {ops : Array Oper} {d : Bool} {b : BC} (h : compile nt (.region id ops d) = some b) : ∃ qs U, b = .reg qs U := by
  simp only [compile] at h
  split at h
  case h_2 => cases h
  rename_i qs hq
  by_cases hok : regOk nt ops d (if d then openPairs ops else []) = true
  · rw [if_pos hok] at h; cases h; exact ⟨_, _, rfl⟩
  · rw [if_neg hok] at h; cases h

/-! code with cuts -/
def SB (P : Program) (R nt : Nat) (b : BC) (Q : AX → St → Prop) (s : St) : Prop :=
  ∀ c, compile nt c = some b → ∀ (e : Env) (w : World) (a : Act), SR R nt e w s a → c.wp P (Post R nt e w s Q) a w

section
variable {P : Program} {R nt : Nat} {Q : AX → St → Prop} {s : St}

theorem SB.of (hm : P.follows .mixedOrders = true) {b : BC} (h : awb P R b Q s) : SB P R nt b Q s := fun c hc e w a r => awb_sound hm c b hc Q s h e w a r

theorem SB.shift {b : BC} {s' : St} (hs : St.shift R s s') (h : SB P R nt b Q s') : SB P R nt b Q s := fun c hc e w a r => by
  obtain ⟨e1, r1, st1⟩ := r.shift hs
  exact wp_mono (h c hc e1 w a r1) (fun _ _ _ hp => hp.after st1)

/-- A cut: what holds between two pieces of code. -/
def cutQ {ι : Type} (R : Nat) (J : ι → St) (Q : AX → St → Prop) : AX → St → Prop := fun x s' => match x with | .normal => ∃ j, St.shift R s' (J j) | x => Q x s'
theorem cutQ_normal {ι : Type} (J : ι → St) (s : St) : cutQ R J Q .normal s = ∃ j, St.shift R s (J j) := rfl
theorem cutQ_exit {ι : Type} (J : ι → St) (k : Nat) (s : St) : cutQ R J Q (.exit k) s = Q (.exit k) s := rfl
theorem cutQ_ret {ι : Type} (J : ι → St) (s : St) : cutQ R J Q .ret s = Q .ret s := rfl

theorem SB.seq {a b : BC} {ι : Type} (J : ι → St) (ha : SB P R nt a (cutQ R J Q) s) (hb : ∀ i, SB P R nt b Q (J i)) : SB P R nt (.seq a b) Q s := by
  intro c hc e w act r
  by_cases hreg : ∃ qs U, compile nt c = some (.reg qs U)
  · obtain ⟨_, _, hh⟩ := hreg; rw [hc] at hh; cases hh
  cases c
  case region id ops draw => exact absurd (by obtain ⟨_, _, hh⟩ := compile_region hc; exact ⟨_, _, hh ▸ hc⟩) hreg
  all_goals simp only [compile] at hc
  case seq c1 c2 =>
    split at hc
    case h_2 => cases hc
    rename_i x y hx hy
    cases hc
    refine wp_seq (wp_mono (ha c1 hx e w act r) (fun ex a' w' hp => ?_))
    obtain ⟨e', s', ax, q1, q2, q3, q4⟩ := hp
    cases ex <;> simp only [axOf, Option.some.injEq] at q1 <;> first | cases q1 | subst q1
    · obtain ⟨j, hj⟩ := q2
      obtain ⟨e2, r2, st2⟩ := q3.shift hj
      exact wp_mono (hb j c2 hy e2 w' a' r2) (fun _ _ _ hp => hp.after (q4.trans st2))
    · exact ⟨e', s', _, rfl, q2, q3, q4⟩
    · exact ⟨e', s', _, rfl, q2, q3, q4⟩
  case cond => split at hc <;> cases hc
  all_goals first | (rw [Option.map_eq_some_iff] at hc; obtain ⟨_, _, hc⟩ := hc; cases hc) | cases hc

theorem SB.seq1 {a b : BC} (ha : SB P R nt a (fun x s' => match x with | .normal => SB P R nt b Q s' | x => Q x s') s) : SB P R nt (.seq a b) Q s := by
  intro c hc e w act r
  by_cases hreg : ∃ qs U, compile nt c = some (.reg qs U)
  · obtain ⟨_, _, hh⟩ := hreg; rw [hc] at hh; cases hh
  cases c
  case region id ops draw => exact absurd (by obtain ⟨_, _, hh⟩ := compile_region hc; exact ⟨_, _, hh ▸ hc⟩) hreg
  all_goals simp only [compile] at hc
  case seq c1 c2 =>
    split at hc
    case h_2 => cases hc
    rename_i x y hx hy
    cases hc
    refine wp_seq (wp_mono (ha c1 hx e w act r) (fun ex a' w' hp => ?_))
    obtain ⟨e', s', ax, q1, q2, q3, q4⟩ := hp
    cases ex <;> simp only [axOf, Option.some.injEq] at q1 <;> first | cases q1 | subst q1
    · exact wp_mono (q2 c2 hy e' w' a' q3) (fun _ _ _ hp => hp.after q4)
    · exact ⟨e', s', _, rfl, q2, q3, q4⟩
    · exact ⟨e', s', _, rfl, q2, q3, q4⟩
  case cond => split at hc <;> cases hc
  all_goals first | (rw [Option.map_eq_some_iff] at hc; obtain ⟨_, _, hc⟩ := hc; cases hc) | cases hc

theorem SB.block {id : Nat} {b : BC} (h : SB P R nt b (blockK id Q) s) : SB P R nt (.block id b) Q s := by
  intro c hc e w act r
  by_cases hreg : ∃ qs U, compile nt c = some (.reg qs U)
  · obtain ⟨_, _, hh⟩ := hreg; rw [hc] at hh; cases hh
  cases c
  case region id ops draw => exact absurd (by obtain ⟨_, _, hh⟩ := compile_region hc; exact ⟨_, _, hh ▸ hc⟩) hreg
  all_goals simp only [compile] at hc
  case block id' c =>
    rw [Option.map_eq_some_iff] at hc
    obtain ⟨x, hx, hc⟩ := hc
    cases hc
    refine wp_block (wp_mono (h c hx e w act r) (fun ex a' w' hp => ?_))
    obtain ⟨e', s', ax, q1, q2, q3, q4⟩ := hp
    cases ex <;> simp only [axOf, Option.some.injEq] at q1 <;> first | cases q1 | subst q1
    · exact ⟨e', s', _, rfl, q2, q3, q4⟩
    · simp only [Exit.inBlock]
      simp only [blockK] at q2
      split
      · rename_i hid
        rw [if_pos hid] at q2
        exact ⟨e', s', _, rfl, q2, q3, q4⟩
      · rename_i hid
        rw [if_neg hid] at q2
        exact ⟨e', s', _, rfl, q2, q3, q4⟩
    · exact ⟨e', s', _, rfl, q2, q3, q4⟩
  case cond => split at hc <;> cases hc
  case seq => split at hc <;> cases hc
  all_goals first | (rw [Option.map_eq_some_iff] at hc; obtain ⟨_, _, hc⟩ := hc; cases hc) | cases hc

theorem SB.loop {b : BC} {ι : Type} (J : ι → St) (μ : ι → Nat) (i0 : ι) (h0 : St.shift R s (J i0)) (hr : ∀ i, SB P R nt b (loopQ R J μ i Q) (J i)) : SB P R nt (.loop b) Q s := by
  intro c hc e w act r
  by_cases hreg : ∃ qs U, compile nt c = some (.reg qs U)
  · obtain ⟨_, _, hh⟩ := hreg; rw [hc] at hh; cases hh
  cases c
  case region id ops draw => exact absurd (by obtain ⟨_, _, hh⟩ := compile_region hc; exact ⟨_, _, hh ▸ hc⟩) hreg
  all_goals simp only [compile] at hc
  case loop c =>
    rw [Option.map_eq_some_iff] at hc
    obtain ⟨x, hx, hc⟩ := hc
    cases hc
    obtain ⟨e1, r1, st1⟩ := r.shift h0
    refine wp_loop_ghost (fun i a' w' => ∃ e', SR R nt e' w' (J i) a' ∧ Step e w (hget s.hp) e' w' (hget (J i).hp) R) μ ?_ (i0 := i0) ⟨e1, r1, st1⟩
    rintro i a' w' ⟨e2, r2, st2⟩
    refine wp_mono (hr i c hx e2 w' a' r2) (fun ex a'' w'' hp => ?_)
    obtain ⟨e3, s3, ax, q1, q2, q3, q4⟩ := hp.after st2
    cases ex <;> simp only [axOf, Option.some.injEq] at q1 <;> first | cases q1 | subst q1
    · obtain ⟨j, hj, hsh⟩ := q2
      obtain ⟨e4, r4, st4⟩ := q3.shift hsh
      exact ⟨j, ⟨e4, r4, q4.trans st4⟩, hj⟩
    · exact ⟨e3, s3, _, rfl, q2, q3, q4⟩
    · exact ⟨e3, s3, _, rfl, q2, q3, q4⟩
  case cond => split at hc <;> cases hc
  case seq => split at hc <;> cases hc
  all_goals first | (rw [Option.map_eq_some_iff] at hc; obtain ⟨_, _, hc⟩ := hc; cases hc) | cases hc
end

/-- A contract from the code, with cuts. -/
theorem spec_cut {P : Program} {R made : Nat} {f : FuncId} {fn : Func} {b : BC} {args : List AV} {pre post : Heap} {r : AV} (hf : P.funcs[f]? = some fn)
    (hc : fn.body.bind (compile fn.ntmps) = some b) (hcall : ∀ vs w, (callFunc f vs).run P w = .ok (.enter f vs) w) (hpost : ∀ p ∈ post, p.1 < R + made) (hlen : args.length ≤ fn.ntmps)
    (h : SB P R fn.ntmps b (retK P R fn.results r post) ⟨argRegs 0 args, pre, R⟩) : Spec P R made f args pre r post := by
  refine ⟨hcall, hpost, fun e w vs hl hv H hβ => ?_⟩
  rw [Option.bind_eq_some_iff] at hc
  obtain ⟨c, hb, hc⟩ := hc
  refine calls_of_wp hf hb ?_
  have hsr : SR R fn.ntmps e w ⟨argRegs 0 args, pre, R⟩ { tmps := vs ++ Array.replicate (fn.ntmps - vs.size) undef, defers := [] } := by
    refine ⟨⟨rfl, by simp; omega, fun t => ?_, H⟩, hβ, Nat.le_refl _⟩
    rw [rget_argRegs]
    simp only [Nat.zero_le, if_true, Nat.sub_zero]
    cases ht : args[t]? with
    | none => exact .any _
    | some a =>
      have hlt : t < vs.size := by rw [hl]; exact (List.getElem?_eq_some_iff.1 ht).1
      have : (vs ++ Array.replicate (fn.ntmps - vs.size) undef).getD t undef = vs[t] := by
        rw [Array.getD_eq_getD_getElem?, Array.getElem?_append_left hlt, Array.getElem?_eq_getElem hlt]; rfl
      rw [this]
      exact hv t a _ ht (Array.getElem?_eq_getElem hlt)
  refine wp_mono (h c hc e w _ hsr) (fun x a' w' hp => ?_)
  obtain ⟨e', s', ax, q1, ⟨q2, rv, q3, q4⟩, q5, q6⟩ := hp
  obtain ⟨v, g1, g2⟩ := run_results q3 q5.rr
  obtain ⟨e2, k1, k2, k3, k4⟩ := q4 e' w' (fun _ => v) (fun _ => g2) q5.rr.heap q5.fresh
  have fin : a'.defers = [] ∧ ∃ v, (results fn a'.tmps).run P w' = .ok v w' ∧ ∃ v1 e1, Ending.returned v = .returned v1 ∧ VR e1 w' r v1 ∧ HR e1 w' (hget post) ∧ Step e w (hget pre) e1 w' (hget post) R ∧ (∀ n, R ≤ n → hget post n = none → e1.β n = none) :=
    ⟨q5.rr.defers, v, g1, v, e2, rfl, k1 0, k2, q6.trans k3, fun n hn hq => k4 n hn (fun hh => hh hq)⟩
  cases x <;> simp only [axOf] at q1 <;> cases q1
  · exact fin
  · rcases q2 with q2 | q2 <;> cases q2
  · exact fin

attribute [simp] loopQ_normal loopQ_exit loopQ_ret cutQ_normal cutQ_exit cutQ_ret
end Go.Av
