/- Contracts of functions, and calls as steps of a region. -/
import Derived.Test.YtojbfpfkkcdlhaaGreatAv10
namespace Go.Av
set_option linter.unusedVariables false
set_option linter.unusedSimpArgs false

/-! the names of a value -/
mutual
def AV.nm (S : Nat → Prop) : AV → Prop
  | .ptr n _ => S n
  | .osl n _ _ _ _ => S n
  | .iptr cs _ => nmL S cs
  | .vsl cs _ _ => nmL S cs
  | .agg cs => nmL S cs
  | .tup cs => nmL S cs
  | .fn _ cs => nmL S cs
  | _ => True
def nmL (S : Nat → Prop) : List AV → Prop
  | [] => True
  | a :: l => a.nm S ∧ nmL S l
end

theorem nmL_iff {S : Nat → Prop} {l : List AV} : nmL S l ↔ ∀ a ∈ l, a.nm S := by
  induction l with
  | nil => simp [nmL]
  | cons a l ih => simp [nmL, ih]

theorem nmL_get {S : Nat → Prop} {l : List AV} (h : nmL S l) {j : Nat} {a : AV} (hj : l[j]? = some a) : a.nm S := nmL_iff.1 h a (List.mem_of_getElem? hj)

open Classical in
noncomputable def Env.cut (e : Env) (S : Nat → Prop) : Env := { e with β := fun n => if S n then e.β n else none }

theorem cut_in {e : Env} {S : Nat → Prop} {n : Nat} (h : S n) : (e.cut S).β n = e.β n := by simp [Env.cut, h]
theorem cut_out {e : Env} {S : Nat → Prop} {n : Nat} (h : ¬ S n) : (e.cut S).β n = none := by simp [Env.cut, h]
@[simp] theorem cut_I (e : Env) (S : Nat → Prop) : (e.cut S).I = e.I := rfl
theorem cut_some {e : Env} {S : Nat → Prop} {n : Nat} {p : Nat × Nat} (h : (e.cut S).β n = some p) : S n ∧ e.β n = some p := by
  by_cases hs : S n
  · rw [cut_in hs] at h; exact ⟨hs, h⟩
  · rw [cut_out hs] at h; cases h

theorem VR.cut {e : Env} {w : World} {S : Nat → Prop} {a : AV} {v : Value} (h : VR e w a v) : a.nm S → VR (e.cut S) w a v := by
  induction h with
  | any v => intro _; exact .any v
  | int k n => intro _; exact .int k n
  | bool b => intro _; exact .bool b
  | anyb b => intro _; exact .anyb b
  | str s => intro _; exact .str s
  | nilsl => intro _; exact .nilsl
  | nilptr => intro _; exact .nilptr
  | nilfn => intro _; exact .nilfn
  | nilif => intro _; exact .nilif
  | ptr hb => intro hn; simp only [AV.nm] at hn; exact .ptr ((cut_in hn).trans hb)
  | iptr vs hI hc _ ih => intro hn; simp only [AV.nm] at hn; exact .iptr vs hI hc (fun j c hj => ih j c hj (nmL_get hn hj))
  | osl hb hlen hcap room => intro hn; simp only [AV.nm] at hn; exact .osl ((cut_in hn).trans hb) hlen hcap room
  | oslz a hcap => intro _; exact .oslz a hcap
  | vsl vs hI hlen hcap hc _ ih => intro hn; simp only [AV.nm] at hn; exact .vsl vs hI hlen hcap hc (fun j c hj => ih j c hj (nmL_get hn hj))
  | vslz a hcap => intro _; exact .vslz a hcap
  | agg hl h1 _ ih => intro hn; simp only [AV.nm] at hn; exact .agg hl h1 (fun j c v hj hv => ih j c v hj hv (nmL_get hn hj))
  | tup hl _ ih => intro hn; simp only [AV.nm] at hn; exact .tup hl (fun j c v hj hv => ih j c v hj hv (nmL_get hn hj))
  | fn hl _ ih => intro hn; simp only [AV.nm] at hn; exact .fn hl (fun j c v hj hv => ih j c v hj hv (nmL_get hn hj))

theorem HR.cut {e : Env} {w : World} {h : HF} {S : Nat → Prop} (H : HR e w h) (hs : ∀ n cs, h n = some cs → S n ∧ nmL S cs) : HR (e.cut S) w h := by
  refine ⟨fun n cs hn => ?_, fun n m b s t hn hm h1 h2 => H.inj n m b s t hn hm (cut_some h1).2 (cut_some h2).2, H.Ib⟩
  obtain ⟨h1, h2⟩ := hs n cs hn
  rcases H.blk n cs hn with ⟨q1, q2⟩ | ⟨b, s, cells, el, q1, q2, q3, q4⟩
  · exact .inl ⟨(cut_in h1).trans q1, q2⟩
  · refine .inr ⟨b, s, cells, el, (cut_in h1).trans q1, q2, q3, fun j a hj => ?_⟩
    obtain ⟨v, r1, r2, r3⟩ := q4 j a hj
    exact ⟨v, r1, r2, r3.cut (nmL_get h2 hj)⟩

/-! heaps as lists -/
abbrev Heap := List (Nat × Blk)
def hget : Heap → HF
  | [], _ => none
  | (m, b) :: l, n => if n = m then some b else hget l n

theorem hget_mem {H : Heap} {n : Nat} {b : Blk} (h : hget H n = some b) : (n, b) ∈ H := by
  induction H with
  | nil => cases h
  | cons p H ih =>
    obtain ⟨m, c⟩ := p
    simp only [hget] at h
    split at h
    · rename_i e; cases h; subst e; simp
    · exact List.mem_cons_of_mem _ (ih h)

theorem hget_none {H : Heap} {n : Nat} : hget H n = none ↔ n ∉ H.map (·.1) := by
  induction H with
  | nil => simp [hget]
  | cons p H ih =>
    obtain ⟨m, c⟩ := p
    simp only [hget, List.map_cons, List.mem_cons, not_or]
    by_cases h : n = m
    · simp [h]
    · simp [h, ih]

/-- The contract of a function: called with these values over these blocks it returns this value and leaves these blocks. -/
def Spec (P : Program) (R made : Nat) (f : FuncId) (args : List AV) (pre : Heap) (r : AV) (post : Heap) : Prop :=
  (∀ vs w, (callFunc f vs).run P w = .ok (.enter f vs) w) ∧ (∀ p ∈ post, p.1 < R + made) ∧
  ∀ (e : Env) (w : World) (vs : Array Value), vs.size = args.length → (∀ (j : Nat) (a : AV) (v : Value), args[j]? = some a → vs[j]? = some v → VR e w a v) → HR e w (hget pre) →
    (∀ n, R ≤ n → e.β n = none) →
    Calls P f vs w fun en w' => ∃ v e', en = .returned v ∧ VR e' w' r v ∧ HR e' w' (hget post) ∧ Step e w (hget pre) e' w' (hget post) R ∧ (∀ n, R ≤ n → hget post n = none → e'.β n = none)

/-- The registers that an operation looks at. -/
def tmpsOf (ops : Array Oper) (o : Oper) : List Nat :=
  (o.op.operands.toList.filterMap fun | .tmp t => some t | _ => none) ++
  (match o.guard with
   | some (j, _) => ((ops[j]?).bind (·.dst)).toList
   | none => [])

def insOf (ops : Array Oper) (o : Oper) (ρ : RF) : List (Nat × AV) := (tmpsOf ops o).map fun t => (t, ρ t)

/-- Is the operation wanted? -/
def wants (ops : Array Oper) (o : Oper) (ρ : RF) : Option Bool :=
  match o.guard with
  | none => some true
  | some (j, b) =>
    match (ops[j]?).bind (·.dst) with
    | some d => match ρ d with | .bool t => some (decide (t = b)) | .tup [] => some false | _ => none
    | none => none

theorem wants_spec {ops : Array Oper} {o : Oper} {ρ : RF} {t : Bool} (h : wants ops o ρ = some t) {e : Env} {w : World} {a : Act} (hi : ∀ p ∈ insOf ops o ρ, VR e w p.2 (a.tmps.getD p.1 undef)) :
    Region.wanted o (yielded ops a.tmps) = t := by
  unfold wants at h
  unfold Region.wanted
  cases hg : o.guard with
  | none => rw [hg] at h; cases h; rfl
  | some p =>
    obtain ⟨j, b⟩ := p
    rw [hg] at h
    simp only at h ⊢
    cases hd : (ops[j]?).bind (·.dst) with
    | none => rw [hd] at h; cases h
    | some d =>
      rw [hd] at h
      simp only at h
      have hmem : (d, ρ d) ∈ insOf ops o ρ := by
        unfold insOf tmpsOf
        rw [hg]
        simp only [hd]
        simp
      have hv := hi _ hmem
      simp only at hv
      split at h
      · rename_i t' ht
        cases h
        rw [ht] at hv
        have hval : a.tmps[d]? = some (.bool t') := by
          rw [Array.getD_eq_getD_getElem?] at hv
          cases hq : a.tmps[d]? with
          | none => rw [hq] at hv; simp at hv; cases hv
          | some x => rw [hq] at hv; simp at hv; cases hv; rfl
        unfold yielded
        rw [hd]
        simp only [Option.bind_some, hval]
        cases t' <;> cases b <;> rfl
      · rename_i ht
        cases h
        rw [ht] at hv
        unfold yielded
        rw [hd]
        simp only [Option.bind_some]
        rw [Array.getD_eq_getD_getElem?] at hv
        cases hq : a.tmps[d]? with
        | none => rfl
        | some x => rw [hq] at hv; simp at hv; cases hv; rfl
      · cases h

/-- An operation that is left out. -/
theorem gs_skip {P : Program} {ops : Array Oper} {i : Nat} {o : Oper} (ho : ops[i]? = some o) {ρ : RF} (hw : wants ops o ρ = some false) (nx : Nat) :
    GS.ok P ops i { dst := o.dst, ins := insOf ops o ρ, v := .tup [], req := [], ups := [], nx := nx, made := 0 } := by
  intro e w a h hi hdef H hreq hβ Q K hK
  unfold wpOp
  rw [ho]
  simp only
  rw [wants_spec hw hi]
  simp only [Bool.false_eq_true, if_false]
  exact hK e w undef (.tup (by simp [undef]) (by simp)) (Out.refl H nx)

/-- The value of an operand over these registers alone. -/
theorem ev_rel {ops : Array Oper} {o : Oper} {ρ : RF} {e : Env} {w : World} {a : Act} (hi : ∀ p ∈ insOf ops o ρ, VR e w p.2 (a.tmps.getD p.1 undef)) :
    ∃ ρ' : RF, (∀ x ∈ o.op.operands, oev ρ' x = oev ρ x) ∧ ∀ x, VR e w (oev ρ' x) (a.eval x) := by
  refine ⟨fun t => if t ∈ tmpsOf ops o then ρ t else .any, fun x hx => ?_, fun x => ?_⟩
  · cases x with
    | tmp t =>
      have : t ∈ tmpsOf ops o := by
        unfold tmpsOf
        rw [List.mem_append, List.mem_filterMap]
        exact .inl ⟨.tmp t, by simpa using hx, rfl⟩
      simp [oev, this]
    | _ => rfl
  · cases x with
    | tmp t =>
      simp only [oev, Act.eval]
      split
      · rename_i ht
        exact hi (t, ρ t) (by unfold insOf; rw [List.mem_map]; exact ⟨t, ht, rfl⟩)
      · exact .any _
    | const v => exact ofV_rel e w v
    | global g => exact .any _
    | func f => exact .fn (by simp) (fun j c v hj _ => by simp at hj)

theorem gs_op {P : Program} {ops : Array Oper} {i : Nat} {o : Oper} (ho : ops[i]? = some o) {ρ : RF} (hw : wants ops o ρ = some true) {nx : Nat} {h0 : HF} {L : LR} (hL : opA P h0 nx (oev ρ) o.op = some L) :
    GS.ok P ops i { dst := o.dst, ins := insOf ops o ρ, v := L.v, req := L.req, ups := L.ups, nx := nx, made := L.made } := by
  intro e w a h hi hdef H hreq hβ Q K hK
  unfold wpOp
  rw [ho]
  simp only
  rw [wants_spec hw hi, if_pos rfl]
  left
  obtain ⟨ρ', h1, h2⟩ := ev_rel hi
  have hL' : opA P h0 nx (oev ρ') o.op = some L := by rw [← hL]; exact opA_congr h1
  obtain ⟨nxt, w', e', v, r1, r2, r3, r4⟩ := opA_ok hL' h2 H hreq hβ
  unfold Oper.wp
  rw [r1]
  rcases r2 with rfl | ⟨rfl, rfl⟩
  · exact hK e' w' v r3 r4
  · exact hK e' w' undef r3 r4

/-! calls -/
def callUps (pre post : Heap) : List (Nat × Option Blk) := (pre ++ post).map fun p => (p.1, hget post p.1)

theorem updL_in (h : HF) (l : List (Nat × Option Blk)) (n : Nat) (b : Option Blk) (hn : n ∈ l.map (·.1)) (hb : ∀ p ∈ l, p.1 = n → p.2 = b) : updL h l n = b := by
  induction l generalizing h with
  | nil => simp at hn
  | cons p l ih =>
    obtain ⟨m, c⟩ := p
    simp only [updL]
    by_cases hl : n ∈ l.map (·.1)
    · exact ih _ hl (fun p hp => hb p (by simp [hp]))
    · rw [updL_other _ _ _ hl]
      simp only [List.map_cons, List.mem_cons] at hn
      rcases hn with rfl | hn
      · simp only [upd_same]; exact hb (n, c) (by simp) rfl
      · exact absurd hn hl

theorem callUps_get (h : HF) (pre post : Heap) (n : Nat) : updL h (callUps pre post) n = if n ∈ (pre ++ post).map (·.1) then hget post n else h n := by
  have hm : (callUps pre post).map (·.1) = (pre ++ post).map (·.1) := by simp [callUps, Function.comp_def]
  split
  · rename_i hn
    refine updL_in h _ n _ (by rw [hm]; exact hn) (fun p hp he => ?_)
    unfold callUps at hp
    rw [List.mem_map] at hp
    obtain ⟨q, _, rfl⟩ := hp
    simp only at he ⊢
    rw [he]
  · rename_i hn
    exact updL_other h _ n (by rw [hm]; exact hn)

theorem gs_call {P : Program} {ops : Array Oper} {i : Nat} {o : Oper} (ho : ops[i]? = some o) {ρ : RF} (hw : wants ops o ρ = some true) {f : Operand} {args : Array Operand} {ts : Array TypeId}
    (hop : o.op = .call { callee := .value f, args := args, argTypes := ts }) {nx made fid : Nat} {caps : List AV} (hf : oev ρ f = .fn fid caps) {pre post : Heap} {r : AV}
    (hs : Spec P nx made fid (args.toList.map (oev ρ) ++ caps) pre r post)
    (hn1 : nmL (· < nx) (args.toList.map (oev ρ) ++ caps)) (hn2 : ∀ p ∈ pre, p.1 < nx ∧ nmL (· < nx) p.2) (hn3 : ∀ p ∈ post, p.1 < nx → p.1 ∈ pre.map (·.1)) :
    GS.ok P ops i { dst := o.dst, ins := insOf ops o ρ, v := r, req := pre, ups := callUps pre post, nx := nx, made := made } := by
  intro e w a h hi hdef H hreq hβ Q K hK
  unfold wpOp
  rw [ho]
  simp only
  rw [wants_spec hw hi, if_pos rfl]
  left
  obtain ⟨ρ', h1, h2⟩ := ev_rel hi
  have hfr := h2 f
  rw [h1 f (by rw [hop]; simp [Op.operands, Call.operands]), hf] at hfr
  obtain ⟨vs, hev, hvl, hvr⟩ : ∃ vs : Array Value, a.eval f = .func (.func fid) #[] vs ∧ vs.size = caps.length ∧ ∀ (j : Nat) (c : AV) (v : Value), caps[j]? = some c → vs[j]? = some v → VR e w c v := by
    generalize hq : a.eval f = x at hfr
    cases hfr with
    | fn hl hv => exact ⟨_, rfl, hl, hv⟩
  obtain ⟨hcall, hpost, hspec⟩ := hs
  have hmemreq : ∀ n b, hget pre n = some b → h n = some b ∧ n < nx ∧ nmL (· < nx) b := fun n b hb => by
    have hm := hget_mem hb
    exact ⟨hreq (n, b) hm, (hn2 (n, b) hm).1, (hn2 (n, b) hm).2⟩
  have Hpre : HR (e.cut (· < nx)) w (hget pre) := (H.drop (fun n b hb => (hmemreq n b hb).1)).cut (fun n b hb => (hmemreq n b hb).2)
  have hargs : ∀ (j : Nat) (c : AV) (v : Value), (args.toList.map (oev ρ) ++ caps)[j]? = some c → (args.map a.eval ++ vs)[j]? = some v → VR (e.cut (· < nx)) w c v := fun j c v hc hv => by
    refine VR.cut ?_ (nmL_get hn1 hc)
    by_cases hj : j < args.size
    · rw [List.getElem?_append_left (by simpa using hj)] at hc
      rw [Array.getElem?_append_left (by simpa using hj)] at hv
      simp only [List.getElem?_map, Array.getElem?_toList, Option.map_eq_some_iff] at hc
      simp only [Array.getElem?_map, Option.map_eq_some_iff] at hv
      obtain ⟨x, hx, rfl⟩ := hc
      obtain ⟨y, hy, rfl⟩ := hv
      rw [hx] at hy
      cases hy
      rw [← h1 x (by rw [hop]; simp only [Op.operands, Call.operands, Array.mem_append]; exact .inr (Array.mem_of_getElem? hx))]
      exact h2 x
    · rw [List.getElem?_append_right (by simp; omega)] at hc
      rw [Array.getElem?_append_right (by simp; omega)] at hv
      simp only [List.length_map, Array.length_toList, Array.size_map] at hc hv
      exact hvr _ c v hc hv
  have hc := hspec (e.cut (· < nx)) w (args.map a.eval ++ vs) (by simp [hvl]) hargs Hpre (fun n hn => cut_out (by omega))
  have hrun : (execOp a.eval o).run P w = .ok (.enter fid (args.map a.eval ++ vs)) w := by
    simp only [execOp, hop, resolve, hev, Deferred.ofValue, Sem.run_bind, Sem.run_pure, Result.andThen_ok, invoke, Array.empty_append, hcall]
  unfold Oper.wp
  rw [hrun, Oper.upon_enter]
  refine hc.mono ?_
  rintro en w' ⟨v, e', rfl, hrv, Hpost, st, hfresh⟩
  simp only
  -- the caller's names and the callee's
  let e2 : Env := { β := fun n => if nx ≤ n ∧ hget post n ≠ none then e'.β n else e.β n, I := e'.I }
  have b1 : ∀ n, n < nx → e'.β n = e.β n := fun n hn => by rw [st.β n hn]; exact cut_in hn
  have b2 : ∀ n p, e'.β n = some p → e2.β n = some p := fun n p hp => by
    show (if nx ≤ n ∧ hget post n ≠ none then e'.β n else e.β n) = some p
    by_cases hn : nx ≤ n
    · by_cases hq : hget post n = none
      · rw [hfresh n hn hq] at hp; cases hp
      · rw [if_pos ⟨hn, hq⟩]; exact hp
    · rw [if_neg (fun hh => hn hh.1)]
      rw [← b1 n (by omega)]; exact hp
  have b3 : ∀ n, hget post n ≠ none → e2.β n = e'.β n := fun n hq => by
    show (if nx ≤ n ∧ hget post n ≠ none then e'.β n else e.β n) = _
    by_cases hn : nx ≤ n
    · rw [if_pos ⟨hn, hq⟩]
    · rw [if_neg (fun hh => hn hh.1)]; exact (b1 n (by omega)).symm
  have b4 : ∀ n, (nx ≤ n → hget post n = none) → e2.β n = e.β n := fun n hq => by
    show (if nx ≤ n ∧ hget post n ≠ none then e'.β n else e.β n) = _
    rw [if_neg (fun hh => hh.2 (hq hh.1))]
  have x1 : Ext e' w' e2 w' := ⟨b2, fun _ hI => hI, fun _ _ => rfl, fun _ cs _ _ hcs => ⟨cs, hcs, rfl⟩⟩
  have own0 : ∀ b, Owns (e.cut (· < nx)) (hget pre) b → Owns e h b := fun b hb => by
    obtain ⟨n, s, hn, hbn⟩ := hb
    obtain ⟨q1, q2⟩ := cut_some hbn
    refine ⟨n, s, ?_, q2⟩
    cases hq : hget pre n with
    | none => exact absurd hq hn
    | some c => rw [(hmemreq n c hq).1]; simp
  have postlt : ∀ n, hget post n ≠ none → n < nx + made := fun n hn => by
    cases hq : hget post n with
    | none => exact absurd hq hn
    | some c => exact hpost (n, c) (hget_mem hq)
  have x0 : Ext e w e2 w' := by
    refine ⟨fun n p hp => ?_, st.I, fun b hb => st.keep b (H.Ib b hb) (fun ho => H.notI (own0 b ho) hb), st.shape⟩
    by_cases hq : nx ≤ n → hget post n = none
    · rw [b4 n hq]; exact hp
    · simp only [Classical.not_imp] at hq
      have := hβ n hq.1 (postlt n hq.2)
      rw [this] at hp; cases hp
  -- blocks that the callee did not get
  have other : ∀ n, n ∉ (pre ++ post).map (·.1) → h n ≠ none → ∀ b s, e.β n = some (b, s) → ¬ Owns (e.cut (· < nx)) (hget pre) b ∧ b < w.heap.size := fun n hn hh b s hb => by
    refine ⟨fun ⟨m, t, hm, hbm⟩ => ?_, H.lt ⟨n, s, hh, hb⟩⟩
    have hm' : h m ≠ none := by
      cases hq : hget pre m with
      | none => exact absurd hq hm
      | some c => rw [(hmemreq m c hq).1]; simp
    have := H.inj n m b s t hh hm' hb (cut_some hbm).2
    subst this
    refine hn ?_
    rw [List.map_append, List.mem_append]
    cases hq : hget pre n with
    | none => exact absurd hq hm
    | some c => exact .inl (List.mem_map_of_mem (hget_mem hq))
  have notpost : ∀ n, n ∉ (pre ++ post).map (·.1) → hget post n = none := fun n hn => by
    rw [hget_none]; intro hh; exact hn (by rw [List.map_append, List.mem_append]; exact .inr hh)
  refine hK e2 w' v (hrv.mono x1) ⟨⟨fun n cs hn => ?_, fun n m b s t hn hm hb1 hb2 => ?_, Hpost.Ib⟩, ⟨st.size, fun b hb ho => st.keep b hb (fun hh => ho (own0 b hh)), st.shape, fun n (hn : n < nx) => b4 n (fun hh => absurd hh (by omega)), st.I, fun b hb => ?_, fun b hb => ?_, st.still⟩, x0, fun n (hn : n < nx ∨ nx + made ≤ n) => ?_⟩
  · rw [callUps_get] at hn
    split at hn
    · have hq : hget post n ≠ none := by rw [hn]; simp
      rcases Hpost.blk n cs hn with ⟨q1, q2⟩ | ⟨b, s, cells, el, q1, q2, q3, q4⟩
      · exact .inl ⟨(b3 n hq).trans q1, q2⟩
      · refine .inr ⟨b, s, cells, el, (b3 n hq).trans q1, q2, q3, fun j a hj => ?_⟩
        obtain ⟨v, r1, r2, r3⟩ := q4 j a hj
        exact ⟨v, r1, r2, r3.mono x1⟩
    · rename_i hnn
      have hh : h n ≠ none := by rw [hn]; simp
      refine (H.blk n cs hn).keep x0 (b4 n (fun _ => notpost n hnn)) (fun b s hb hI => ?_) (fun b s hb => ?_)
      · obtain ⟨o1, o2⟩ := other n hnn hh b s hb
        intro hI'
        rcases st.Inew b hI' with q | q | q
        · exact hI q
        · exact o1 q
        · omega
      · obtain ⟨o1, o2⟩ := other n hnn hh b s hb
        exact st.keep b o2 o1
  · rw [callUps_get] at hn hm
    have new : ∀ k b s, hget post k ≠ none → e2.β k = some (b, s) → Owns (e.cut (· < nx)) (hget pre) b ∨ w.heap.size ≤ b := fun k b s hk hb => st.own b ⟨k, s, hk, by rw [← b3 k hk]; exact hb⟩
    by_cases c1 : n ∈ (pre ++ post).map (·.1) <;> by_cases c2 : m ∈ (pre ++ post).map (·.1)
    · rw [if_pos c1] at hn
      rw [if_pos c2] at hm
      exact Hpost.inj n m b s t hn hm (by rw [← b3 n hn]; exact hb1) (by rw [← b3 m hm]; exact hb2)
    · rw [if_pos c1] at hn
      rw [if_neg c2] at hm
      rw [b4 m (fun _ => notpost m c2)] at hb2
      obtain ⟨o1, o2⟩ := other m c2 hm b t hb2
      rcases new n b s hn hb1 with q | q
      · exact absurd q o1
      · omega
    · rw [if_neg c1] at hn
      rw [if_pos c2] at hm
      rw [b4 n (fun _ => notpost n c1)] at hb1
      obtain ⟨o1, o2⟩ := other n c1 hn b s hb1
      rcases new m b t hm hb2 with q | q
      · exact absurd q o1
      · omega
    · rw [if_neg c1] at hn
      rw [if_neg c2] at hm
      rw [b4 n (fun _ => notpost n c1)] at hb1
      rw [b4 m (fun _ => notpost m c2)] at hb2
      exact H.inj n m b s t hn hm hb1 hb2
  · rcases st.Inew b hb with q | q | q
    · exact .inl q
    · exact .inr (.inl (own0 b q))
    · exact .inr (.inr q)
  · obtain ⟨n, s, hn, hbn⟩ := hb
    rw [callUps_get] at hn
    by_cases c1 : n ∈ (pre ++ post).map (·.1)
    · rw [if_pos c1] at hn
      rcases st.own b ⟨n, s, hn, by rw [← b3 n hn]; exact hbn⟩ with q | q
      · exact .inl (own0 b q)
      · exact .inr q
    · rw [if_neg c1] at hn
      rw [b4 n (fun _ => notpost n c1)] at hbn
      exact .inl ⟨n, s, hn, hbn⟩
  · refine b4 n (fun hh => ?_)
    cases hq : hget post n with
    | none => rfl
    | some c => have := postlt n (by rw [hq]; simp); omega

end Go.Av
