/- Code: the predicate transformer on abstract states. -/
import Derived.Test.YtojbfpfkkcdlhaaGreatAv11
namespace Go.Av
set_option linter.unusedVariables false
set_option linter.unusedSimpArgs false

structure St where
  rs : List (Nat × AV)
  hp : Heap
  nx : Nat

def rget : List (Nat × AV) → RF
  | [], _ => .any
  | (d, v) :: l, t => if t = d then v else rget l t

def rput (rs : List (Nat × AV)) (d : Option Nat) (v : AV) : List (Nat × AV) := match d with
  | none => rs
  | some d => (d, v) :: rs

theorem rget_rput (rs : List (Nat × AV)) (d : Option Nat) (v : AV) : rget (rput rs d v) = rset (rget rs) d v := by
  cases d <;> rfl

def hset : Heap → Nat → Blk → Heap
  | [], n, b => [(n, b)]
  | (m, c) :: l, n, b => if n = m then (m, b) :: l else (m, c) :: hset l n b

def hdel : Heap → Nat → Heap
  | [], _ => []
  | (m, c) :: l, n => if n = m then hdel l n else (m, c) :: hdel l n

theorem hget_hset (H : Heap) (n : Nat) (b : Blk) : hget (hset H n b) = upd (hget H) n (some b) := by
  induction H with
  | nil => funext m; by_cases h : m = n <;> simp [hset, hget, upd, h]
  | cons p H ih =>
    obtain ⟨k, c⟩ := p
    funext m
    simp only [hset]
    by_cases h : n = k
    · subst h
      by_cases h2 : m = n <;> simp [hget, upd, h2]
    · rw [if_neg h]
      simp only [hget, ih, upd]
      by_cases h2 : m = k
      · subst h2; simp [Ne.symm h]
      · simp [h2]

theorem hget_hdel (H : Heap) (n : Nat) : hget (hdel H n) = upd (hget H) n none := by
  induction H with
  | nil => funext m; simp [hdel, hget, upd]
  | cons p H ih =>
    obtain ⟨k, c⟩ := p
    funext m
    simp only [hdel]
    by_cases h : n = k
    · subst h
      rw [if_pos rfl, ih]
      by_cases h2 : m = n <;> simp [hget, upd, h2]
    · rw [if_neg h]
      simp only [hget, ih, upd]
      by_cases h2 : m = k
      · subst h2; simp [Ne.symm h]
      · simp [h2]

def hups (H : Heap) : List (Nat × Option Blk) → Heap
  | [] => H
  | (n, some b) :: l => hups (hset H n b) l
  | (n, none) :: l => hups (hdel H n) l

theorem hget_hups (H : Heap) (l : List (Nat × Option Blk)) : hget (hups H l) = updL (hget H) l := by
  induction l generalizing H with
  | nil => rfl
  | cons p l ih =>
    obtain ⟨n, b⟩ := p
    cases b with
    | none => simp only [hups, updL, ih, hget_hdel]
    | some b => simp only [hups, updL, ih, hget_hset]

/-! regions -/
/-- An operation: its number, its register, its guard's register. -/
structure ROp where
  i : Nat
  dst : Option Nat
  op : Op
  gd : Option (Nat × Bool) := none

def rop (ops : Array Oper) (i : Nat) (o : Oper) : Option ROp :=
  match o.guard with
  | none => some { i := i, dst := o.dst, op := o.op }
  | some (j, b) => ((ops[j]?).bind (·.dst)).map fun d => { i := i, dst := o.dst, op := o.op, gd := some (d, b) }

def rops (ops : Array Oper) : Option (List ROp) := (ops.toList.zipIdx.mapM fun p => rop ops p.2 p.1)

def wantsR (g : Option (Nat × Bool)) (ρ : RF) : Option Bool :=
  match g with
  | none => some true
  | some (d, b) => match ρ d with | .bool t => some (decide (t = b)) | .tup [] => some false | _ => none

/-- Are the blocks of an operation apart from those of the earlier ones that are not before it? -/
def chk (U : List (Nat × Nat)) (dn : List (Nat × List Nat × List Nat)) (i : Nat) (rq up : List Nat) : Prop :=
  ∀ d ∈ dn, (d.1, i) ∈ U → (∀ n ∈ d.2.2, n ∉ rq ∧ n ∉ up) ∧ (∀ n ∈ up, n ∉ d.2.1)

def pushD (i : Nat) (rq up : List Nat) (dn : List (Nat × List Nat × List Nat)) : List (Nat × List Nat × List Nat) :=
  match rq, up with
  | [], [] => dn
  | _, _ => (i, rq, up) :: dn

theorem pushD_old (i : Nat) (rq up : List Nat) (dn : List (Nat × List Nat × List Nat)) : ∀ d ∈ dn, d ∈ pushD i rq up dn := fun d hd => by
  unfold pushD; split
  · exact hd
  · exact List.mem_cons_of_mem _ hd

theorem pushD_new (i : Nat) (rq up : List Nat) (dn : List (Nat × List Nat × List Nat)) : (rq = [] ∧ up = []) ∨ (i, rq, up) ∈ pushD i rq up dn := by
  unfold pushD; split
  · exact .inl ⟨rfl, rfl⟩
  · exact .inr (by simp)

/-- The call of a function with a contract. -/
def callC (P : Program) (fv : AV) (args : List AV) (H : Heap) (nx : Nat) (K : List Nat → List Nat → AV → Heap → Nat → Prop) : Prop :=
  ∃ (fid : Nat) (caps : List AV) (made : Nat) (pre post : Heap) (r : AV), fv = .fn fid caps ∧ Spec P nx made fid (args ++ caps) pre r post ∧
    nmL (· < nx) (args ++ caps) ∧ (∀ p ∈ pre, hget H p.1 = some p.2 ∧ p.1 < nx ∧ nmL (· < nx) p.2) ∧ (∀ p ∈ post, p.1 < nx → p.1 ∈ pre.map (·.1)) ∧
    K (pre.map (·.1)) ((pre ++ post).map (·.1)) r (hups H (callUps pre post)) (nx + made)

def regC (P : Program) (U : List (Nat × Nat)) : List ROp → List (Nat × List Nat × List Nat) → List (Nat × AV) → Heap → Nat → (St → Prop) → Prop
  | [], _, rs, H, nx, K => K ⟨rs, H, nx⟩
  | o :: l, dn, rs, H, nx, K =>
    match wantsR o.gd (rget rs) with
    | none => False
    | some false => regC P U l dn (rput rs o.dst (.tup [])) H nx K
    | some true =>
      match o.op with
      | .call { callee := .value f, args := args, argTypes := _ } =>
        callC P (oev (rget rs) f) (args.toList.map (oev (rget rs))) H nx fun rq up r H' nx' => chk U dn o.i rq up ∧ regC P U l (pushD o.i rq up dn) (rput rs o.dst r) H' nx' K
      | op =>
        match opA P (hget H) nx (oev (rget rs)) op with
        | none => False
        | some L => chk U dn o.i (L.req.map (·.1)) (L.ups.map (·.1)) ∧ regC P U l (pushD o.i (L.req.map (·.1)) (L.ups.map (·.1)) dn) (rput rs o.dst L.v) (hups H L.ups) (nx + L.made) K

/-- What a run of a region comes to, as steps. -/
structure Run (P : Program) (ops : Array Oper) (U : List (Nat × Nat)) (rs : List (Nat × AV)) (H : Heap) (nx : Nat) (is : List Nat) (dn : List (Nat × List Nat × List Nat)) (K : St → Prop) (l : List (Nat × GS)) (s : St) : Prop where
  chain : Chain P ops (rget rs) (hget H) l (rget s.rs) (hget s.hp)
  idx : l.map (·.1) = is
  post : K s
  pw : l.Pairwise fun p q => p.2.nx + p.2.made ≤ q.2.nx
  lo : ∀ p ∈ l, nx ≤ p.2.nx ∧ p.2.nx + p.2.made ≤ s.nx
  le : nx ≤ s.nx
  dsts : ∀ p ∈ l, ∃ o, ops[p.1]? = some o ∧ p.2.dst = o.dst ∧ p.2.ins.map (·.1) = tmpsOf ops o
  dn1 : ∀ d ∈ dn, ∀ p ∈ l, (d.1, p.1) ∈ U → (∀ n ∈ d.2.2, n ∉ p.2.req.map (·.1) ∧ n ∉ p.2.ups.map (·.1)) ∧ (∀ n ∈ p.2.ups.map (·.1), n ∉ d.2.1)
  pw2 : l.Pairwise fun p q => (p.1, q.1) ∈ U → (∀ n ∈ p.2.ups.map (·.1), n ∉ q.2.req.map (·.1) ∧ n ∉ q.2.ups.map (·.1)) ∧ (∀ n ∈ q.2.ups.map (·.1), n ∉ p.2.req.map (·.1))

theorem Run.cons {P : Program} {ops : Array Oper} {U : List (Nat × Nat)} {rs : List (Nat × AV)} {H : Heap} {nx : Nat} {is : List Nat} {dn : List (Nat × List Nat × List Nat)} {K : St → Prop} {l : List (Nat × GS)} {s : St}
    {i : Nat} {o : Oper} {g : GS} (ho : ops[i]? = some o) (hok : g.ok P ops i) (hfit : g.fits (rget rs) (hget H)) (hd : g.dst = o.dst) (hin : g.ins.map (·.1) = tmpsOf ops o) (hnx : g.nx = nx)
    (hchk : chk U dn i (g.req.map (·.1)) (g.ups.map (·.1)))
    (r : Run P ops U (rput rs g.dst g.v) (hups H g.ups) (nx + g.made) is (pushD i (g.req.map (·.1)) (g.ups.map (·.1)) dn) K l s) : Run P ops U rs H nx (i :: is) dn K ((i, g) :: l) s where
  chain := .cons hok hfit (by rw [← rget_rput, ← hget_hups]; exact r.chain)
  idx := by simp [r.idx]
  post := r.post
  pw := List.pairwise_cons.2 ⟨fun p hp => by rw [hnx]; exact (r.lo p hp).1, r.pw⟩
  lo := fun p hp => by
    rcases List.mem_cons.1 hp with rfl | hp
    · exact ⟨Nat.le_of_eq hnx.symm, by have := r.le; show g.nx + g.made ≤ s.nx; omega⟩
    · have := r.lo p hp; exact ⟨by omega, this.2⟩
  le := by have := r.le; omega
  dsts := fun p hp => by
    rcases List.mem_cons.1 hp with rfl | hp
    · exact ⟨o, ho, hd, hin⟩
    · exact r.dsts p hp
  dn1 := fun d hd' p hp hU => by
    rcases List.mem_cons.1 hp with rfl | hp
    · exact hchk d hd' hU
    · exact r.dn1 d (pushD_old _ _ _ _ d hd') p hp hU
  pw2 := List.pairwise_cons.2 ⟨fun p hp hU => by
    rcases pushD_new i (g.req.map (·.1)) (g.ups.map (·.1)) dn with ⟨h1, h2⟩ | hm
    · show (∀ n ∈ g.ups.map (·.1), _) ∧ (∀ n ∈ _, n ∉ g.req.map (·.1))
      rw [h1, h2]; simp
    · exact r.dn1 _ hm p hp hU, r.pw2⟩

theorem wantsR_eq {ops : Array Oper} {i : Nat} {o : Oper} {q : ROp} (h : rop ops i o = some q) (ρ : RF) : wants ops o ρ = wantsR q.gd ρ ∧ q.i = i ∧ q.dst = o.dst ∧ q.op = o.op := by
  unfold rop at h
  unfold wants wantsR
  cases hg : o.guard with
  | none => rw [hg] at h; cases h; simp
  | some p =>
    obtain ⟨j, b⟩ := p
    rw [hg] at h
    simp only [Option.map_eq_some_iff] at h
    obtain ⟨d, hd, rfl⟩ := h
    simp only [hd, Option.map_some, true_and, and_true]
    rfl

theorem opA_req {P : Program} {h : HF} {nx : Nat} {E : Operand → AV} {op : Op} {L : LR} (hL : opA P h nx E op = some L) : ∀ p ∈ L.req, h p.1 = some p.2 := by
  have nil : L.req = [] → ∀ p ∈ L.req, h p.1 = some p.2 := fun h0 => by rw [h0]; simp
  have hm : ∀ {x : Option AV}, (x.map v1) = some L → L.req = [] := fun {x} hx => by
    rw [Option.map_eq_some_iff] at hx
    obtain ⟨r, _, rfl⟩ := hx
    rfl
  cases op <;> simp only [opA] at hL
  case load t x =>
    unfold opLoad at hL
    split at hL
    · split at hL
      · rename_i n off _
        cases hn : h n with
        | none => rw [hn] at hL; cases hL
        | some cs =>
          rw [hn] at hL
          simp only at hL
          split at hL
          · split at hL
            · cases hL; intro p hp; simp at hp; subst hp; exact hn
            · cases hL
          · rw [Option.map_eq_some_iff] at hL
            obtain ⟨_, _, rfl⟩ := hL
            intro p hp; simp at hp; subst hp; exact hn
      · split at hL
        · split at hL
          · cases hL; exact nil rfl
          · cases hL
        · rw [Option.map_eq_some_iff] at hL
          obtain ⟨_, _, rfl⟩ := hL
          exact nil rfl
      · cases hL
    · cases hL
  case store t x y =>
    unfold opStore at hL
    split at hL
    · split at hL
      · rename_i n off vs _ _
        cases hn : h n with
        | none => rw [hn] at hL; cases hL
        | some cs =>
          rw [hn] at hL
          simp only at hL
          split at hL
          · cases hL; intro p hp; simp at hp; subst hp; exact hn
          · cases hL
      · cases hL
    · cases hL
  case alloc t =>
    unfold opAlloc at hL; split at hL
    · rw [Option.map_eq_some_iff] at hL; obtain ⟨_, _, rfl⟩ := hL; exact nil rfl
    · cases hL
  case box t x => unfold opBox at hL; rw [Option.map_eq_some_iff] at hL; obtain ⟨_, _, rfl⟩ := hL; exact nil rfl
  case buildSlice t n ps =>
    unfold opBuildSlice at hL
    split at hL
    · split at hL
      · split at hL
        · rw [Option.map_eq_some_iff] at hL; obtain ⟨_, _, rfl⟩ := hL; exact nil rfl
        · cases hL
      · cases hL
    · cases hL
  case makeSlice t l c =>
    unfold opMakeSlice at hL
    split at hL
    · split at hL
      · split at hL
        · cases hL; exact nil rfl
        · cases hL
      · cases hL
    · cases hL
  case makeFunc f fi ca =>
    split at hL
    · exact nil (hm hL)
    · cases hL
  case pick c a b =>
    split at hL
    · cases hL; exact nil rfl
    · cases hL
  case move x => cases hL; exact nil rfl
  case assign x => cases hL; exact nil rfl
  case call c =>
    split at hL
    · unfold opCallB at hL
      split at hL
      · exact nil (hm hL)
      · unfold opAppend at hL
        split at hL
        case h_2 => cases hL
        rename_i el _
        split at hL
        case h_2 => cases hL
        rename_i len old req kill k new req2 hd hs
        split at hL
        case isFalse => cases hL
        cases hL
        have hs' : ∀ p ∈ req2, h p.1 = some p.2 := by
          unfold srcA at hs
          split at hs
          · split at hs
            · cases hs; simp
            · cases hs
          · cases hs; simp
          · split at hs
            · rename_i cs hn
              split at hs
              · cases hs; intro p hp; simp at hp; subst hp; exact hn
              · cases hs
            · cases hs
          · cases hs
        have hd' : ∀ p ∈ req, h p.1 = some p.2 := by
          unfold dstA at hd
          split at hd
          · cases hd; simp
          · split at hd
            · cases hd; simp
            · cases hd
          · split at hd
            · cases hd; simp
            · split at hd
              · rename_i cs hn
                split at hd
                · cases hd; intro p hp; simp at hp; subst hp; exact hn
                · cases hd
              · cases hd
          · cases hd
        intro p hp
        rcases List.mem_append.1 hp with hp | hp
        · exact hd' p hp
        · exact hs' p hp
      · exact nil (hm hL)
      · exact nil (hm hL)
      · cases hL
    · cases hL
  all_goals first | exact nil (hm hL) | cases hL

theorem regC_run {P : Program} {ops : Array Oper} {U : List (Nat × Nat)} : ∀ (qs : List ROp) (os : List (Oper × Nat)) (dn : List (Nat × List Nat × List Nat)) (rs : List (Nat × AV)) (H : Heap) (nx : Nat) (K : St → Prop),
    (os.mapM fun p => rop ops p.2 p.1) = some qs → (∀ p ∈ os, ops[p.2]? = some p.1) → regC P U qs dn rs H nx K → ∃ l s, Run P ops U rs H nx (os.map (·.2)) dn K l s := by
  intro qs
  induction qs with
  | nil =>
    intro os dn rs H nx K hm _ h
    cases os with
    | nil => exact ⟨[], ⟨rs, H, nx⟩, ⟨.nil _ _, rfl, h, .nil, by simp, Nat.le_refl _, by simp, by simp, .nil⟩⟩
    | cons p os =>
      simp only [List.mapM_cons, Option.bind_eq_bind, Option.bind_eq_some_iff] at hm
      obtain ⟨q, _, qs, _, hq⟩ := hm
      cases hq
  | cons q qs ih =>
    intro os dn rs H nx K hm hos h
    cases os with
    | nil => simp at hm
    | cons p os =>
      simp only [List.mapM_cons, Option.bind_eq_bind, Option.bind_eq_some_iff] at hm
      obtain ⟨q', hq', qs', hqs', hq⟩ := hm
      cases hq
      obtain ⟨o, i⟩ := p
      have ho : ops[i]? = some o := hos (o, i) (by simp)
      obtain ⟨e1, e2, e3, e4⟩ := wantsR_eq hq' (rget rs)
      have hos' : ∀ p ∈ os, ops[p.2]? = some p.1 := fun p hp => hos p (by simp [hp])
      have fits0 : ∀ p ∈ insOf ops o (rget rs), rget rs p.1 = p.2 := fun p hp => by
        unfold insOf at hp; rw [List.mem_map] at hp; obtain ⟨t, _, rfl⟩ := hp; rfl
      have ins0 : (insOf ops o (rget rs)).map (·.1) = tmpsOf ops o := by simp [insOf, Function.comp_def]
      simp only [regC] at h
      rw [← e1] at h
      cases hw : wants ops o (rget rs) with
      | none => rw [hw] at h; exact h.elim
      | some t =>
        rw [hw] at h
        cases t with
        | false =>
          simp only at h
          rw [e3] at h
          obtain ⟨l, s, r⟩ := ih os dn (rput rs o.dst (.tup [])) H nx K hqs' hos' h
          exact ⟨_, s, Run.cons (g := { dst := o.dst, ins := insOf ops o (rget rs), v := .tup [], req := [], ups := [], nx := nx, made := 0 }) ho (gs_skip ho hw nx) ⟨fits0, by simp⟩ rfl ins0 rfl (by intro d _ _; simp) r⟩
        | true =>
          simp only [e4] at h
          have opcase : ∀ L, opA P (hget H) nx (oev (rget rs)) o.op = some L → chk U dn i (L.req.map (·.1)) (L.ups.map (·.1)) ∧ regC P U qs (pushD i (L.req.map (·.1)) (L.ups.map (·.1)) dn) (rput rs o.dst L.v) (hups H L.ups) (nx + L.made) K →
              ∃ l s, Run P ops U rs H nx ((o, i) :: os |>.map (·.2)) dn K l s := fun L hL hc => by
            obtain ⟨l, s, r⟩ := ih os _ _ _ _ K hqs' hos' hc.2
            exact ⟨_, s, Run.cons (g := { dst := o.dst, ins := insOf ops o (rget rs), v := L.v, req := L.req, ups := L.ups, nx := nx, made := L.made }) ho (gs_op ho hw hL) ⟨fits0, fun p hp => opA_req hL p hp⟩ rfl ins0 rfl hc.1 r⟩
          rw [e2, e3] at h
          split at h
          · rename_i f args ts hop
            obtain ⟨fid, caps, made, pre, post, r, hf, hs, hn1, hpre, hn3, hc1, hc2⟩ := h
            obtain ⟨l, s, r'⟩ := ih os _ _ _ _ K hqs' hos' hc2
            have hm : (callUps pre post).map (·.1) = (pre ++ post).map (·.1) := by simp [callUps, Function.comp_def]
            refine ⟨(i, { dst := o.dst, ins := insOf ops o (rget rs), v := r, req := pre, ups := callUps pre post, nx := nx, made := made }) :: l, s, Run.cons ho
              (gs_call ho hw hop hf hs hn1 (fun p hp => (hpre p hp).2) hn3) ⟨fits0, fun p hp => (hpre p hp).1⟩ rfl ins0 rfl (by simp only [hm]; exact hc1) ?_⟩
            simp only [hm]
            exact r'
          · split at h
            · exact h.elim
            · rename_i L hL
              exact opcase L hL h

/-- The static facts of a region: registers in range; if it draws: edges lead backwards, and the pairs that are open are listed and have registers apart. -/
def regOk (nt : Nat) (ops : Array Oper) (draw : Bool) (U : List (Nat × Nat)) : Bool :=
  ops.all (fun o => match o.dst with | some d => decide (d < nt) | none => true) &&
  (!draw || (wellOrd ops &&
    (List.range ops.size).all fun i => (List.range i).all fun j =>
      anc ops ops.size j i ||
      (U.contains (j, i) &&
        match ops[j]?, ops[i]? with
        | some a, some b =>
          (match a.dst with | some d => !(tmpsOf ops b).contains d && !(b.dst == some d) | none => true) &&
          (match b.dst with | some d => !(tmpsOf ops a).contains d | none => true)
        | _, _ => true)))

theorem zipIdx_get (ops : Array Oper) : ∀ p ∈ ops.toList.zipIdx, ops[p.2]? = some p.1 := fun p hp => by
  obtain ⟨o, i⟩ := p
  have := List.mk_mem_zipIdx_iff_getElem?.1 hp
  simpa using this

theorem zipIdx_idx (ops : Array Oper) : ops.toList.zipIdx.map (·.2) = List.range ops.size := by
  rw [List.zipIdx_map_snd]
  simp [List.range_eq_range']

/-- A region. -/
theorem region_wp {P : Program} {ops : Array Oper} {draw : Bool} {U : List (Nat × Nat)} {nt R id : Nat} {qs : List ROp} (hm : P.follows .mixedOrders = true) (hq : rops ops = some qs) (hok : regOk nt ops draw U = true)
    {rs : List (Nat × AV)} {H : Heap} {nx : Nat} {K : St → Prop} (h : regC P U qs [] rs H nx K) {Q : Exit → Act → World → Prop} {e : Env} {w : World} {a : Act} (r : RR e w (rget rs) (hget H) a nt) (hβ : ∀ n, nx ≤ n → e.β n = none) (hR : R ≤ nx)
    (hQ : ∀ (s : St) e' w' a', K s → RR e' w' (rget s.rs) (hget s.hp) a' nt → Step e w (hget H) e' w' (hget s.hp) R → (∀ n, s.nx ≤ n → e'.β n = none) → R ≤ s.nx → Q .normal a' w') :
    (Code.region id ops draw).wp P Q a w := by
  obtain ⟨l, s, run⟩ := regC_run qs ops.toList.zipIdx [] rs H nx K hq (zipIdx_get ops) h
  have hidx : l.map (·.1) = List.range ops.size := by rw [run.idx, zipIdx_idx]
  unfold regOk at hok
  rw [Bool.and_eq_true] at hok
  obtain ⟨ok1, ok2⟩ := hok
  have hd : ∀ p ∈ l, ∀ d, p.2.dst = some d → d < nt := fun p hp d hd => by
    obtain ⟨o, ho, hdo, _⟩ := run.dsts p hp
    have := (Array.all_eq_true_iff_forall_mem.1 ok1) o (Array.mem_of_getElem? ho)
    rw [← hdo, hd] at this
    simpa using this
  have hlo : ∀ p ∈ l, (∀ d, p.2.dst = some d → d < nt) ∧ nx ≤ p.2.nx ∧ p.2.nx + p.2.made ≤ s.nx := fun p hp => ⟨hd p hp, (run.lo p hp).1, (run.lo p hp).2⟩
  have hR' : R ≤ s.nx := Nat.le_trans hR run.le
  cases draw with
  | false =>
    refine wp_region ?_
    rw [← hidx]
    exact ops_text l _ _ _ _ e w a nx run.chain r hlo hR run.pw (fun p hp => (run.lo p hp).1) hβ run.le (fun e' w' a' r' st hb => hQ s e' w' a' run.post r' st hb hR')
  | true =>
    simp only [Bool.not_true, Bool.false_or, Bool.and_eq_true] at ok2
    obtain ⟨ok2, ok3⟩ := ok2
    -- the world has drawn
    have hx : Ext e w e { w with drawn := w.drawn + 1 } := ⟨fun _ _ h => h, fun _ h => h, fun _ _ => rfl, fun _ cs _ _ hc => ⟨cs, hc, rfl⟩⟩
    have r1 : RR e { w with drawn := w.drawn + 1 } (rget rs) (hget H) a nt := ⟨r.defers, r.size, fun t => (r.regs t).mono hx, HR.of_heap (w := w) rfl r.heap⟩
    have hlt : l.Pairwise fun p q => p.1 < q.1 := by
      have := List.pairwise_lt_range (n := ops.size)
      rw [← hidx, List.pairwise_map] at this
      exact this
    have hind : l.Pairwise fun p q => anc ops ops.size p.1 q.1 = true ∨ Indep p.2 q.2 := by
      have hboth : l.Pairwise fun p q => (p.1 < q.1 ∧ p ∈ l ∧ q ∈ l) ∧ ((p.1, q.1) ∈ U → (∀ n ∈ p.2.ups.map (·.1), n ∉ q.2.req.map (·.1) ∧ n ∉ q.2.ups.map (·.1)) ∧ (∀ n ∈ q.2.ups.map (·.1), n ∉ p.2.req.map (·.1))) := by
        refine List.Pairwise.and ?_ run.pw2
        exact (List.Pairwise.and_mem.1 hlt).imp (fun hh => ⟨hh.2.2, hh.1, hh.2.1⟩)
      refine hboth.imp (fun {p q} hh => ?_)
      obtain ⟨⟨hpq, hp, hq'⟩, hU⟩ := hh
      obtain ⟨op, hop, dp, ip⟩ := run.dsts p hp
      obtain ⟨oq, hoq, dq, iq⟩ := run.dsts q hq'
      rw [List.all_eq_true] at ok3
      have h1 := ok3 q.1 (by rw [List.mem_range]; exact (Array.getElem?_eq_some_iff.1 hoq).1)
      rw [List.all_eq_true] at h1
      have h2 := h1 p.1 (by simpa using hpq)
      rw [Bool.or_eq_true] at h2
      rcases h2 with h2 | h2
      · exact .inl h2
      · right
        rw [hop, hoq] at h2
        simp only [Bool.and_eq_true] at h2
        obtain ⟨h3, h4, h5⟩ := h2
        obtain ⟨u1, u2⟩ := hU (by simpa using h3)
        refine ⟨fun d hd' => ?_, fun d hd' => ?_, u1, u2⟩
        · rw [dp] at hd'
          rw [hd'] at h4
          simp only [Bool.and_eq_true, Bool.not_eq_true', List.contains_eq_mem, decide_eq_false_iff_not, beq_eq_false_iff_ne] at h4
          rw [iq, dq]
          exact h4
        · rw [dq] at hd'
          rw [hd'] at h5
          simp only [Bool.not_eq_true', List.contains_eq_mem, decide_eq_false_iff_not] at h5
          rw [ip]
          exact h5
    refine wp_region_any hm ?_
    refine ops_any (nx0 := nx) (nxf := s.nx) (F := ops.size) ok2 ops.size l _ _ _ _ e _ a _ run.chain r1 hlo hR run.pw hlt hind (by simp) (fun j hj => ?_) (fun p hp => ?_) (fun i o ho hl => ?_) (fun p hp n h1 _ => hβ n (by have := (run.lo p hp).1; omega)) (fun n hn => hβ n (by have := run.le; omega)) ?_
      (fun e' w' a' r' st hb => hQ s e' w' a' run.post r' ⟨st.size, st.keep, st.shape, st.β, st.I, st.Inew, st.own, (still_heap (w := w) (w0 := { w with drawn := w.drawn + 1 }) rfl rfl rfl).trans st.still⟩ hb hR')
    · rw [hidx]
      simp [Array.getD_eq_getD_getElem?, hj]
    · have : p.1 ∈ l.map (·.1) := List.mem_map_of_mem hp
      rw [hidx] at this
      simpa using this
    · rw [Array.getD_eq_getD_getElem?] at hl
      have hlt' := (Array.getElem?_eq_some_iff.1 ho).1
      simp [hlt'] at hl
    · have : (l.map (·.1)).length = ops.size := by rw [hidx]; simp
      simp at this
      omega

end Go.Av
