/- A closed run: the code evaluated on given values, and that the contract follows. -/
import Derived.Test.YtojbfpfkkcdlhaaGreatAv17
namespace Go.Av
set_option linter.unusedVariables false
set_option linter.unusedSimpArgs false

mutual
def AV.names : AV → List Nat
  | .ptr n _ => [n]
  | .osl n _ _ _ _ => [n]
  | .iptr cs _ => namesL cs
  | .vsl cs _ _ => namesL cs
  | .agg cs => namesL cs
  | .tup cs => namesL cs
  | .fn _ cs => namesL cs
  | _ => []
def namesL : List AV → List Nat
  | [] => []
  | a :: l => a.names ++ namesL l
end

mutual
theorem nm_of_names {S : Nat → Prop} : ∀ (a : AV), (∀ n ∈ a.names, S n) → a.nm S
  | .ptr n _, h => by simp only [AV.nm]; exact h n (by simp [AV.names])
  | .osl n _ _ _ _, h => by simp only [AV.nm]; exact h n (by simp [AV.names])
  | .iptr cs _, h => by simp only [AV.nm]; exact nmL_of_names cs (by simpa [AV.names] using h)
  | .vsl cs _ _, h => by simp only [AV.nm]; exact nmL_of_names cs (by simpa [AV.names] using h)
  | .agg cs, h => by simp only [AV.nm]; exact nmL_of_names cs (by simpa [AV.names] using h)
  | .tup cs, h => by simp only [AV.nm]; exact nmL_of_names cs (by simpa [AV.names] using h)
  | .fn _ cs, h => by simp only [AV.nm]; exact nmL_of_names cs (by simpa [AV.names] using h)
  | .any, _ => trivial
  | .int _ _, _ => trivial
  | .bool _, _ => trivial
  | .anyb, _ => trivial
  | .str _, _ => trivial
  | .nilsl, _ => trivial
  | .nilptr, _ => trivial
  | .nilfn, _ => trivial
  | .nilif, _ => trivial
theorem nmL_of_names {S : Nat → Prop} : ∀ (l : List AV), (∀ n ∈ namesL l, S n) → nmL S l
  | [], _ => trivial
  | a :: l, h => ⟨nm_of_names a (fun n hn => h n (by simp [namesL, hn])), nmL_of_names l (fun n hn => h n (by simp [namesL, hn]))⟩
end

/-- A value whose names stay is a weaker form of itself. -/
theorem sub_self {h : HF} {σ : Nat → Option Nat} {F : Nat → Prop} : ∀ (a : AV), a.nm (fun n => σ n = some n) → Sub h σ F a a := by
  have key : ∀ (a : AV), (a.nm (fun n => σ n = some n) → Sub h σ F a a) := by
    intro a
    induction a using AV.rec (motive_2 := fun l => nmL (fun n => σ n = some n) l → ∀ (j : Nat) (a b : AV), l[j]? = some a → l[j]? = some b → Sub h σ F a b) with
    | any => intro _; exact .any _
    | int k n => intro _; exact .refl _ trivial
    | bool b => intro _; exact .refl _ trivial
    | anyb => intro _; exact .refl _ trivial
    | str s => intro _; exact .refl _ trivial
    | nilsl => intro _; exact .refl _ trivial
    | nilptr => intro _; exact .refl _ trivial
    | nilfn => intro _; exact .refl _ trivial
    | nilif => intro _; exact .refl _ trivial
    | ptr n off => intro hn; exact .ptr hn
    | iptr cs off ih => intro hn; exact .iptr rfl (ih hn)
    | osl n off len cap sz => intro hn; exact .osl hn (.inl rfl)
    | vsl cs len cap ih => intro hn; exact .vsl rfl (.inl rfl) (ih hn)
    | agg cs ih => intro hn; exact .agg rfl (ih hn)
    | tup cs ih => intro hn; exact .tup rfl (ih hn)
    | fn f cs ih => intro hn; exact .fn rfl (ih hn)
    | nil => rename_i ha _; simp at ha
    | cons a l ia il =>
      rename_i hn j x y hx hy
      cases j with
      | zero => simp at hx hy; subst hx hy; exact ia hn.1
      | succ j => simp at hx hy; exact il hn.2 j x y hx hy
  exact key

theorem namesL_mem {n : Nat} {y : AV} : ∀ {l : List AV} {j : Nat}, l[j]? = some y → n ∈ y.names → n ∈ namesL l
  | [], j, hj, _ => by simp at hj
  | c :: l, 0, hj, hn => by simp at hj; subst hj; simp [namesL, hn]
  | c :: l, j + 1, hj, hn => by simp at hj; simp [namesL, namesL_mem hj hn]

/-! the run -/
def chkB (U : List (Nat × Nat)) (dn : List (Nat × List Nat × List Nat)) (i : Nat) (rq up : List Nat) : Bool :=
  dn.all fun d => !(U.any fun p => p.1 == d.1 && p.2 == i) || (d.2.2.all (fun n => !(rq.any (· == n)) && !(up.any (· == n))) && up.all fun n => !(d.2.1.any (· == n)))

theorem any_eq_mem {l : List Nat} {n : Nat} : (l.any (· == n)) = true ↔ n ∈ l := by simp

theorem chkB_ok {U : List (Nat × Nat)} {dn : List (Nat × List Nat × List Nat)} {i : Nat} {rq up : List Nat} (h : chkB U dn i rq up = true) : chk U dn i rq up := by
  intro d hd hU
  unfold chkB at h
  rw [List.all_eq_true] at h
  have := h d hd
  rw [Bool.or_eq_true] at this
  rcases this with h1 | h1
  · exfalso
    have : (U.any fun p => p.1 == d.1 && p.2 == i) = true := List.any_eq_true.2 ⟨(d.1, i), hU, by simp⟩
    rw [this] at h1
    cases h1
  · rw [Bool.and_eq_true, List.all_eq_true, List.all_eq_true] at h1
    refine ⟨fun n hn => ?_, fun n hn hc => ?_⟩
    · have := h1.1 n hn
      rw [Bool.and_eq_true] at this
      refine ⟨fun hc => ?_, fun hc => ?_⟩
      · rw [any_eq_mem.2 hc] at this; simp at this
      · rw [any_eq_mem.2 hc] at this; simp at this
    · have := h1.2 n hn
      rw [any_eq_mem.2 hc] at this
      cases this

/-- Names that are reached from names. -/
def reach (H : Heap) : Nat → List Nat → List Nat → List Nat
  | 0, _, seen => seen
  | _ + 1, [], seen => seen
  | k + 1, n :: l, seen => if seen.any (· == n) then reach H k l seen else match hget H n with
    | some b => reach H k (namesL b ++ l) (n :: seen)
    | none => reach H k l seen

def ltAll (nx : Nat) (l : List Nat) : Bool := l.all fun n => Nat.blt n nx

def preOf (H : Heap) (l : List Nat) : Heap := l.filterMap fun n => (hget H n).map fun b => (n, b)

structure CallR where
  r : AV
  post : Heap
  made : Nat

abbrev CallF := FuncId → List AV → Heap → Nat → Option CallR

def callE (call : CallF) (fv : AV) (args : List AV) (H : Heap) (nx : Nat) : Option (List Nat × List Nat × AV × Heap × Nat) :=
  match fv with
  | .fn fid caps =>
    let pre := preOf H (reach H 100000 (namesL (args ++ caps)) [])
    match call fid (args ++ caps) pre nx with
    | some c =>
      if ltAll nx (namesL (args ++ caps)) && pre.all (fun p => Nat.blt p.1 nx && ltAll nx (namesL p.2)) && c.post.all (fun p => Nat.ble nx p.1 || (pre.any fun q => q.1 == p.1)) then
        some (pre.map (·.1), (pre ++ c.post).map (·.1), c.r, hups H (callUps pre c.post), nx + c.made)
      else none
    | none => none
  | _ => none

def regE (P : Program) (call : CallF) (U : List (Nat × Nat)) : List ROp → List (Nat × List Nat × List Nat) → List (Nat × AV) → Heap → Nat → Option St
  | [], _, rs, H, nx => some ⟨rs, H, nx⟩
  | o :: l, dn, rs, H, nx =>
    match wantsR o.gd (rget rs) with
    | none => none
    | some false => regE P call U l dn (rput rs o.dst (.tup [])) H nx
    | some true =>
      match o.op with
      | .call { callee := .value f, args := args, argTypes := _ } =>
        match callE call (oev (rget rs) f) (args.toList.map (oev (rget rs))) H nx with
        | some (rq, up, r, H', nx') => if chkB U dn o.i rq up then regE P call U l (pushD o.i rq up dn) (rput rs o.dst r) H' nx' else none
        | none => none
      | op =>
        match opA P (hget H) nx (oev (rget rs)) op with
        | none => none
        | some L => if chkB U dn o.i (L.req.map (·.1)) (L.ups.map (·.1)) then regE P call U l (pushD o.i (L.req.map (·.1)) (L.ups.map (·.1)) dn) (rput rs o.dst L.v) (hups H L.ups) (nx + L.made) else none

/-- Rounds of a loop. -/
def iter (f : St → Option (AX × St)) : Nat → St → Option (AX × St)
  | 0, _ => none
  | n + 1, s => match f s with
    | some (.normal, s1) => iter f n s1
    | x => x

def evE (P : Program) (call : CallF) (fuel : Nat) : BC → St → Option (AX × St)
  | .skip, s => some (.normal, s)
  | .reg ops U, s => (regE P call U ops [] s.rs s.hp s.nx).map fun s' => (.normal, s')
  | .seq a b, s => match evE P call fuel a s with
    | some (.normal, s1) => evE P call fuel b s1
    | x => x
  | .cond c a b, s => match oev (rget s.rs) c with
    | .bool true => evE P call fuel a s
    | .bool false => evE P call fuel b s
    | _ => none
  | .block id b, s => match evE P call fuel b s with
    | some (.exit i, s1) => if i = id then some (.normal, s1) else some (.exit i, s1)
    | x => x
  | .loop b, s => iter (evE P call fuel b) fuel s
  | .exit id, s => some (.exit id, s)
  | .ret, s => some (.ret, s)

/-- A function of the table: its registers, its code, its results. -/
structure FE where
  nt : Nat
  b : BC
  rv : Array ResultVar

def runE (P : Program) (tab : FuncId → Option FE) (prim : CallF) (fuel : Nat) : Nat → CallF
  | 0 => fun _ _ _ _ => none
  | d + 1 => fun f args pre nx =>
    match prim f args pre nx with
    | some c => some c
    | none =>
      match tab f with
      | some fe =>
        if args.length ≤ fe.nt then
          match evE P (runE P tab prim fuel d) fuel fe.b ⟨argRegs 0 args, pre, nx⟩ with
          | some (x, s) =>
            if x = .normal ∨ x = .ret then
              match resA P fe.rv s with
              | some r =>
                let keep := reach s.hp 100000 (r.names ++ pre.map (·.1)) []
                let post := preOf s.hp keep
                if post.all (fun p => Nat.blt p.1 s.nx && (namesL p.2).all (fun n => post.any fun q => q.1 == n)) && r.names.all (fun n => post.any fun q => q.1 == n) && Nat.ble nx s.nx then some ⟨r, post, s.nx - nx⟩ else none
              | none => none
            else none
          | none => none
        else none
      | none => none

def CallOK (P : Program) (call : CallF) : Prop := ∀ f args pre nx c, call f args pre nx = some c → Spec P nx c.made f args pre c.r c.post

theorem preOf_get {H : Heap} {l : List Nat} : ∀ p ∈ preOf H l, hget H p.1 = some p.2 := by
  intro p hp
  unfold preOf at hp
  rw [List.mem_filterMap] at hp
  obtain ⟨n, _, hn⟩ := hp
  rw [Option.map_eq_some_iff] at hn
  obtain ⟨b, hb, rfl⟩ := hn
  exact hb

theorem ltAll_ok {nx : Nat} {l : List Nat} (h : ltAll nx l = true) : ∀ n ∈ l, n < nx := fun n hn => by
  have := List.all_eq_true.1 h n hn
  simpa [Nat.blt_eq] using this

theorem callE_ok {P : Program} {call : CallF} (hc : CallOK P call) {fv : AV} {args : List AV} {H : Heap} {nx : Nat} {rq up : List Nat} {r : AV} {H' : Heap} {nx' : Nat} (h : callE call fv args H nx = some (rq, up, r, H', nx'))
    {K : List Nat → List Nat → AV → Heap → Nat → Prop} (hK : K rq up r H' nx') : callC P fv args H nx K := by
  unfold callE at h
  split at h
  case h_2 => cases h
  rename_i fid caps
  simp only at h
  split at h
  case h_2 => cases h
  rename_i c hcall
  split at h
  case isFalse => cases h
  rename_i hh
  cases h
  rw [Bool.and_eq_true, Bool.and_eq_true, List.all_eq_true, List.all_eq_true] at hh
  obtain ⟨⟨q1, q2⟩, q3⟩ := hh
  refine ⟨fid, caps, c.made, _, c.post, c.r, rfl, hc _ _ _ _ _ hcall, nmL_of_names _ (ltAll_ok q1), fun p hp => ⟨preOf_get p hp, ?_, ?_⟩, fun p hp hlt => ?_, hK⟩
  · have := q2 p hp
    rw [Bool.and_eq_true] at this
    simpa [Nat.blt_eq] using this.1
  · have := q2 p hp
    rw [Bool.and_eq_true] at this
    exact nmL_of_names _ (ltAll_ok this.2)
  · have := q3 p hp
    rw [Bool.or_eq_true] at this
    rcases this with h1 | h1
    · have := Nat.le_of_ble_eq_true h1; omega
    · rw [List.any_eq_true] at h1
      obtain ⟨q, hq, he⟩ := h1
      have : q.1 = p.1 := by simpa using he
      rw [← this]
      exact List.mem_map_of_mem hq

theorem regE_ok {P : Program} {call : CallF} (hc : CallOK P call) {U : List (Nat × Nat)} : ∀ (l : List ROp) (dn : List (Nat × List Nat × List Nat)) (rs : List (Nat × AV)) (H : Heap) (nx : Nat) (s : St) (K : St → Prop), regE P call U l dn rs H nx = some s → K s → regC P U l dn rs H nx K := by
  intro l
  induction l with
  | nil => intro dn rs H nx s K h hK; cases h; exact hK
  | cons o l ih =>
    intro dn rs H nx s K h hK
    simp only [regE] at h
    simp only [regC]
    split at h
    · cases h
    · rename_i hw; rw [hw]; exact ih _ _ _ _ _ _ h hK
    · rename_i hw
      rw [hw]
      simp only
      split at h
      · rename_i f args ts hop
        rw [hop]
        simp only
        split at h
        case h_2 => cases h
        rename_i rq up r H' nx' hcall
        split at h
        case isFalse => cases h
        rename_i hchk
        exact callE_ok hc hcall ⟨chkB_ok hchk, ih _ _ _ _ _ _ h hK⟩
      · rename_i hne
        split
        · rename_i f args ts hop; exact absurd hop (hne f args ts)
        · split at h
          · cases h
          · rename_i L hL
            rw [hL]
            simp only
            split at h
            case isFalse => cases h
            rename_i hchk
            exact ⟨chkB_ok hchk, ih _ _ _ _ _ _ h hK⟩

theorem St.shift.refl {R : Nat} (s : St) : St.shift R s s := fun hR => ⟨hR, fun e w f hf H hβ => ⟨e, hf, H, Step.refl _ _ _ _, fun n hn hS => hβ n (by omega)⟩⟩

theorem evE_ok {P : Program} {R : Nat} {call : CallF} (hc : CallOK P call) {fuel : Nat} : ∀ (b : BC) (s : St) (x : AX) (s' : St) (Q : AX → St → Prop), evE P call fuel b s = some (x, s') → Q x s' → awb P R b Q s := by
  intro b
  induction b with
  | skip => intro s x s' Q h hQ; cases h; exact hQ
  | reg ops U =>
    intro s x s' Q h hQ
    simp only [evE, Option.map_eq_some_iff] at h
    obtain ⟨s1, h1, h2⟩ := h
    cases h2
    exact regE_ok hc _ _ _ _ _ _ _ h1 hQ
  | seq a b iha ihb =>
    intro s x s' Q h hQ
    simp only [evE] at h
    split at h
    · rename_i s1 h1
      exact iha s _ s1 _ h1 (ihb s1 x s' Q h hQ)
    · rename_i hne
      refine iha s x s' _ h ?_
      cases x with
      | normal => exact absurd h (hne s')
      | exit i => exact hQ
      | ret => exact hQ
  | cond c a b iha ihb =>
    intro s x s' Q h hQ
    simp only [evE] at h
    simp only [awb]
    split at h
    · rename_i hb; rw [hb]; exact ⟨fun _ => iha s x s' Q h hQ, fun h => by cases h⟩
    · rename_i hb; rw [hb]; exact ⟨fun h => (by cases h), fun _ => ihb s x s' Q h hQ⟩
    · cases h
  | block id b ih =>
    intro s x s' Q h hQ
    simp only [evE] at h
    split at h
    · rename_i i s1 h1
      refine ih s _ s1 _ h1 ?_
      simp only
      split at h
      · rename_i hi; cases h; rw [if_pos hi]; exact hQ
      · rename_i hi; cases h; rw [if_neg hi]; exact hQ
    · rename_i hne
      refine ih s x s' _ h ?_
      cases x with
      | normal => exact hQ
      | exit i => exact absurd h (hne i s')
      | ret => exact hQ
  | loop b ih =>
    intro s x s' Q h hQ
    refine ⟨{ p : Nat × St // iter (evE P call fuel b) p.1 p.2 = some (x, s') }, fun p => p.1.2, fun p => p.1.1, ⟨(fuel, s), h⟩, St.shift.refl s, ?_⟩
    rintro ⟨⟨n, t⟩, hn⟩
    simp only at hn ⊢
    cases n with
    | zero => cases hn
    | succ n =>
      simp only [iter] at hn
      split at hn
      · rename_i s1 h1
        exact ih t _ s1 _ h1 ⟨⟨(n, s1), hn⟩, Nat.lt_succ_self _, St.shift.refl s1⟩
      · rename_i hne
        refine ih t x s' _ hn ?_
        cases x with
        | normal => exact absurd hn (hne s')
        | exit i => exact hQ
        | ret => exact hQ
  | exit id => intro s x s' Q h hQ; cases h; exact hQ
  | ret => intro s x s' Q h hQ; cases h; exact hQ

/-- The table is the program's. -/
def TabOK (P : Program) (tab : FuncId → Option FE) : Prop := ∀ f fe, tab f = some fe → ∃ fn : Func, P.funcs[f]? = some fn ∧ fn.body.bind (compile fn.ntmps) = some fe.b ∧ fn.ntmps = fe.nt ∧ fn.results = fe.rv ∧
  ∀ vs w, (callFunc f vs).run P w = .ok (.enter f vs) w

theorem runE_ok {P : Program} (hm : P.follows .mixedOrders = true) {tab : FuncId → Option FE} (ht : TabOK P tab) {prim : CallF} (hp : CallOK P prim) (fuel : Nat) : ∀ d, CallOK P (runE P tab prim fuel d) := by
  intro d
  induction d with
  | zero => intro f args pre nx c h; cases h
  | succ d ih =>
    intro f args pre nx c h
    simp only [runE] at h
    split at h
    · rename_i c' hpr; cases h; exact hp _ _ _ _ _ hpr
    split at h
    case h_2 => cases h
    rename_i fe htab
    split at h
    case isFalse => cases h
    rename_i hlen
    split at h
    case h_2 => cases h
    rename_i x s hev
    split at h
    case isFalse => cases h
    rename_i hx
    split at h
    case h_2 => cases h
    rename_i r hres
    split at h
    case isFalse => cases h
    rename_i hh
    cases h
    obtain ⟨fn, f1, f2, f3, f4, f5⟩ := ht f fe htab
    generalize hpost : preOf s.hp (reach s.hp 100000 (r.names ++ pre.map (·.1)) []) = post at hh ⊢
    have hget0 : ∀ p ∈ post, hget s.hp p.1 = some p.2 := fun p hp => by rw [← hpost] at hp; exact preOf_get p hp
    rw [Bool.and_eq_true, Bool.and_eq_true, List.all_eq_true, List.all_eq_true] at hh
    obtain ⟨⟨q1, q2⟩, q3⟩ := hh
    have q3' := Nat.le_of_ble_eq_true q3
    have inpost : ∀ n, (post.any fun q => q.1 == n) = true → hget post n ≠ none := fun n hn hc => by
      rw [List.any_eq_true] at hn
      obtain ⟨q, hq, he⟩ := hn
      have e : q.1 = n := by simpa using he
      exact hget_none.1 hc (by rw [← e]; exact List.mem_map_of_mem hq)
    refine spec_intro hm f1 f2 f5 (fun p hp => ?_) (by omega) (evE_ok ih fe.b _ x s _ hev ⟨hx, r, by rw [f4]; exact hres, ?_⟩)
    · have := q1 p hp
      rw [Bool.and_eq_true] at this
      have := (by simpa [Nat.blt_eq] using this.1 : p.1 < s.nx)
      simp only
      omega
    · refine vs_sub (fun n => if hget post n = none then none else some n) (fun _ => False) (fun n m h => ?_) (fun n n' m h h' => ?_) (fun n h => h.elim) (fun _ => sub_self _ (nm_of_names _ (fun n hn => ?_))) (fun m b' hb => ?_)
      · split at h
        · cases h
        · cases h; rename_i h0; exact ⟨fun _ => rfl, fun h1 => ⟨h1, h0⟩⟩
      · split at h
        · cases h
        · split at h'
          · cases h'
          · cases h; cases h'; rfl
      · rw [if_neg (inpost n (q2 n hn))]
      · have hmem := hget_mem hb
        refine ⟨m, b', by rw [if_neg (by rw [hb]; simp)], hget0 _ hmem, fun j y hj => ⟨y, hj, sub_self _ (nm_of_names _ (fun n hn => ?_))⟩⟩
        have := q1 _ hmem
        rw [Bool.and_eq_true, List.all_eq_true] at this
        have hin : n ∈ namesL b' := namesL_mem hj hn
        rw [if_neg (inpost n (this.2 n hin))]

/-- From the first name to any: where nothing is named. -/
theorem Spec.any {P : Program} {made R : Nat} {f : FuncId} {args : List AV} {r : AV} (h : Spec P 0 made f args [] r []) (ha : nmL (fun _ => False) args) (hr : r.nm fun _ => False) : Spec P R 0 f args [] r [] := by
  obtain ⟨h1, _, h3⟩ := h
  refine ⟨h1, by simp, fun e w vs hl hv H hβ => ?_⟩
  obtain ⟨S, hS⟩ : ∃ S : Nat → Prop, ∀ n, ¬ S n := ⟨fun _ => False, fun _ => id⟩
  have hS0 : S = fun _ => False := by funext n; simp [hS n]
  refine Calls.mono (h3 (e.cut S) w vs hl (fun j a v hj hjv => (hv j a v hj hjv).cut (by rw [hS0]; exact nmL_get ha hj)) (H.cut (by intro n cs hn; simp [hget] at hn)) (fun n _ => cut_out (hS n))) ?_
  rintro en w' ⟨v, e', he, q1, q2, q3, q4⟩
  have hnone : ∀ n, e'.β n = none := fun n => q4 n (Nat.zero_le _) rfl
  have hown : ∀ (e : Env) b, ¬ Owns e (hget []) b := fun e b ho => by obtain ⟨n, s, hn, _⟩ := ho; exact hn rfl
  refine ⟨v, { β := e.β, I := e'.I }, he, ?_, ⟨by intro n cs hn; simp [hget] at hn, by intro n m b s t hn; simp [hget] at hn, q2.Ib⟩, ⟨q3.size, fun b hb ho => q3.keep b hb (hown _ b), q3.shape, fun _ _ => rfl, q3.I, fun b hb => ?_, fun b ho => absurd ho (hown _ b), q3.still⟩, fun n hn _ => hβ n hn⟩
  · exact VR.mono (e := e'.cut S) (e' := { β := e.β, I := e'.I }) ⟨fun n p hp => absurd (cut_some hp).1 (hS n), fun b hb => hb, fun _ _ => rfl, fun _ cs _ _ hc => ⟨cs, hc, rfl⟩⟩ (q1.cut (by rw [hS0]; exact hr))
  · rcases q3.Inew b hb with h | h | h
    · exact .inl h
    · exact absurd h (hown _ b)
    · exact .inr (.inr h)
end Go.Av
