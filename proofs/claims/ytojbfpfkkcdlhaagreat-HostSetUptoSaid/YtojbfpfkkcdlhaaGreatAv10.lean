/- The operations together; names that a value speaks of; contracts of functions; calls. -/
import Derived.Test.YtojbfpfkkcdlhaaGreatAv9
namespace Go.Av
set_option linter.unusedVariables false
set_option linter.unusedSimpArgs false

def v1 (v : AV) : LR := { v := v }

def opCallB (P : Program) (h : HF) (nx : Nat) (b : Builtin) (args : List AV) (ts : List TypeId) : Option LR :=
  match b, args, ts with
  | .len, [x], [t] => (opLen P t x).map v1
  | .append, [x, y], [t, t2] => opAppend P h nx t t2 x y
  | .min, [x, y], _ => (opMin x y).map v1
  | .max, [x, y], _ => (opMax x y).map v1
  | _, _, _ => none

/-- What an operation that calls no function comes to. -/
def opA (P : Program) (h : HF) (nx : Nat) (E : Operand → AV) (op : Op) : Option LR :=
  match op with
  | .move x | .assign x => some (v1 (E x))
  | .pick c a b => match E c with | .bool t => some (v1 (if t then E a else E b)) | _ => none
  | .alloc t => opAlloc P nx t
  | .box _ x => opBox nx (E x)
  | .build t ps => (opBuild P t (ps.toList.map fun p => (p.1, E p.2))).map v1
  | .buildSlice t n ps => opBuildSlice P nx t n (ps.toList.map fun p => (p.1, E p.2))
  | .load t x => opLoad P h t (E x)
  | .store t x y => opStore P h t (E x) (E y)
  | .nilCheck x => (opNil (E x)).map v1
  | .binOp op t x y _ => (opBin P op t (E x) (E y)).map v1
  | .unOp op _ x => (opUn op (E x)).map v1
  | .convert s d x => (opConv P s d (E x)).map v1
  | .makeFunc f fi ca => if fi.size = 0 then (opMakeFunc f [] (ca.toList.map E)).map v1 else none
  | .makeSlice t l c => opMakeSlice P nx t (E l) (E c)
  | .slice t x lo hi mx => (opSlice P t (E x) (lo.map E) (hi.map E) (mx.map E)).map v1
  | .fieldAddr t x f => (opFieldAddr P t (E x) f).map v1
  | .field t x f => (opField P t (E x) f).map v1
  | .indexAddr t x i => (opIndexAddr P t (E x) (E i)).map v1
  | .index t x i => (opIndex P t (E x) (E i)).map v1
  | .extract x i => (opExtract (E x) i).map v1
  | .call c => match c.callee with | .builtin b => opCallB P h nx b (c.args.toList.map E) c.argTypes.toList | _ => none
  | _ => none

theorem opA_ok {P : Program} {o : Oper} {ev : Operand → Value} {E : Operand → AV} {e : Env} {w : World} {h h' : HF} {nx : Nat} {L : LR}
    (hL : opA P h nx E o.op = some L) (hE : ∀ x, VR e w (E x) (ev x)) (H : HR e w h') (hreq : ∀ p ∈ L.req, h' p.1 = some p.2) (hβ : ∀ n, nx ≤ n → n < nx + L.made → e.β n = none) : OkRun P o ev e w h' nx L := by
  have hm : ∀ {x : Option AV}, (x.map v1) = some L → ∃ r, x = some r ∧ L = { v := r } := fun {x} hx => by
    rw [Option.map_eq_some_iff] at hx
    obtain ⟨r, h1, h2⟩ := hx
    exact ⟨r, h1, h2.symm⟩
  have hb1 : L.made = 1 → e.β nx = none := fun h1 => hβ nx (Nat.le_refl _) (by omega)
  have hparts : ∀ (ps : Array (Nat × Operand)) (j i : Nat) (x : Operand), ps[j]? = some (i, x) → ∃ a, (ps.toList.map fun p => (p.1, E p.2))[j]? = some (i, a) ∧ VR e w a (ev x) := fun ps j i x hj =>
    ⟨E x, by simp [hj], hE x⟩
  cases ho : o.op <;> rw [ho] at hL <;> simp only [opA] at hL
  case move x => cases hL; exact opMove_ok (.inl ho) (hE x) H
  case assign x => cases hL; exact opMove_ok (.inr ho) (hE x) H
  case pick c a b =>
    split at hL
    · rename_i t ht
      cases hL
      have hc := hE c
      rw [ht] at hc
      exact opPick_ok ho hc (hE a) (hE b) H
    · cases hL
  case alloc t =>
    have h1 : L.made = 1 := by
      unfold opAlloc at hL; split at hL
      · rw [Option.map_eq_some_iff] at hL; obtain ⟨_, _, rfl⟩ := hL; rfl
      · cases hL
    exact opAlloc_ok ho hL H (hb1 h1)
  case box t x =>
    have h1 : L.made = 1 := by unfold opBox at hL; rw [Option.map_eq_some_iff] at hL; obtain ⟨_, _, rfl⟩ := hL; rfl
    exact opBox_ok ho hL (hE x) H (hb1 h1)
  case build t ps =>
    obtain ⟨r, h1, rfl⟩ := hm hL
    exact opBuild_ok ho (by simp) (hparts ps) h1 H
  case buildSlice t n ps =>
    have h1 : L.made = 1 := by
      unfold opBuildSlice at hL
      split at hL
      · split at hL
        · split at hL
          · rw [Option.map_eq_some_iff] at hL; obtain ⟨_, _, rfl⟩ := hL; rfl
          · cases hL
        · cases hL
      · cases hL
    exact opBuildSlice_ok ho (by simp) (hparts ps) hL H (hb1 h1)
  case load t x => exact opLoad_ok ho hL (hE x) H hreq
  case store t x y => exact opStore_ok ho hL (hE x) (hE y) H hreq
  case nilCheck x => obtain ⟨r, h1, rfl⟩ := hm hL; exact opNil_ok ho h1 (hE x) H
  case binOp op t x y yt => obtain ⟨r, h1, rfl⟩ := hm hL; exact opBin_ok ho h1 (hE x) (hE y) H
  case unOp op t x => obtain ⟨r, h1, rfl⟩ := hm hL; exact opUn_ok ho h1 (hE x) H
  case convert s d x => obtain ⟨r, h1, rfl⟩ := hm hL; exact opConv_ok ho h1 (hE x) H
  case makeFunc f fi ca =>
    split at hL
    · rename_i hfi
      obtain ⟨r, h1, rfl⟩ := hm hL
      exact opMakeFunc_ok ho hfi (by simp) (fun j x hj => ⟨E x, by simp [hj], hE x⟩) h1 H
    · cases hL
  case makeSlice t l c =>
    have h1 : L.made = 1 := by
      unfold opMakeSlice at hL
      split at hL
      · split at hL
        · split at hL
          · cases hL; rfl
          · cases hL
        · cases hL
      · cases hL
    exact opMakeSlice_ok ho hL (hE l) (hE c) H (hb1 h1)
  case slice t x lo hi mx =>
    obtain ⟨r, h1, rfl⟩ := hm hL
    have q : ∀ (oo : Option Operand) (a : AV) (y : Operand), oo.map E = some a → oo = some y → VR e w a (ev y) := fun oo a y h1 h2 => by
      subst h2; cases h1; exact hE y
    exact opSlice_ok ho h1 (hE x) (by simp) (q lo) (by simp) (q hi) (by simp) (q mx) H
  case fieldAddr t x f => obtain ⟨r, h1, rfl⟩ := hm hL; exact opFieldAddr_ok ho h1 (hE x) H
  case field t x f => obtain ⟨r, h1, rfl⟩ := hm hL; exact opField_ok ho h1 (hE x) H
  case indexAddr t x i => obtain ⟨r, h1, rfl⟩ := hm hL; exact opIndexAddr_ok ho h1 (hE x) (hE i) H
  case index t x i => obtain ⟨r, h1, rfl⟩ := hm hL; exact opIndex_ok ho h1 (hE x) (hE i) H
  case extract x i => obtain ⟨r, h1, rfl⟩ := hm hL; exact opExtract_ok ho h1 (hE x) H
  case call c =>
    obtain ⟨cal, args, ts⟩ := c
    cases cal with
    | value f => cases hL
    | invoke r m => cases hL
    | builtin b =>
      simp only at hL
      have one : ∀ x, args.toList.map E = [x] → ∃ y, args = #[y] ∧ E y = x := fun x hx => by
        obtain ⟨l⟩ := args
        cases l with
        | nil => simp at hx
        | cons y l => cases l with
          | nil => simp at hx; exact ⟨y, rfl, hx⟩
          | cons z l => simp at hx
      have two : ∀ x x', args.toList.map E = [x, x'] → ∃ y y', args = #[y, y'] ∧ E y = x ∧ E y' = x' := fun x x' hx => by
        obtain ⟨l⟩ := args
        cases l with
        | nil => simp at hx
        | cons y l => cases l with
          | nil => simp at hx
          | cons z l => cases l with
            | nil => simp at hx; exact ⟨y, z, rfl, hx⟩
            | cons u l => simp at hx
      have tone : ∀ t, ts.toList = [t] → ts = #[t] := fun t ht => by obtain ⟨l⟩ := ts; simp at ht; rw [ht]
      have ttwo : ∀ t t', ts.toList = [t, t'] → ts = #[t, t'] := fun t t' ht => by obtain ⟨l⟩ := ts; simp at ht; rw [ht]
      unfold opCallB at hL
      split at hL
      · rename_i x t hx ht
        obtain ⟨y, rfl, hy⟩ := one _ hx
        have := tone _ ht
        subst this
        obtain ⟨r, h1, rfl⟩ := hm hL
        rw [← hy] at h1
        exact opLen_ok ho h1 (hE y) H
      · rename_i x x' t t' hx ht
        obtain ⟨y, y', rfl, hy, hy'⟩ := two _ _ hx
        have := ttwo _ _ ht
        subst this
        rw [← hy, ← hy'] at hL
        have h1 : L.made = 1 := by
          unfold opAppend at hL
          split at hL
          · split at hL
            · split at hL
              · cases hL; rfl
              · cases hL
            · cases hL
          · cases hL
        exact opAppend_ok ho hL (hE y) (hE y') H hreq (hb1 h1)
      · rename_i x x' hx
        obtain ⟨y, y', rfl, hy, hy'⟩ := two _ _ hx
        obtain ⟨r, h1, rfl⟩ := hm hL
        rw [← hy, ← hy'] at h1
        exact opMin_ok ho h1 (hE y) (hE y') H
      · rename_i x x' hx
        obtain ⟨y, y', rfl, hy, hy'⟩ := two _ _ hx
        obtain ⟨r, h1, rfl⟩ := hm hL
        rw [← hy, ← hy'] at h1
        exact opMax_ok ho h1 (hE y) (hE y') H
      · cases hL
  all_goals cases hL

theorem opA_congr {P : Program} {h : HF} {nx : Nat} {E E' : Operand → AV} {op : Op} (he : ∀ x ∈ op.operands, E x = E' x) : opA P h nx E op = opA P h nx E' op := by
  have hmap : ∀ (xs : Array Operand), (∀ x ∈ xs, x ∈ op.operands) → xs.toList.map E = xs.toList.map E' := fun xs hxs =>
    List.map_congr_left (fun x hx => he x (hxs x (by simpa using hx)))
  have hmap2 : ∀ (ps : Array (Nat × Operand)), (∀ p ∈ ps, p.2 ∈ op.operands) → (ps.toList.map fun p => (p.1, E p.2)) = ps.toList.map fun p => (p.1, E' p.2) := fun ps hps =>
    List.map_congr_left (fun p hp => by rw [he p.2 (hps p (by simpa using hp))])
  have hopt : ∀ (x : Option Operand), (∀ y, x = some y → y ∈ op.operands) → x.map E = x.map E' := fun x hx => by
    cases x with
    | none => rfl
    | some y => simp [he y (hx y rfl)]
  cases op <;> simp only [opA] <;> try rfl
  case move x => rw [he x (by simp [Op.operands])]
  case assign x => rw [he x (by simp [Op.operands])]
  case pick c a b => rw [he c (by simp [Op.operands]), he a (by simp [Op.operands]), he b (by simp [Op.operands])]
  case box t x => rw [he x (by simp [Op.operands])]
  case build t ps => rw [hmap2 ps (fun p hp => by simp only [Op.operands, List.mem_toArray, List.mem_map]; exact ⟨p, by simpa using hp, rfl⟩)]
  case buildSlice t n ps => rw [hmap2 ps (fun p hp => by simp only [Op.operands, List.mem_toArray, List.mem_map]; exact ⟨p, by simpa using hp, rfl⟩)]
  case load t x => rw [he x (by simp [Op.operands])]
  case store t x y => rw [he x (by simp [Op.operands]), he y (by simp [Op.operands])]
  case nilCheck x => rw [he x (by simp [Op.operands])]
  case binOp op t x y yt => rw [he x (by simp [Op.operands]), he y (by simp [Op.operands])]
  case unOp op t x => rw [he x (by simp [Op.operands])]
  case convert s d x => rw [he x (by simp [Op.operands])]
  case makeFunc f fi ca => rw [hmap ca (fun x hx => by simp only [Op.operands, Array.mem_append]; exact .inr hx)]
  case makeSlice t l c => rw [he l (by simp [Op.operands]), he c (by simp [Op.operands])]
  case slice t x lo hi mx =>
    rw [he x (by simp [Op.operands]), hopt lo (fun y hy => by simp [Op.operands, hy]), hopt hi (fun y hy => by simp [Op.operands, hy]), hopt mx (fun y hy => by simp [Op.operands, hy])]
  case fieldAddr t x f => rw [he x (by simp [Op.operands])]
  case field t x f => rw [he x (by simp [Op.operands])]
  case indexAddr t x i => rw [he x (by simp [Op.operands]), he i (by simp [Op.operands])]
  case index t x i => rw [he x (by simp [Op.operands]), he i (by simp [Op.operands])]
  case extract x i => rw [he x (by simp [Op.operands])]
  case call c =>
    obtain ⟨cal, args, ts⟩ := c
    cases cal with
    | value f => rfl
    | invoke r m => rfl
    | builtin b => simp only; rw [hmap args (fun x hx => by simp [Op.operands, Call.operands]; exact hx)]

end Go.Av
