/- Equations by which code is run on abstract states, and the rules at calls, loops and returns. -/
import Derived.Test.YtojbfpfkkcdlhaaGreatAv14
namespace Go.Av
set_option linter.unusedVariables false
set_option linter.unusedSimpArgs false

abbrev T (n : Nat) : Operand := .tmp n
abbrev K (n : Int) : Operand := .const (.int .i64 n)

theorem nm_mono {S S' : Nat → Prop} (h : ∀ n, S n → S' n) : ∀ {a : AV}, a.nm S → a.nm S'
  | .ptr n _, ha => by simp only [AV.nm] at ha ⊢; exact h n ha
  | .osl n _ _ _ _, ha => by simp only [AV.nm] at ha ⊢; exact h n ha
  | .iptr cs _, ha => by simp only [AV.nm] at ha ⊢; exact nmL_mono h ha
  | .vsl cs _ _, ha => by simp only [AV.nm] at ha ⊢; exact nmL_mono h ha
  | .agg cs, ha => by simp only [AV.nm] at ha ⊢; exact nmL_mono h ha
  | .tup cs, ha => by simp only [AV.nm] at ha ⊢; exact nmL_mono h ha
  | .fn _ cs, ha => by simp only [AV.nm] at ha ⊢; exact nmL_mono h ha
  | .any, _ => trivial
  | .int _ _, _ => trivial
  | .bool _, _ => trivial
  | .anyb, _ => trivial
  | .str _, _ => trivial
  | .nilsl, _ => trivial
  | .nilptr, _ => trivial
  | .nilfn, _ => trivial
  | .nilif, _ => trivial
where
  nmL_mono {S S' : Nat → Prop} (h : ∀ n, S n → S' n) : ∀ {l : List AV}, nmL S l → nmL S' l
    | [], _ => trivial
    | _ :: _, hl => ⟨nm_mono h hl.1, nmL_mono h hl.2⟩

section
variable {P : Program} {R : Nat}

/-! continuations that stay closed -/
def seqK (P : Program) (R : Nat) (b : BC) (Q : AX → St → Prop) : AX → St → Prop := fun x s' => match x with | .normal => awb P R b Q s' | x => Q x s'
def blockK (id : Nat) (Q : AX → St → Prop) : AX → St → Prop := fun x s' => match x with | .exit i => if i = id then Q .normal s' else Q (.exit i) s' | x => Q x s'
def retK (P : Program) (R : Nat) (rv : Array ResultVar) (r : AV) (post : Heap) : AX → St → Prop := fun x s => (x = .normal ∨ x = .ret) ∧ RetOK P R rv s r post
def loopK (P : Program) (R : Nat) (b : BC) (Q : AX → St → Prop) (s : St) : Prop := awb P R (.loop b) Q s

theorem seqK_normal (b : BC) (Q : AX → St → Prop) (s : St) : seqK P R b Q .normal s = awb P R b Q s := rfl
theorem seqK_exit (b : BC) (Q : AX → St → Prop) (i : Nat) (s : St) : seqK P R b Q (.exit i) s = Q (.exit i) s := rfl
theorem seqK_ret (b : BC) (Q : AX → St → Prop) (s : St) : seqK P R b Q .ret s = Q .ret s := rfl
theorem blockK_normal (id : Nat) (Q : AX → St → Prop) (s : St) : blockK id Q .normal s = Q .normal s := rfl
theorem blockK_exit (id i : Nat) (Q : AX → St → Prop) (s : St) : blockK id Q (.exit i) s = if i = id then Q .normal s else Q (.exit i) s := rfl
theorem blockK_ret (id : Nat) (Q : AX → St → Prop) (s : St) : blockK id Q .ret s = Q .ret s := rfl
theorem retK_normal (rv : Array ResultVar) (r : AV) (post : Heap) (s : St) : retK P R rv r post .normal s = RetOK P R rv s r post := by simp [retK]
theorem retK_ret (rv : Array ResultVar) (r : AV) (post : Heap) (s : St) : retK P R rv r post .ret s = RetOK P R rv s r post := by simp [retK]

theorem awb_skip (Q : AX → St → Prop) (s : St) : awb P R .skip Q s = Q .normal s := propext Iff.rfl
theorem awb_ret (Q : AX → St → Prop) (s : St) : awb P R .ret Q s = Q .ret s := propext Iff.rfl
theorem awb_exit (id : Nat) (Q : AX → St → Prop) (s : St) : awb P R (.exit id) Q s = Q (.exit id) s := propext Iff.rfl
theorem awb_seq (a b : BC) (Q : AX → St → Prop) (s : St) : awb P R (.seq a b) Q s = awb P R a (seqK P R b Q) s := propext Iff.rfl
theorem awb_block (id : Nat) (b : BC) (Q : AX → St → Prop) (s : St) : awb P R (.block id b) Q s = awb P R b (blockK id Q) s := propext Iff.rfl
theorem awb_loop (b : BC) (Q : AX → St → Prop) (s : St) : awb P R (.loop b) Q s = loopK P R b Q s := propext Iff.rfl
theorem awb_reg (ops : List ROp) (U : List (Nat × Nat)) (Q : AX → St → Prop) (rs : List (Nat × AV)) (H : Heap) (nx : Nat) : awb P R (.reg ops U) Q ⟨rs, H, nx⟩ = regC P U ops [] rs H nx (Q .normal) := propext Iff.rfl

def condK (P : Program) (R : Nat) (a b : BC) (Q : AX → St → Prop) (s : St) : AV → Prop
  | .bool t => (t = true → awb P R a Q s) ∧ (t = false → awb P R b Q s)
  | .anyb => awb P R a Q s ∧ awb P R b Q s
  | _ => False
theorem awb_cond (c : Operand) (a b : BC) (Q : AX → St → Prop) (rs : List (Nat × AV)) (H : Heap) (nx : Nat) : awb P R (.cond c a b) Q ⟨rs, H, nx⟩ = condK P R a b Q ⟨rs, H, nx⟩ (oev (rget rs) c) := by
  simp only [awb]
  cases oev (rget rs) c <;> rfl
theorem condK_bool (a b : BC) (Q : AX → St → Prop) (s : St) (t : Bool) : condK P R a b Q s (.bool t) = ((t = true → awb P R a Q s) ∧ (t = false → awb P R b Q s)) := rfl

theorem condK_anyb (a b : BC) (Q : AX → St → Prop) (s : St) : condK P R a b Q s .anyb = (awb P R a Q s ∧ awb P R b Q s) := rfl

/-! registers -/
theorem rget_cons (d t : Nat) (v : AV) (l : List (Nat × AV)) : rget ((d, v) :: l) t = if t = d then v else rget l t := rfl
theorem rget_nil (t : Nat) : rget [] t = .any := rfl
theorem oev_T (ρ : RF) (t : Nat) : oev ρ (.tmp t) = ρ t := rfl
theorem oev_int (ρ : RF) (k : IntKind) (n : Int) : oev ρ (.const (.int k n)) = .int k n := rfl
theorem oev_bool (ρ : RF) (b : Bool) : oev ρ (.const (.bool b)) = .bool b := rfl
theorem oev_str (ρ : RF) (s : ByteArray) : oev ρ (.const (.string s)) = .str s := rfl
theorem oev_nilsl (ρ : RF) : oev ρ (.const (.slice none 0 0)) = .nilsl := rfl
theorem oev_nilptr (ρ : RF) : oev ρ (.const (.pointer none)) = .nilptr := rfl
theorem oev_nilfn (ρ : RF) : oev ρ (.const .nilFunc) = .nilfn := rfl
theorem oev_func (ρ : RF) (f : FuncId) : oev ρ (.func f) = .fn f [] := rfl
theorem oev_agg (ρ : RF) (cs : Array Value) : oev ρ (.const (.agg cs)) = ofV (.agg cs) := rfl

/-! operations -/
variable {U : List (Nat × Nat)} {l : List ROp} {dn : List (Nat × List Nat × List Nat)} {rs : List (Nat × AV)} {H : Heap} {nx : Nat} {Kk : St → Prop}

/-- Behind an operation by value. -/
def regV (P : Program) (U : List (Nat × Nat)) (l : List ROp) (dn : List (Nat × List Nat × List Nat)) (d : Nat) (rs : List (Nat × AV)) (H : Heap) (nx : Nat) (Kk : St → Prop) : Option AV → Prop
  | some v => regC P U l dn ((d, v) :: rs) H nx Kk
  | none => False
theorem regV_some (d : Nat) (v : AV) : regV P U l dn d rs H nx Kk (some v) = regC P U l dn ((d, v) :: rs) H nx Kk := rfl

/-- Behind an operation with blocks. -/
def regL (P : Program) (U : List (Nat × Nat)) (l : List ROp) (dn : List (Nat × List Nat × List Nat)) (i : Nat) (d : Option Nat) (rs : List (Nat × AV)) (H : Heap) (nx : Nat) (Kk : St → Prop) : Option LR → Prop
  | some L => chk U dn i (L.req.map (·.1)) (L.ups.map (·.1)) ∧ regC P U l (pushD i (L.req.map (·.1)) (L.ups.map (·.1)) dn) (rput rs d L.v) (hups H L.ups) (nx + L.made) Kk
  | none => False
theorem regL_some (i : Nat) (d : Option Nat) (v : AV) (rq : List (Nat × Blk)) (up : List (Nat × Option Blk)) (m : Nat) : regL P U l dn i d rs H nx Kk (some { v := v, req := rq, ups := up, made := m }) =
    (chk U dn i (rq.map (·.1)) (up.map (·.1)) ∧ regC P U l (pushD i (rq.map (·.1)) (up.map (·.1)) dn) (rput rs d v) (hups H up) (nx + m) Kk) := rfl

def regK (P : Program) (U : List (Nat × Nat)) (l : List ROp) (dn : List (Nat × List Nat × List Nat)) (i : Nat) (d : Option Nat) (rs : List (Nat × AV)) (Kk : St → Prop) : List Nat → List Nat → AV → Heap → Nat → Prop :=
  fun rq up r H' nx' => chk U dn i rq up ∧ regC P U l (pushD i rq up dn) (rput rs d r) H' nx' Kk
theorem regK_eq (i : Nat) (d : Option Nat) (rq up : List Nat) (r : AV) : regK P U l dn i d rs Kk rq up r H nx = (chk U dn i rq up ∧ regC P U l (pushD i rq up dn) (rput rs d r) H nx Kk) := rfl

def regG (P : Program) (U : List (Nat × Nat)) (o : ROp) (b : Bool) (l : List ROp) (dn : List (Nat × List Nat × List Nat)) (rs : List (Nat × AV)) (H : Heap) (nx : Nat) (Kk : St → Prop) : AV → Prop
  | .bool t => (t = b → regC P U (o :: l) dn rs H nx Kk) ∧ (t = (!b) → regC P U l dn (rput rs o.dst (.tup [])) H nx Kk)
  | .tup [] => regC P U l dn (rput rs o.dst (.tup [])) H nx Kk
  | _ => False
theorem regG_bool (o : ROp) (b t : Bool) : regG P U o b l dn rs H nx Kk (.bool t) = ((t = b → regC P U (o :: l) dn rs H nx Kk) ∧ (t = (!b) → regC P U l dn (rput rs o.dst (.tup [])) H nx Kk)) := rfl

theorem regG_tup (o : ROp) (b : Bool) : regG P U o b l dn rs H nx Kk (.tup []) = regC P U l dn (rput rs o.dst (.tup [])) H nx Kk := rfl

theorem regC_guard (i : Nat) (d : Option Nat) (op : Op) (g : Nat) (b : Bool) : regC P U (⟨i, d, op, some (g, b)⟩ :: l) dn rs H nx Kk = regG P U ⟨i, d, op, none⟩ b l dn rs H nx Kk (rget rs g) := by
  simp only [regC, wantsR, regG]
  cases hg : rget rs g with
  | bool t =>
    by_cases hb : t = b
    · subst hb; simp only [decide_true, true_implies]
      cases t <;> simp
    · have : t = !b := by cases t <;> cases b <;> simp_all
      subst this
      cases b <;> simp
  | tup l => cases l <;> rfl
  | _ => rfl

theorem chk_empty (i : Nat) : chk U dn i [] [] = True := by simp [chk]

theorem regC_nil : regC P U [] dn rs H nx Kk = Kk ⟨rs, H, nx⟩ := propext Iff.rfl


theorem pushD_nil (i : Nat) (dn : List (Nat × List Nat × List Nat)) : pushD i [] [] dn = dn := rfl
theorem rput_some (d : Nat) (v : AV) : rput rs (some d) v = (d, v) :: rs := rfl
theorem rput_none (v : AV) : rput rs none v = rs := rfl

theorem pureOp {i d : Nat} {op : Op} {x : Option AV} (hne : ∀ f args ts, op ≠ .call ⟨.value f, args, ts⟩) (h : opA P (hget H) nx (oev (rget rs)) op = x.map v1) :
    regC P U (⟨i, some d, op, none⟩ :: l) dn rs H nx Kk = regV P U l dn d rs H nx Kk x := by
  have e : regC P U (⟨i, some d, op, none⟩ :: l) dn rs H nx Kk = (match opA P (hget H) nx (oev (rget rs)) op with
        | none => False
        | some L => chk U dn i (L.req.map (·.1)) (L.ups.map (·.1)) ∧ regC P U l (pushD i (L.req.map (·.1)) (L.ups.map (·.1)) dn) (rput rs (some d) L.v) (hups H L.ups) (nx + L.made) Kk) := by
    cases op
    case call c =>
      obtain ⟨cal, args, ts⟩ := c
      cases cal
      case value f => exact absurd rfl (hne f args ts)
      all_goals rfl
    all_goals rfl
  rw [e, h]
  cases x with
  | none => rfl
  | some v => simp [v1, regV, chk_empty, pushD_nil, rput_some, hups]

theorem blkOp {i : Nat} {d : Option Nat} {op : Op} {x : Option LR} (hne : ∀ f args ts, op ≠ .call ⟨.value f, args, ts⟩) (h : opA P (hget H) nx (oev (rget rs)) op = x) :
    regC P U (⟨i, d, op, none⟩ :: l) dn rs H nx Kk = regL P U l dn i d rs H nx Kk x := by
  have e : regC P U (⟨i, d, op, none⟩ :: l) dn rs H nx Kk = (match opA P (hget H) nx (oev (rget rs)) op with
        | none => False
        | some L => chk U dn i (L.req.map (·.1)) (L.ups.map (·.1)) ∧ regC P U l (pushD i (L.req.map (·.1)) (L.ups.map (·.1)) dn) (rput rs d L.v) (hups H L.ups) (nx + L.made) Kk) := by
    cases op
    case call c =>
      obtain ⟨cal, args, ts⟩ := c
      cases cal
      case value f => exact absurd rfl (hne f args ts)
      all_goals rfl
    all_goals rfl
  rw [e, h]
  cases x <;> rfl

def opPick (c a b : AV) : Option AV := match c with | .bool t => some (if t then a else b) | _ => none
theorem opPick_bool (t : Bool) (a b : AV) : opPick (.bool t) a b = some (if t then a else b) := rfl

variable {i d : Nat} {x y z : Operand}
theorem r_move : regC P U (⟨i, some d, .move x, none⟩ :: l) dn rs H nx Kk = regC P U l dn ((d, oev (rget rs) x) :: rs) H nx Kk := pureOp (x := some (oev (rget rs) x)) (by simp) rfl
theorem r_assign : regC P U (⟨i, some d, .assign x, none⟩ :: l) dn rs H nx Kk = regC P U l dn ((d, oev (rget rs) x) :: rs) H nx Kk := pureOp (x := some (oev (rget rs) x)) (by simp) rfl
theorem r_pick : regC P U (⟨i, some d, .pick x y z, none⟩ :: l) dn rs H nx Kk = regV P U l dn d rs H nx Kk (opPick (oev (rget rs) x) (oev (rget rs) y) (oev (rget rs) z)) :=
  pureOp (by simp) (by simp only [opA, opPick]; cases oev (rget rs) x <;> rfl)
theorem r_build (t : TypeId) (ps : Array (Nat × Operand)) : regC P U (⟨i, some d, .build t ps, none⟩ :: l) dn rs H nx Kk = regV P U l dn d rs H nx Kk (opBuild P t (ps.toList.map fun p => (p.1, oev (rget rs) p.2))) := pureOp (by simp) rfl
theorem r_nilCheck : regC P U (⟨i, some d, .nilCheck x, none⟩ :: l) dn rs H nx Kk = regV P U l dn d rs H nx Kk (opNil (oev (rget rs) x)) := pureOp (by simp) rfl
theorem r_binOp (op : BinOp) (t u : TypeId) : regC P U (⟨i, some d, .binOp op t x y u, none⟩ :: l) dn rs H nx Kk = regV P U l dn d rs H nx Kk (opBin P op t (oev (rget rs) x) (oev (rget rs) y)) := pureOp (by simp) rfl
theorem r_unOp (op : UnOp) (t : TypeId) : regC P U (⟨i, some d, .unOp op t x, none⟩ :: l) dn rs H nx Kk = regV P U l dn d rs H nx Kk (opUn op (oev (rget rs) x)) := pureOp (by simp) rfl
theorem r_convert (s t : TypeId) : regC P U (⟨i, some d, .convert s t x, none⟩ :: l) dn rs H nx Kk = regV P U l dn d rs H nx Kk (opConv P s t (oev (rget rs) x)) := pureOp (by simp) rfl
theorem r_makeFunc (f : FuncId) (ca : Array Operand) : regC P U (⟨i, some d, .makeFunc (.func f) #[] ca, none⟩ :: l) dn rs H nx Kk = regC P U l dn ((d, .fn f (ca.toList.map (oev (rget rs)))) :: rs) H nx Kk :=
  pureOp (x := some (.fn f (ca.toList.map (oev (rget rs))))) (by simp) rfl
theorem r_slice (t : TypeId) (lo hi mx : Option Operand) : regC P U (⟨i, some d, .slice t x lo hi mx, none⟩ :: l) dn rs H nx Kk = regV P U l dn d rs H nx Kk (opSlice P t (oev (rget rs) x) (lo.map (oev (rget rs))) (hi.map (oev (rget rs))) (mx.map (oev (rget rs)))) := pureOp (by simp) rfl
theorem r_fieldAddr (t : TypeId) (f : Nat) : regC P U (⟨i, some d, .fieldAddr t x f, none⟩ :: l) dn rs H nx Kk = regV P U l dn d rs H nx Kk (opFieldAddr P t (oev (rget rs) x) f) := pureOp (by simp) rfl
theorem r_field (t : TypeId) (f : Nat) : regC P U (⟨i, some d, .field t x f, none⟩ :: l) dn rs H nx Kk = regV P U l dn d rs H nx Kk (opField P t (oev (rget rs) x) f) := pureOp (by simp) rfl
theorem r_indexAddr (t : TypeId) : regC P U (⟨i, some d, .indexAddr t x y, none⟩ :: l) dn rs H nx Kk = regV P U l dn d rs H nx Kk (opIndexAddr P t (oev (rget rs) x) (oev (rget rs) y)) := pureOp (by simp) rfl
theorem r_index (t : TypeId) : regC P U (⟨i, some d, .index t x y, none⟩ :: l) dn rs H nx Kk = regV P U l dn d rs H nx Kk (opIndex P t (oev (rget rs) x) (oev (rget rs) y)) := pureOp (by simp) rfl
theorem r_extract (k : Nat) : regC P U (⟨i, some d, .extract x k, none⟩ :: l) dn rs H nx Kk = regV P U l dn d rs H nx Kk (opExtract (oev (rget rs) x) k) := pureOp (by simp) rfl
theorem r_len (t : TypeId) : regC P U (⟨i, some d, .call ⟨.builtin .len, #[x], #[t]⟩, none⟩ :: l) dn rs H nx Kk = regV P U l dn d rs H nx Kk (opLen P t (oev (rget rs) x)) := pureOp (by simp) rfl
theorem r_min (ts : Array TypeId) : regC P U (⟨i, some d, .call ⟨.builtin .min, #[x, y], ts⟩, none⟩ :: l) dn rs H nx Kk = regV P U l dn d rs H nx Kk (opMin (oev (rget rs) x) (oev (rget rs) y)) := pureOp (by simp) rfl
theorem r_max (ts : Array TypeId) : regC P U (⟨i, some d, .call ⟨.builtin .max, #[x, y], ts⟩, none⟩ :: l) dn rs H nx Kk = regV P U l dn d rs H nx Kk (opMax (oev (rget rs) x) (oev (rget rs) y)) := pureOp (by simp) rfl
variable {dd : Option Nat}
theorem r_alloc (t : TypeId) : regC P U (⟨i, dd, .alloc t, none⟩ :: l) dn rs H nx Kk = regL P U l dn i dd rs H nx Kk (opAlloc P nx t) := blkOp (by simp) rfl
theorem r_box (t : TypeId) : regC P U (⟨i, dd, .box t x, none⟩ :: l) dn rs H nx Kk = regL P U l dn i dd rs H nx Kk (opBox nx (oev (rget rs) x)) := blkOp (by simp) rfl
theorem r_buildSlice (t : TypeId) (n : Nat) (ps : Array (Nat × Operand)) : regC P U (⟨i, dd, .buildSlice t n ps, none⟩ :: l) dn rs H nx Kk = regL P U l dn i dd rs H nx Kk (opBuildSlice P nx t n (ps.toList.map fun p => (p.1, oev (rget rs) p.2))) := blkOp (by simp) rfl
theorem r_load (t : TypeId) : regC P U (⟨i, dd, .load t x, none⟩ :: l) dn rs H nx Kk = regL P U l dn i dd rs H nx Kk (opLoad P (hget H) t (oev (rget rs) x)) := blkOp (by simp) rfl
theorem r_store (t : TypeId) : regC P U (⟨i, dd, .store t x y, none⟩ :: l) dn rs H nx Kk = regL P U l dn i dd rs H nx Kk (opStore P (hget H) t (oev (rget rs) x) (oev (rget rs) y)) := blkOp (by simp) rfl
theorem r_makeSlice (t : TypeId) : regC P U (⟨i, dd, .makeSlice t x y, none⟩ :: l) dn rs H nx Kk = regL P U l dn i dd rs H nx Kk (opMakeSlice P nx t (oev (rget rs) x) (oev (rget rs) y)) := blkOp (by simp) rfl
theorem r_append (t t2 : TypeId) : regC P U (⟨i, dd, .call ⟨.builtin .append, #[x, y], #[t, t2]⟩, none⟩ :: l) dn rs H nx Kk = regL P U l dn i dd rs H nx Kk (opAppend P (hget H) nx t t2 (oev (rget rs) x) (oev (rget rs) y)) := blkOp (by simp) rfl
theorem r_call (f : Operand) (args : Array Operand) (ts : Array TypeId) : regC P U (⟨i, dd, .call ⟨.value f, args, ts⟩, none⟩ :: l) dn rs H nx Kk = callC P (oev (rget rs) f) (args.toList.map (oev (rget rs))) H nx (regK P U l dn i dd rs Kk) := propext Iff.rfl

end

/-! rules -/
/-- Results by value: no block is handed over. -/
theorem ret_pure {P : Program} {R : Nat} {rv : Array ResultVar} {s : St} {r : AV} (h : resA P rv s = some r) (hr : r.nm (fun _ => False)) : RetOK P R rv s r [] :=
  ⟨r, h, vs_sub (fun _ => none) (fun _ => False) (by simp) (by simp) (by simp) (fun _ => .refl r hr) (by simp [hget])⟩

/-- A call that takes and gives values alone. -/
theorem call_val {P : Program} {fid : Nat} {caps args : List AV} {H : Heap} {nx : Nat} {r : AV} {Kk : List Nat → List Nat → AV → Heap → Nat → Prop}
    (hs : Spec P nx 0 fid (args ++ caps) [] r []) (hn : nmL (fun _ => False) (args ++ caps)) (hk : Kk [] [] r H nx) : callC P (.fn fid caps) args H nx Kk :=
  ⟨fid, caps, 0, [], [], r, rfl, hs, by
    rw [nmL_iff] at hn ⊢
    intro a ha
    exact nm_mono (fun _ h => h.elim) (hn a ha), by simp, by simp, by simpa [callUps, hups] using hk⟩

end Go.Av
