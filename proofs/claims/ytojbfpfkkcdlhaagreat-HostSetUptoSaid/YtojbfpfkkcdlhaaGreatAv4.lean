/- The operations on abstract values, second part: arithmetic, addresses, new blocks, slices. -/
import Derived.Test.YtojbfpfkkcdlhaaGreatAv3
namespace Go.Av
set_option linter.unusedVariables false
set_option linter.unusedSimpArgs false

/-- A value that is computed without touching memory. -/
def opInt (op : BinOp) (k : IntKind) (a b : Int) : Option AV :=
  match op with
  | .add => some (.int k (k.wrap (a + b)))
  | .sub => some (.int k (k.wrap (a - b)))
  | .mul => some (.int k (k.wrap (a * b)))
  | .quo => if b = 0 then none else some (.int k (k.wrap (a.tdiv b)))
  | .rem => if b = 0 then none else some (.int k (a.tmod b))
  | .and => some (.int k (k.wrap (BitVec.ofInt k.bits a &&& BitVec.ofInt k.bits b).toNat))
  | .or => some (.int k (k.wrap (BitVec.ofInt k.bits a ||| BitVec.ofInt k.bits b).toNat))
  | .xor => some (.int k (k.wrap (BitVec.ofInt k.bits a ^^^ BitVec.ofInt k.bits b).toNat))
  | .eql => some (.bool (decide (a = b)))
  | .neq => some (.bool (!decide (a = b)))
  | .lss => some (.bool (decide (a < b)))
  | .leq => some (.bool (decide (a ≤ b)))
  | .gtr => some (.bool (decide (b < a)))
  | .geq => some (.bool (decide (b ≤ a)))
  | _ => none

def opStr (op : BinOp) (a b : ByteArray) : Option AV :=
  match op with
  | .add => if a.size + b.size ≤ 1099511627776 then some (.str (a ++ b)) else none
  | .eql => some (.bool (decide (a = b)))
  | .neq => some (.bool (!decide (a = b)))
  | _ => none

def opShift (op : BinOp) (k : IntKind) (a b : Int) : Option AV :=
  if b < 0 then none else
  match op with
  | .shl => some (.int k (k.wrap (a * 2 ^ (min b.toNat k.bits))))
  | .shr => some (.int k (a.fdiv (2 ^ (min b.toNat k.bits))))
  | _ => none

/-- Equality of two cells of a plain type. -/
def eqCellT (P : Program) (t : TypeId) (x y : AV) : Option Bool :=
  match P.underlying t, x, y with
  | some (.int _), .int k a, .int k' b => if k = k' then some (decide (a = b)) else none
  | some .bool, .bool a, .bool b => some (decide (a = b))
  | some .string, .str a, .str b => some (decide (a = b))
  | _, _, _ => none

def eqCellsT (P : Program) : List Field → Nat → List AV → List AV → Option Bool
  | [], _, [], [] => some true
  | f :: fs, i, a :: l, b :: m =>
    if f.name ≠ "_" ∧ f.offset = i then
      match eqCellT P f.type a b, eqCellsT P fs (i + 1) l m with
      | some x, some y => some (x && y)
      | _, _ => none
    else none
  | _, _, _, _ => none

/-- Equality of structs of plain cells. -/
def opEqA (P : Program) (t : TypeId) (l m : List AV) : Option Bool :=
  match P.underlying t with
  | some (.struct fs) => if P.stoodInHeld t = false ∧ P.eqGuardType P.depth t = false then eqCellsT P fs.toList 0 l m else none
  | _ => none

/-- A slice against nil. -/
def opSlNil (P : Program) (op : BinOp) (t : TypeId) (x : AV) : Option AV :=
  match P.underlying t with
  | some (.slice _) =>
    match op, x with
    | .eql, .nilsl => some (.bool true)
    | .neq, .nilsl => some (.bool false)
    | .eql, .osl _ _ (_ + 1) _ _ | .eql, .vsl _ (_ + 1) _ => some (.bool false)
    | .neq, .osl _ _ (_ + 1) _ _ | .neq, .vsl _ (_ + 1) _ => some (.bool true)
    | .eql, .osl .. | .eql, .vsl .. | .neq, .osl .. | .neq, .vsl .. => some .anyb
    | _, _ => none
  | _ => none

def opBin (P : Program) (op : BinOp) (t : TypeId) (x y : AV) : Option AV :=
  match x, y with
  | .int k a, .int k' b => if op = .shl ∨ op = .shr then opShift op k a b else if k = k' then opInt op k a b else none
  | .str a, .str b => opStr op a b
  | .bool a, .bool b =>
    match P.underlying t, op with
    | some .bool, .eql => some (.bool (decide (a = b)))
    | some .bool, .neq => some (.bool (!decide (a = b)))
    | _, _ => none
  | .agg l, .agg m =>
    match op, opEqA P t l m with
    | .eql, some b => some (.bool b)
    | .neq, some b => some (.bool (!b))
    | _, _ => none
  | x, .nilsl => opSlNil P op t x
  | _, _ => none

theorem toList_decide (a b : ByteArray) : (a.toList == b.toList) = decide (a = b) := by
  rw [ByteArray.toList_eq, ByteArray.toList_eq]
  by_cases h : a = b
  · subst h; simp
  · have : ¬ a.data = b.data := fun e => h (ByteArray.ext e)
    simp [h, this]

theorem opInt_run {P : Program} {op : BinOp} {k : IntKind} {a b : Int} {r : AV} (h : opInt op k a b = some r) (t : TypeId) (w : World) :
    ∃ v, (binOp op t (.int k a) (.int k b)).run P w = .ok v w ∧ ∀ e, VR e w r v := by
  have mk : ∀ v, (binOp op t (.int k a) (.int k b)).run P w = .ok v w → (∀ e, VR e w r v) → ∃ v, (binOp op t (.int k a) (.int k b)).run P w = .ok v w ∧ ∀ e, VR e w r v := fun v h1 h2 => ⟨v, h1, h2⟩
  cases op <;> simp only [opInt] at h
  case add => cases h; exact mk _ (by simp [binOp, Op.intArith]) fun e => .int _ _
  case sub => cases h; exact mk _ (by simp [binOp, Op.intArith]) fun e => .int _ _
  case mul => cases h; exact mk _ (by simp [binOp, Op.intArith]) fun e => .int _ _
  case quo =>
    by_cases hb : b = 0
    · rw [if_pos hb] at h; cases h
    · rw [if_neg hb] at h; cases h; exact mk _ (by simp [binOp, Op.intDiv, hb]) fun e => .int _ _
  case rem =>
    by_cases hb : b = 0
    · rw [if_pos hb] at h; cases h
    · rw [if_neg hb] at h; cases h; exact mk _ (by simp [binOp, Op.intDiv, hb]) fun e => .int _ _
  case and => cases h; exact mk _ (by simp [binOp, Op.intBits]) fun e => .int _ _
  case or => cases h; exact mk _ (by simp [binOp, Op.intBits]) fun e => .int _ _
  case xor => cases h; exact mk _ (by simp [binOp, Op.intBits]) fun e => .int _ _
  case eql => cases h; exact mk (.bool (decide (a = b))) (by simp [binOp, Op.intCmp, Bool.beq_eq_decide_eq, bne]) fun e => .bool _
  case neq => cases h; exact mk (.bool (!decide (a = b))) (by simp [binOp, Op.intCmp, Bool.beq_eq_decide_eq, bne]) fun e => .bool _
  case lss => cases h; exact mk _ (by simp [binOp, Op.intCmp]) fun e => .bool _
  case leq => cases h; exact mk _ (by simp [binOp, Op.intCmp]) fun e => .bool _
  case gtr => cases h; exact mk (.bool (decide (b < a))) (by simp [binOp, Op.intCmp]) fun e => .bool _
  case geq => cases h; exact mk (.bool (decide (b ≤ a))) (by simp [binOp, Op.intCmp]) fun e => .bool _
  all_goals cases h

theorem opShift_run {P : Program} {op : BinOp} {k k' : IntKind} {a b : Int} {r : AV} (h : opShift op k a b = some r) (t : TypeId) (w : World) :
    ∃ v, (binOp op t (.int k a) (.int k' b)).run P w = .ok v w ∧ ∀ e, VR e w r v := by
  unfold opShift at h
  by_cases hb : b < 0
  · rw [if_pos hb] at h; cases h
  · rw [if_neg hb] at h
    cases op <;> simp only at h
    case shl => cases h; exact ⟨_, by simp [binOp, Op.shift, hb], fun e => .int _ _⟩
    case shr => cases h; exact ⟨_, by simp [binOp, Op.shift, hb], fun e => .int _ _⟩
    all_goals cases h

theorem opStr_run {P : Program} {op : BinOp} {a b : ByteArray} {r : AV} (h : opStr op a b = some r) (t : TypeId) (w : World) :
    ∃ v, (binOp op t (.string a) (.string b)).run P w = .ok v w ∧ ∀ e, VR e w r v := by
  cases op <;> simp only [opStr] at h
  case add =>
    by_cases hb : a.size + b.size ≤ 1099511627776
    · rw [if_pos hb] at h
      cases h
      refine ⟨.string (a ++ b), ?_, fun e => .str _⟩
      have : ¬ ((9223372036854775807 : Int) < ((a.size : Int) + (b.size : Int))) := by omega
      simp [binOp, Op.stringOp, IntKind.max, IntKind.bits, IntKind.signed, this]
    · rw [if_neg hb] at h; cases h
  case eql => cases h; exact ⟨.bool (decide (a = b)), by simp only [binOp, Op.stringOp, toList_decide]; rfl, fun e => .bool _⟩
  case neq => cases h; exact ⟨.bool (!decide (a = b)), by simp only [binOp, Op.stringOp, toList_decide]; rfl, fun e => .bool _⟩
  all_goals cases h

theorem eqGuard_ok {P : Program} (op : BinOp) (t : TypeId) (x y : Operand) (a b : Value) (w : World) (h1 : a ≠ .nilIface) (h2 : ∀ vs, a ≠ .agg vs) :
    (eqGuard op t x y a b).run P w = .ok () w := by
  cases op <;> cases a <;> first
    | exact absurd rfl h1
    | exact absurd rfl (h2 _)
    | rfl

theorem run_part_one {P : Program} {t : TypeId} {d : TypeDesc} (h : P.underlying t = some d) (ha : tAgg P t = false) (xs : Array Value) (i : Nat) (v : Value) (hv : xs[i]? = some v) (w : World) : (part t xs i).run P w = .ok v w := by
  have hlt := (Array.getElem?_eq_some_iff.1 hv).1
  have : xs[i] = v := (Array.getElem?_eq_some_iff.1 hv).2
  simp [part, run_isAgg h, ha, hlt, this]

theorem eqCellT_run {P : Program} {t : TypeId} {x y : AV} {b : Bool} (h : eqCellT P t x y = some b) {e : Env} {w : World} {u v : Value} (hu : VR e w x u) (hv : VR e w y v) (d : Nat) :
    (∃ dd, P.underlying t = some dd) ∧ tAgg P t = false ∧ (Op.equalIn (d + 1) t u v).run P w = .ok b w := by
  unfold eqCellT at h
  split at h
  · rename_i k k1 a k2 a' ht
    cases hu; cases hv
    split at h
    · rename_i hk
      subst hk
      cases h
      refine ⟨⟨_, ht⟩, by simp [tAgg, ht], ?_⟩
      rw [run_equalIn_int w d t _ _ _ _ ht]
      simp [Bool.beq_eq_decide_eq]
    · cases h
  · rename_i a a' ht
    cases hu; cases hv
    cases h
    refine ⟨⟨_, ht⟩, by simp [tAgg, ht], ?_⟩
    rw [run_equalIn_bool' w d t _ _ ht]
    cases a <;> cases a' <;> rfl
  · rename_i a a' ht
    cases hu; cases hv
    cases h
    refine ⟨⟨_, ht⟩, by simp [tAgg, ht], ?_⟩
    rw [run_equalIn_string w d t _ _ ht, toList_decide]
  · cases h

theorem eqCellsT_run {P : Program} {e : Env} {w : World} {l m : List AV} {xs ys : Array Value} (hl : xs.size = l.length) (hm : ys.size = m.length)
    (hx : ∀ (j : Nat) (c : AV) (v : Value), l[j]? = some c → xs[j]? = some v → VR e w c v) (hy : ∀ (j : Nat) (c : AV) (v : Value), m[j]? = some c → ys[j]? = some v → VR e w c v) (d : Nat) :
    ∀ (fs : List Field) (i : Nat) (b : Bool), eqCellsT P fs i (l.drop i) (m.drop i) = some b → (Op.eqFields (d + 1) xs ys fs).run P w = .ok b w := by
  intro fs
  induction fs with
  | nil =>
    intro i b h
    generalize l.drop i = l' at h
    generalize m.drop i = m' at h
    cases l' <;> cases m' <;> simp [eqCellsT] at h
    subst h
    simp [Op.eqFields]
  | cons f fs ih =>
    intro i b h
    cases hl' : l.drop i with
    | nil => rw [hl'] at h; simp [eqCellsT] at h
    | cons a l' =>
      cases hm' : m.drop i with
      | nil => rw [hl', hm'] at h; simp [eqCellsT] at h
      | cons c m' =>
        rw [hl', hm'] at h
        have e1 : l.drop (i + 1) = l' := by rw [← List.drop_drop, hl']; rfl
        have e2 : m.drop (i + 1) = m' := by rw [← List.drop_drop, hm']; rfl
        have ga : l[i]? = some a := by have := congrArg (·[0]?) hl'; simpa [List.getElem?_drop] using this
        have gc : m[i]? = some c := by have := congrArg (·[0]?) hm'; simpa [List.getElem?_drop] using this
        have la := (List.getElem?_eq_some_iff.1 ga).1
        have lc := (List.getElem?_eq_some_iff.1 gc).1
        simp only [eqCellsT] at h
        split at h
        case isFalse => cases h
        rename_i hf
        split at h
        case h_2 => cases h
        rename_i x y q1 q2
        cases h
        have gx : xs[i]? = some xs[i] := by simp
        have gy : ys[i]? = some ys[i] := by simp
        obtain ⟨⟨dd, t1⟩, t2, t3⟩ := eqCellT_run q1 (hx i a _ ga gx) (hy i c _ gc gy) d
        have r := ih (i + 1) y (by rw [e1, e2]; exact q2)
        simp only [Op.eqFields, hf.1, hf.2, ne_eq, not_false_eq_true, if_true, Sem.run_bind, run_part_one t1 t2 xs i _ gx, run_part_one t1 t2 ys i _ gy, Result.andThen_ok, t3]
        cases x <;> simp [r]

theorem opEqA_run {P : Program} {t : TypeId} {l m : List AV} {b : Bool} (h : opEqA P t l m = some b) {e : Env} {w : World} {u v : Value} (hu : VR e w (.agg l) u) (hv : VR e w (.agg m) v) (op : BinOp) (x y : Operand) :
    (eqGuard op t x y u v).run P w = .ok () w ∧ ∃ xs ys, u = .agg xs ∧ v = .agg ys ∧ (Op.equalIn 10000 t u v).run P w = .ok b w := by
  unfold opEqA at h
  split at h
  case h_2 => cases h
  rename_i fs ht
  split at h
  case isFalse => cases h
  rename_i hh
  cases hu with
  | agg hl h1 hx =>
    cases hv with
    | agg hm h2 hy =>
      refine ⟨run_eqGuard_agg w op t x y _ _ hh.2, _, _, rfl, rfl, ?_⟩
      have hfo : P.fieldsOf t = fs := by simp [Program.fieldsOf, ht]
      rw [run_equalIn_agg w 9999 t _ _ (by rw [hfo]; exact ht) hh.1, hfo]
      exact eqCellsT_run hl hm hx hy 9998 fs.toList 0 b (by simpa using h)

theorem opSlNil_run {P : Program} {op : BinOp} {t : TypeId} {x r : AV} (h : opSlNil P op t x = some r) {e : Env} {w : World} {u : Value} (hu : VR e w x u) :
    ∃ a n c b, u = .slice a n c ∧ (binOp op t u (.slice none 0 0)).run P w = .ok (.bool b) w ∧ VR e w r (.bool b) := by
  unfold opSlNil at h
  split at h
  case h_2 => cases h
  rename_i el ht
  have e2 : Op.maxDepth = 9999 + 1 := rfl
  have eq0 : ∀ (d : Nat) a n c, (Op.equalIn (d + 1) t (.slice a n c) (.slice none 0 0)).run P w = .ok a.isNone w := fun d a n c => by
    cases a <;> simp [Op.equalIn, run_underlying ht]
  have eq1 : ∀ a n c, (binOp .eql t (.slice a n c) (.slice none 0 0)).run P w = .ok (.bool a.isNone) w := fun a n c => by
    simp only [binOp]
    simp [Op.equal, e2, eq0 9999 a n c]
  have ne1 : ∀ a n c, (binOp .neq t (.slice a n c) (.slice none 0 0)).run P w = .ok (.bool (!a.isNone)) w := fun a n c => by
    simp only [binOp]
    simp [Op.equal, e2, eq0 9999 a n c]
  split at h <;> cases h <;> cases hu <;> first
    | exact ⟨_, _, _, _, rfl, eq1 _ _ _, .bool _⟩
    | exact ⟨_, _, _, _, rfl, ne1 _ _ _, .bool _⟩
    | exact ⟨_, _, _, _, rfl, eq1 _ _ _, .anyb _⟩
    | exact ⟨_, _, _, _, rfl, ne1 _ _ _, .anyb _⟩

theorem opBin_ok {P : Program} {o : Oper} {ev : Operand → Value} {e : Env} {w : World} {h : HF} {nx : Nat} {op : BinOp} {t : TypeId} {x y : Operand} {yt : TypeId} {av bv r : AV}
    (ho : o.op = .binOp op t x y yt) (hL : opBin P op t av bv = some r) (hx : VR e w av (ev x)) (hy : VR e w bv (ev y)) (H : HR e w h) :
    OkRun P o ev e w h nx { v := r } := by
  have fin : ∀ v, (eqGuard op t x y (ev x) (ev y)).run P w = .ok () w → (binOp op t (ev x) (ev y)).run P w = .ok v w → VR e w r v → OkRun P o ev e w h nx { v := r } := fun v h1 h2 h3 =>
    OkRun.pure H (by simp [execOp, ho, h1, h2]) h3 rfl rfl
  unfold opBin at hL
  split at hL
  · rename_i k a k' b
    cases hx' : ev x <;> rw [hx'] at hx <;> cases hx
    cases hy' : ev y <;> rw [hy'] at hy <;> cases hy
    rw [hx', hy'] at fin
    split at hL
    · obtain ⟨v, q1, q2⟩ := opShift_run (P := P) (k' := k') hL t w
      exact fin v (eqGuard_ok _ _ _ _ _ _ _ (by simp) (by simp)) q1 (q2 e)
    · split at hL
      · rename_i hk
        subst hk
        obtain ⟨v, q1, q2⟩ := opInt_run (P := P) hL t w
        exact fin v (eqGuard_ok _ _ _ _ _ _ _ (by simp) (by simp)) q1 (q2 e)
      · cases hL
  · rename_i a b
    cases hx' : ev x <;> rw [hx'] at hx <;> cases hx
    cases hy' : ev y <;> rw [hy'] at hy <;> cases hy
    rw [hx', hy'] at fin
    obtain ⟨v, q1, q2⟩ := opStr_run (P := P) hL t w
    exact fin v (eqGuard_ok _ _ _ _ _ _ _ (by simp) (by simp)) q1 (q2 e)
  · rename_i a b
    cases hx' : ev x <;> rw [hx'] at hx <;> cases hx
    cases hy' : ev y <;> rw [hy'] at hy <;> cases hy
    rw [hx', hy'] at fin
    split at hL
    · rename_i hu
      cases hL
      exact fin (.bool (decide (a = b))) (eqGuard_ok _ _ _ _ _ _ _ (by simp) (by simp)) (by
        have e1 := run_equalIn_bool' (P := P) w 9999 t a b hu
        have e2 : Op.maxDepth = 9999 + 1 := rfl
        simp only [binOp, Op.equal, e2, Sem.run_bind, e1, Result.andThen_ok, Sem.run_pure]
        cases a <;> cases b <;> rfl) (.bool _)
    · rename_i hu
      cases hL
      exact fin (.bool (!decide (a = b))) (eqGuard_ok _ _ _ _ _ _ _ (by simp) (by simp)) (by
        have e1 := run_equalIn_bool' (P := P) w 9999 t a b hu
        have e2 : Op.maxDepth = 9999 + 1 := rfl
        simp only [binOp, Op.equal, e2, Sem.run_bind, e1, Result.andThen_ok, Sem.run_pure]
        cases a <;> cases b <;> rfl) (.bool _)
    · cases hL
  · rename_i l m
    generalize hu : ev x = u at hx fin
    generalize hv : ev y = v at hy fin
    split at hL
    · rename_i b hb
      cases hL
      obtain ⟨q1, xs, ys, rfl, rfl, q2⟩ := opEqA_run hb hx hy .eql x y
      exact fin (.bool b) q1 (by rw [run_eql_struct, q2]; rfl) (.bool b)
    · rename_i b hb
      cases hL
      obtain ⟨q1, xs, ys, rfl, rfl, q2⟩ := opEqA_run hb hx hy .neq x y
      exact fin (.bool (!b)) q1 (by rw [run_neq_struct, q2]; rfl) (.bool _)
    · cases hL
  · generalize hu : ev x = u at hx fin
    generalize hv : ev y = v at hy fin
    cases hy
    obtain ⟨a, n, c, b, rfl, q1, q2⟩ := opSlNil_run hL hx
    exact fin (.bool b) (eqGuard_ok _ _ _ _ _ _ _ (by simp) (by simp)) q1 q2
  · cases hL

def opUn (op : UnOp) (x : AV) : Option AV :=
  match op, x with
  | .neg, .int k n => some (.int k (k.wrap (0 - n)))
  | .not, .bool b => some (.bool !b)
  | _, _ => none

theorem opUn_ok {P : Program} {o : Oper} {ev : Operand → Value} {e : Env} {w : World} {h : HF} {nx : Nat} {op : UnOp} {t : TypeId} {x : Operand} {av r : AV}
    (ho : o.op = .unOp op t x) (hL : opUn op av = some r) (hx : VR e w av (ev x)) (H : HR e w h) : OkRun P o ev e w h nx { v := r } := by
  unfold opUn at hL
  split at hL
  · cases hx' : ev x <;> rw [hx'] at hx <;> cases hx
    cases hL
    exact OkRun.pure H (by simp only [execOp, ho, hx']; rfl) (.int _ _) rfl rfl
  · cases hx' : ev x <;> rw [hx'] at hx <;> cases hx
    cases hL
    exact OkRun.pure H (by simp only [execOp, ho, hx']; rfl) (.bool _) rfl rfl
  · cases hL

def opConv (P : Program) (src dst : TypeId) (x : AV) : Option AV :=
  match P.underlying src, P.underlying dst, x with
  | some (.int _), some (.int k), .int _ n => some (.int k (k.wrap n))
  | _, _, _ => none

theorem opConv_ok {P : Program} {o : Oper} {ev : Operand → Value} {e : Env} {w : World} {h : HF} {nx : Nat} {s t : TypeId} {x : Operand} {av r : AV}
    (ho : o.op = .convert s t x) (hL : opConv P s t av = some r) (hx : VR e w av (ev x)) (H : HR e w h) : OkRun P o ev e w h nx { v := r } := by
  unfold opConv at hL
  split at hL
  · rename_i hs hd
    cases hx' : ev x <;> rw [hx'] at hx <;> cases hx
    cases hL
    exact OkRun.pure H (by simp [execOp, ho, hx', convert, run_underlying hs, run_underlying hd, Conv.intToInt]) (.int _ _) rfl rfl
  · cases hL

theorem opMove_ok {P : Program} {o : Oper} {ev : Operand → Value} {e : Env} {w : World} {h : HF} {nx : Nat} {x : Operand} {av : AV}
    (ho : o.op = .move x ∨ o.op = .assign x) (hx : VR e w av (ev x)) (H : HR e w h) : OkRun P o ev e w h nx { v := av } := by
  rcases ho with ho | ho <;> exact OkRun.pure H (by simp only [execOp, ho]; rfl) hx rfl rfl

theorem opPick_ok {P : Program} {o : Oper} {ev : Operand → Value} {e : Env} {w : World} {h : HF} {nx : Nat} {c x y : Operand} {b : Bool} {av bv : AV}
    (ho : o.op = .pick c x y) (hc : VR e w (.bool b) (ev c)) (hx : VR e w av (ev x)) (hy : VR e w bv (ev y)) (H : HR e w h) : OkRun P o ev e w h nx { v := if b then av else bv } := by
  cases hc' : ev c <;> rw [hc'] at hc <;> cases hc
  cases b
  · exact OkRun.pure H (v := ev y) (by simp [execOp, ho, hc', asBool]) (by simpa using hy) rfl rfl
  · exact OkRun.pure H (v := ev x) (by simp [execOp, ho, hc', asBool]) (by simpa using hx) rfl rfl

def opNil (x : AV) : Option AV :=
  match x with
  | .ptr .. | .iptr .. | .fn .. => some x
  | _ => none

theorem opNil_ok {P : Program} {o : Oper} {ev : Operand → Value} {e : Env} {w : World} {h : HF} {nx : Nat} {x : Operand} {av r : AV}
    (ho : o.op = .nilCheck x) (hL : opNil av = some r) (hx : VR e w av (ev x)) (H : HR e w h) : OkRun P o ev e w h nx { v := r } := by
  unfold opNil at hL
  split at hL
  · cases hL
    cases hx' : ev x <;> rw [hx'] at hx <;> cases hx
    exact OkRun.pure H (by simp only [execOp, ho, hx']; rfl) (by rename_i hb; exact .ptr hb) rfl rfl
  · cases hL
    cases hx' : ev x <;> rw [hx'] at hx <;> cases hx
    exact OkRun.pure H (by simp only [execOp, ho, hx']; rfl) (by rename_i vs hI hc hv; exact .iptr vs hI hc hv) rfl rfl
  · cases hL
    cases hx' : ev x <;> rw [hx'] at hx <;> cases hx
    exact OkRun.pure H (by simp only [execOp, ho, hx']; rfl) (by rename_i hl hv; exact .fn hl hv) rfl rfl
  · cases hL

def opExtract (x : AV) (i : Nat) : Option AV :=
  match x with
  | .tup vs => vs[i]?
  | _ => none

theorem opExtract_ok {P : Program} {o : Oper} {ev : Operand → Value} {e : Env} {w : World} {h : HF} {nx : Nat} {x : Operand} {i : Nat} {av r : AV}
    (ho : o.op = .extract x i) (hL : opExtract av i = some r) (hx : VR e w av (ev x)) (H : HR e w h) : OkRun P o ev e w h nx { v := r } := by
  unfold opExtract at hL
  split at hL
  · cases hx' : ev x <;> rw [hx'] at hx <;> cases hx
    rename_i vs us hl hv
    have hi : i < us.size := by rw [hl]; exact (List.getElem?_eq_some_iff.1 hL).1
    exact OkRun.pure H (v := us[i]) (by simp [execOp, ho, hx', Instr.extract, hi]) (hv i r _ hL (by simp [hi])) rfl rfl
  · cases hL

/-! addresses -/
def fOff (P : Program) (t : TypeId) (f : Nat) : Option Nat :=
  match P.underlying t with
  | some (.struct fs) =>
    match fs[f]? with
    | some fd => if (P.info? fd.type).isSome ∧ tSize P fd.type ≠ 0 then some fd.offset else none
    | none => none
  | _ => none

theorem addr_add (b o k : Nat) : (⟨b, o, none⟩ : Addr).add k = ⟨b, o + k, none⟩ := by
  unfold Addr.add; split
  · rename_i h; subst h; rfl
  · rfl

theorem run_fieldAt {P : Program} {t : TypeId} {f k : Nat} (h : fOff P t f = some k) (b o : Nat) (w : World) :
    (Instr.fieldAt t (.pointer (some ⟨b, o, none⟩)) f).run P w = .ok (.pointer (some ⟨b, o + k, none⟩)) w := by
  unfold fOff at h
  split at h
  case h_2 => cases h
  rename_i fs hu
  split at h
  case h_2 => cases h
  rename_i fd hf
  split at h
  case isFalse => cases h
  rename_i hc
  cases h
  obtain ⟨i, hi⟩ := Option.isSome_iff_exists.1 hc.1
  simp [Instr.fieldAt, Instr.sureAddr, run_underlying hu, hf, fieldPlace, run_sizeOf hi, hc.2, addr_add]

def opFieldAddr (P : Program) (t : TypeId) (x : AV) (f : Nat) : Option AV :=
  match fOff P t f, x with
  | some k, .ptr n off => some (.ptr n (off + k))
  | some k, .iptr cs off => some (.iptr cs (off + k))
  | _, _ => none

theorem opFieldAddr_ok {P : Program} {o : Oper} {ev : Operand → Value} {e : Env} {w : World} {h : HF} {nx : Nat} {x : Operand} {t : TypeId} {f : Nat} {av r : AV}
    (ho : o.op = .fieldAddr t x f) (hL : opFieldAddr P t av f = some r) (hx : VR e w av (ev x)) (H : HR e w h) : OkRun P o ev e w h nx { v := r } := by
  unfold opFieldAddr at hL
  split at hL
  · rename_i k n off hk
    cases hL
    cases hx' : ev x <;> rw [hx'] at hx <;> cases hx
    rename_i b s hb
    exact OkRun.pure H (by simp only [execOp, ho, hx']; exact run_v (run_fieldAt hk _ _ w)) (by rw [Nat.add_assoc]; exact .ptr hb) rfl rfl
  · rename_i k cs off hk
    cases hL
    cases hx' : ev x <;> rw [hx'] at hx <;> cases hx
    rename_i b s vs hI hc hv
    exact OkRun.pure H (by simp only [execOp, ho, hx']; exact run_v (run_fieldAt hk _ _ w)) (by rw [Nat.add_assoc]; exact .iptr vs hI hc hv) rfl rfl
  · cases hL

def opIndexAddr (P : Program) (t : TypeId) (x i : AV) : Option AV :=
  match P.underlying t, i with
  | some (.slice el), .int _ k =>
    if (P.info? el).isSome then
      match x with
      | .osl n off len _ _ => if 0 ≤ k ∧ k < len then some (.ptr n (off + k.toNat * tSize P el)) else none
      | .vsl cs len _ => if 0 ≤ k ∧ k < len then some (.iptr cs (k.toNat * tSize P el)) else none
      | _ => none
    else none
  | some (.array m el), .int _ k =>
    if (P.info? el).isSome then
      match x with
      | .ptr n off => if 0 ≤ k ∧ k < m then some (.ptr n (off + k.toNat * tSize P el)) else none
      | .iptr cs off => if 0 ≤ k ∧ k < m then some (.iptr cs (off + k.toNat * tSize P el)) else none
      | _ => none
    else none
  | _, _ => none

theorem run_indexAt_slice {P : Program} {t el : TypeId} {i : TypeInfo} (hu : P.underlying t = some (.slice el)) (hi : P.info? el = some i) (b o len cap : Nat) (kk : IntKind) (k : Int)
    (h0 : 0 ≤ k) (h1 : k < len) (w : World) :
    (Instr.indexAt t (.slice (some ⟨b, o, none⟩) len cap) (.int kk k)).run P w = .ok (.pointer (some ⟨b, o + k.toNat * tSize P el, none⟩)) w := by
  simp [Instr.indexAt, asIntOf, run_underlying hu, h0, h1, run_sizeOf hi, addr_add]

theorem run_indexAt_array {P : Program} {t el m : TypeId} {i : TypeInfo} (hu : P.underlying t = some (.array m el)) (hi : P.info? el = some i) (b o : Nat) (kk : IntKind) (k : Int)
    (h0 : 0 ≤ k) (h1 : k < m) (w : World) :
    (Instr.indexAt t (.pointer (some ⟨b, o, none⟩)) (.int kk k)).run P w = .ok (.pointer (some ⟨b, o + k.toNat * tSize P el, none⟩)) w := by
  simp [Instr.indexAt, Instr.sureAddr, asIntOf, run_underlying hu, h0, h1, run_sizeOf hi, addr_add]

theorem opIndexAddr_ok {P : Program} {o : Oper} {ev : Operand → Value} {e : Env} {w : World} {h : HF} {nx : Nat} {x y : Operand} {t : TypeId} {av bv r : AV}
    (ho : o.op = .indexAddr t x y) (hL : opIndexAddr P t av bv = some r) (hx : VR e w av (ev x)) (hy : VR e w bv (ev y)) (H : HR e w h) : OkRun P o ev e w h nx { v := r } := by
  unfold opIndexAddr at hL
  split at hL
  · rename_i el kk k hu
    split at hL
    case isFalse => cases hL
    rename_i hi
    obtain ⟨i, hi⟩ := Option.isSome_iff_exists.1 hi
    cases hy' : ev y <;> rw [hy'] at hy <;> cases hy
    split at hL
    · split at hL
      case isFalse => cases hL
      rename_i hk
      cases hL
      cases hx' : ev x <;> rw [hx'] at hx <;> cases hx
      · rename_i b s hb hlen hcap room
        exact OkRun.pure H (by simp only [execOp, ho, hx', hy']; exact run_v (run_indexAt_slice hu hi _ _ _ _ _ _ hk.1 hk.2 w)) (by rw [Nat.add_assoc]; exact .ptr hb) rfl rfl
      · omega
    · split at hL
      case isFalse => cases hL
      rename_i hk
      cases hL
      generalize hx' : ev x = vx at hx
      cases hx with
      | vsl vs hI hlen hcap hc hv =>
        exact OkRun.pure H (by simp only [execOp, ho, hx', hy']; exact run_v (run_indexAt_slice hu hi _ _ _ _ _ _ hk.1 hk.2 w)) (.iptr vs hI hc hv) rfl rfl
      | vslz => omega
    · cases hL
  · rename_i m el kk k hu
    split at hL
    case isFalse => cases hL
    rename_i hi
    obtain ⟨i, hi⟩ := Option.isSome_iff_exists.1 hi
    cases hy' : ev y <;> rw [hy'] at hy <;> cases hy
    split at hL
    · split at hL
      case isFalse => cases hL
      rename_i hk
      cases hL
      cases hx' : ev x <;> rw [hx'] at hx <;> cases hx
      rename_i b s hb
      exact OkRun.pure H (by simp only [execOp, ho, hx', hy']; exact run_v (run_indexAt_array hu hi _ _ _ _ hk.1 hk.2 w)) (by rw [Nat.add_assoc]; exact .ptr hb) rfl rfl
    · split at hL
      case isFalse => cases hL
      rename_i hk
      cases hL
      cases hx' : ev x <;> rw [hx'] at hx <;> cases hx
      rename_i b s vs hI hc hv
      exact OkRun.pure H (by simp only [execOp, ho, hx', hy']; exact run_v (run_indexAt_array hu hi _ _ _ _ hk.1 hk.2 w)) (by rw [Nat.add_assoc]; exact .iptr vs hI hc hv) rfl rfl
    · cases hL
  · cases hL

end Go.Av
