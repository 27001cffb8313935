/- The operations on abstract values, sixth part: builtins. -/
import Derived.Test.YtojbfpfkkcdlhaaGreatAv7
namespace Go.Av
set_option linter.unusedVariables false
set_option linter.unusedSimpArgs false

theorem run_builtin {P : Program} {o : Oper} {ev : Operand → Value} {b : Builtin} {args : Array Operand} {ats : Array TypeId} (ho : o.op = .call { callee := .builtin b, args := args, argTypes := ats })
    {w w' : World} {nxt : Next} (h : (builtin b ats o.type (args.map fun | .const _ => true | _ => false) (args.map ev)).run P w = .ok nxt w') : (execOp ev o).run P w = .ok nxt w' := by
  simp only [execOp, ho, resolve, Sem.run_bind, Sem.run_pure, Result.andThen_ok, invoke]
  exact h

def opLen (P : Program) (t : TypeId) (x : AV) : Option AV :=
  match P.underlying t, x with
  | some .string, .str s => some (.int .i64 s.size)
  | some (.slice _), .osl _ _ len _ _ => some (.int .i64 len)
  | some (.slice _), .vsl _ len _ => some (.int .i64 len)
  | some (.slice _), .nilsl => some (.int .i64 0)
  | _, _ => none

theorem opLen_ok {P : Program} {o : Oper} {ev : Operand → Value} {e : Env} {w : World} {h : HF} {nx : Nat} {t : TypeId} {x : Operand} {av r : AV}
    (ho : o.op = .call { callee := .builtin .len, args := #[x], argTypes := #[t] }) (hL : opLen P t av = some r) (hx : VR e w av (ev x)) (H : HR e w h) : OkRun P o ev e w h nx { v := r } := by
  have fin : ∀ v, (Builtin.len_ #[t] o.type #[ev x]).run P w = .ok v w → VR e w r v → OkRun P o ev e w h nx { v := r } := fun v h1 h2 =>
    OkRun.pure H (run_builtin ho (by simp [builtin, h1])) h2 rfl rfl
  unfold opLen at hL
  generalize hx' : ev x = vx at hx
  rw [hx'] at fin
  split at hL
  · rename_i s hu
    cases hL; cases hx
    exact fin _ (by simp [Builtin.len_, run_underlying hu, goInt]) (.int _ _)
  · rename_i el n off len cap sz hu
    cases hL
    cases hx
    · exact fin (.int .i64 len) (by simp [Builtin.len_, run_underlying hu, goInt]) (.int _ _)
    · exact fin (.int .i64 0) (by simp [Builtin.len_, run_underlying hu, goInt]) (.int _ _)
  · rename_i el cs len cap hu
    cases hL
    cases hx
    · exact fin (.int .i64 len) (by simp [Builtin.len_, run_underlying hu, goInt]) (.int _ _)
    · exact fin (.int .i64 0) (by simp [Builtin.len_, run_underlying hu, goInt]) (.int _ _)
  · rename_i el hu
    cases hL; cases hx
    exact fin (.int .i64 0) (by simp [Builtin.len_, run_underlying hu, goInt]) (.int _ _)
  · cases hL

def opMin (x y : AV) : Option AV := match x, y with
  | .int k a, .int _ b => some (.int k (if b < a then b else a))
  | _, _ => none
def opMax (x y : AV) : Option AV := match x, y with
  | .int k a, .int _ b => some (.int k (if a < b then b else a))
  | _, _ => none

theorem opMin_ok {P : Program} {o : Oper} {ev : Operand → Value} {e : Env} {w : World} {h : HF} {nx : Nat} {ts : Array TypeId} {x y : Operand} {av bv r : AV}
    (ho : o.op = .call { callee := .builtin .min, args := #[x, y], argTypes := ts }) (hL : opMin av bv = some r) (hx : VR e w av (ev x)) (hy : VR e w bv (ev y)) (H : HR e w h) : OkRun P o ev e w h nx { v := r } := by
  unfold opMin at hL
  split at hL
  case h_2 => cases hL
  cases hL
  cases hx' : ev x <;> rw [hx'] at hx <;> cases hx
  cases hy' : ev y <;> rw [hy'] at hy <;> cases hy
  exact OkRun.pure H (run_builtin ho (by simp [builtin, Builtin.min_, Builtin.min2, hx', hy'])) (.int _ _) rfl rfl

theorem opMax_ok {P : Program} {o : Oper} {ev : Operand → Value} {e : Env} {w : World} {h : HF} {nx : Nat} {ts : Array TypeId} {x y : Operand} {av bv r : AV}
    (ho : o.op = .call { callee := .builtin .max, args := #[x, y], argTypes := ts }) (hL : opMax av bv = some r) (hx : VR e w av (ev x)) (hy : VR e w bv (ev y)) (H : HR e w h) : OkRun P o ev e w h nx { v := r } := by
  unfold opMax at hL
  split at hL
  case h_2 => cases hL
  cases hL
  cases hx' : ev x <;> rw [hx'] at hx <;> cases hx
  cases hy' : ev y <;> rw [hy'] at hy <;> cases hy
  exact OkRun.pure H (run_builtin ho (by simp [builtin, Builtin.max_, Builtin.max2, hx', hy'])) (.int _ _) rfl rfl

/-! append -/
/-- A source of elements: how many, their cells, the block looked at. -/
def srcA (h : HF) (sz : Nat) : AV → Option (Nat × List AV × List (Nat × Blk))
  | .vsl cs k _ => if cs.length = k * sz then some (k, cs, []) else none
  | .nilsl => some (0, [], [])
  | .osl n off k _ _ =>
    match h n with
    | some cs => if off + k * sz ≤ cs.length then some (k, (cs.drop off).take (k * sz), [(n, cs)]) else none
    | none => none
  | _ => none

/-- The cells of a related slice. -/
theorem src_spec {P : Program} {e : Env} {w : World} {h h' : HF} {sz : Nat} {a : AV} {v : Value} {k : Nat} {cs : List AV} {req : List (Nat × Blk)} (hs : srcA h sz a = some (k, cs, req)) (hv : VR e w a v)
    (H : HR e w h') (hreq : ∀ p ∈ req, h' p.1 = some p.2) :
    ∃ (ad : Option Addr) (c : Nat) (us : List Value), v = .slice ad k c ∧ us.length = k * sz ∧ cs.length = k * sz ∧ (∀ u ∈ us, u.oneCell' = true) ∧ (∀ (j : Nat) (x : AV), cs[j]? = some x → ∃ u, us[j]? = some u ∧ VR e w x u) ∧
      ∀ w1, w1.heap = w.heap → (Builtin.firstCells sz k v).run P w1 = .ok us.toArray w1 := by
  have zero : ∀ (ad : Option Addr) (c : Nat) (w1 : World), (Builtin.firstCells sz 0 (.slice ad 0 c)).run P w1 = .ok #[] w1 := fun ad c w1 => by
    cases ad <;> simp [Builtin.firstCells, loadCells, loadCellsFrom]
  have cellsOf : ∀ (b o : Nat) (c : Nat) (f : Nat → Value), (∀ j, j < k * sz → w.cell? ⟨b, o + j, none⟩ = some (f j)) → ∀ w1, w1.heap = w.heap →
      (Builtin.firstCells sz k (.slice (some ⟨b, o, none⟩) k c)).run P w1 = .ok ((List.range (k * sz)).map f).toArray w1 := fun b o c f hf w1 hw1 => by
    refine run_firstCells_some (P := P) w1 sz k ⟨b, o, none⟩ k c _ (by simp) (fun j u hj => ?_)
    simp only [List.getElem?_map, Option.map_eq_some_iff] at hj
    obtain ⟨j', hj', rfl⟩ := hj
    obtain ⟨q1, q2⟩ := List.getElem?_eq_some_iff.1 hj'
    simp at q1 q2
    subst q2
    rw [addr_add, show w1.cell? ⟨b, o + j, none⟩ = w.cell? ⟨b, o + j, none⟩ from cell_congr (by rw [hw1])]
    exact hf j q1
  have mk : ∀ (b o c : Nat) (f : Nat → Value), v = .slice (some ⟨b, o, none⟩) k c → cs.length = k * sz → (∀ j, j < k * sz → w.cell? ⟨b, o + j, none⟩ = some (f j) ∧ (f j).oneCell' = true ∧ ∀ x, cs[j]? = some x → VR e w x (f j)) →
      ∃ (ad : Option Addr) (c : Nat) (us : List Value), v = .slice ad k c ∧ us.length = k * sz ∧ cs.length = k * sz ∧ (∀ u ∈ us, u.oneCell' = true) ∧ (∀ (j : Nat) (x : AV), cs[j]? = some x → ∃ u, us[j]? = some u ∧ VR e w x u) ∧
      ∀ w1, w1.heap = w.heap → (Builtin.firstCells sz k v).run P w1 = .ok us.toArray w1 := fun b o c f hv hl hf => by
    refine ⟨_, c, (List.range (k * sz)).map f, hv, by simp, hl, fun u hu => ?_, fun j x hj => ?_, fun w1 hw1 => ?_⟩
    · simp only [List.mem_map, List.mem_range] at hu
      obtain ⟨j, hj, rfl⟩ := hu
      exact (hf j hj).2.1
    · have hlt : j < k * sz := by rw [← hl]; exact (List.getElem?_eq_some_iff.1 hj).1
      exact ⟨f j, by simp [hlt], (hf j hlt).2.2 x hj⟩
    · rw [hv]; exact cellsOf b o c f (fun j hj => (hf j hj).1) w1 hw1
  have nil0 : ∀ (ad : Option Addr) (c : Nat), v = .slice ad 0 c → k = 0 → cs = [] →
      ∃ (ad : Option Addr) (c : Nat) (us : List Value), v = .slice ad k c ∧ us.length = k * sz ∧ cs.length = k * sz ∧ (∀ u ∈ us, u.oneCell' = true) ∧ (∀ (j : Nat) (x : AV), cs[j]? = some x → ∃ u, us[j]? = some u ∧ VR e w x u) ∧
      ∀ w1, w1.heap = w.heap → (Builtin.firstCells sz k v).run P w1 = .ok us.toArray w1 := fun ad c hv hk hcs => by
    subst hk hcs
    exact ⟨ad, c, [], hv, by simp, by simp, by simp, by simp, fun w1 _ => by rw [hv]; exact zero ad c w1⟩
  cases a with
  | vsl cs0 k0 cap =>
    simp only [srcA] at hs
    split at hs
    case isFalse => cases hs
    rename_i hl
    cases hs
    cases hv with
    | vsl vs hI hlen hcap hc hv =>
      rename_i b s c
      exact mk b s c vs rfl hl (fun j hj => ⟨(hc j cs[j] (List.getElem?_eq_getElem (by omega))).1, (hc j cs[j] (List.getElem?_eq_getElem (by omega))).2, fun x hx => hv j x hx⟩)
    | vslz ad hcap => exact nil0 ad _ rfl rfl rfl
  | nilsl =>
    simp only [srcA] at hs
    cases hs
    cases hv
    exact nil0 none 0 rfl rfl rfl
  | osl n off k0 cap sz0 =>
    simp only [srcA] at hs
    cases hn : h n with
    | none => rw [hn] at hs; cases hs
    | some blk =>
      rw [hn] at hs
      simp only at hs
      split at hs
      case isFalse => cases hs
      rename_i hle
      cases hs
      have hn' := hreq (n, blk) (by simp)
      cases hv with
      | osl hb hlen hcap room =>
        rename_i b s c
        rcases H.blk n blk hn' with ⟨h0, _⟩ | ⟨b', s', cells, el, h1, h2, h3, h4⟩
        · rw [hb] at h0; cases h0
        rw [hb] at h1
        cases h1
        have hget : ∀ j, j < k * sz → ∃ u, cells[s + off + j]? = some u ∧ u.oneCell' = true ∧ ∀ x, blk[off + j]? = some x → VR e w x u := fun j hj => by
          obtain ⟨u, q1, q2, q3⟩ := h4 (off + j) blk[off + j] (List.getElem?_eq_getElem (by omega))
          exact ⟨u, by rw [show s + off + j = s + (off + j) by omega]; exact q1, q2, fun x hx => by rw [List.getElem?_eq_getElem (by omega)] at hx; cases hx; exact q3⟩
        refine mk b (s + off) c (fun j => cells.getD (s + off + j) undef) rfl (by simp; omega) (fun j hj => ?_)
        obtain ⟨u, q1, q2, q3⟩ := hget j hj
        have hlt := (Array.getElem?_eq_some_iff.1 q1).1
        have hu : cells.getD (s + off + j) undef = u := by rw [Array.getD_eq_getD_getElem?, q1]; rfl
        rw [hu]
        refine ⟨by rw [cell_of_row w b _ cells el (0, 0) h3]; exact q1, q2, fun x hx => ?_⟩
        rw [List.getElem?_take, if_pos hj, List.getElem?_drop] at hx
        exact q3 x hx
      | oslz ad hcap => exact nil0 ad 0 rfl rfl (by simp)
  | _ => cases hs

/-- A destination: its length, its cells, the block looked at, the block that is used up. -/
def dstA (h : HF) (sz : Nat) : AV → Option (Nat × List AV × List (Nat × Blk) × List (Nat × Option Blk))
  | .nilsl => some (0, [], [], [])
  | .vsl cs len cap => if cs.length = 0 ∧ len = 0 ∧ cap = some 0 then some (0, [], [], []) else none
  | .osl n off len cap sz' =>
    if len = 0 ∧ cap = some 0 then some (0, [], [], []) else
    match h n with
    | some cs => if sz' = sz ∧ off + len * sz ≤ cs.length then some (len, (cs.drop off).take (len * sz), [(n, cs)], [(n, none)]) else none
    | none => none
  | _ => none

def notInt (P : Program) (t : TypeId) : Bool := match P.underlying t with
  | some (.int _) | none => false
  | _ => true

def opAppend (P : Program) (h : HF) (nx : Nat) (t t2 : TypeId) (x y : AV) : Option LR :=
  match slEl P t with
  | some el =>
    match dstA h (tSize P el) x, srcA h (tSize P el) y with
    | some (len, old, req, kill), some (k, new, req2) =>
      if len + k ≤ 4294967296 ∧ ((P.info? el).map (·.bytes)).getD 0 ≤ 4096 ∧ 0 < tSize P el ∧ (tZero P el).map (·.cells.size) = some (tSize P el) ∧ notInt P t2 = true then
        some { v := .osl nx 0 (len + k) none (tSize P el), req := req ++ req2, ups := kill ++ [(nx, some (old ++ new))], made := 1 }
      else none
    | _, _ => none
  | none => none

/-- append where it grows. -/
theorem run_app_grow {P : Program} (w : World) (t t2 ty el : TypeId) (i : TypeInfo) (z : Value) (hu : P.underlying t = some (.slice el)) (hi : P.info? el = some i) (hz : i.zero = some z) (hn : notInt P t2 = true)
    (base : Option Addr) (len cap : Nat) (ad : Option Addr) (k c : Nat) (olds news : List Value)
    (ho : (Builtin.firstCells i.size len (.slice base len cap)).run P w.drew = .ok olds.toArray w.drew) (hk : (Builtin.firstCells i.size k (.slice ad k c)).run P w.drew = .ok news.toArray w.drew)
    (hg : cap < len + k) (hb : len + k ≤ 4294967296) (hbytes : i.bytes ≤ 4096) :
    (Builtin.append_ #[t, t2] ty #[.slice base len cap, .slice ad k c]).run P w = .ok (.slice (some ⟨w.heap.size, 0, none⟩) (len + k) (grownCap w (len + k) cap el))
      (w.drew.alloc (.cells (olds.toArray ++ news.toArray ++ Builtin.zeroCells z.cells (grownCap w (len + k) cap el - (len + k))) el)) := by
  have h1 : ¬ (len + k ≤ cap) := by omega
  have h63' : ¬ (9223372036854775807 < ((len : Int) + (k : Int))) := by omega
  have hfit : Builtin.nextslicecap (len + k) cap * i.bytes ≤ 281474976710656 := growslice_fits hg (by
    have : (len + k) * i.bytes ≤ 4294967296 * 4096 := Nat.mul_le_mul hb hbytes
    omega)
  have h48' : ¬ (281474976710656 < Builtin.nextslicecap (len + k) cap * i.bytes) := by omega
  obtain ⟨d2, hd2, hd2'⟩ : ∃ d2, P.underlying t2 = some d2 ∧ ∀ kk, d2 ≠ .int kk := by
    unfold notInt at hn
    cases hq : P.underlying t2 with
    | none => rw [hq] at hn; simp at hn
    | some d2 => exact ⟨d2, rfl, fun kk e => by rw [hq, e] at hn; simp at hn⟩
  have hm : (match d2 with | .int _ => true | _ => false) = false := by
    cases d2 <;> first | rfl | exact absurd rfl (hd2' _)
  simp [Builtin.append_, run_underlying hu, run_underlying hd2, hm, sizeOf, typeInfo, zeroValue, hi, hz, Builtin.lenOf, h1, h63', h48', Question.forced, ho, hk, newRow, grownCap]
  congr 2
  apply Array.ext'
  simp [List.append_assoc]

theorem run_app_fit {P : Program} (w w' : World) (t t2 ty el : TypeId) (i : TypeInfo) (hu : P.underlying t = some (.slice el)) (hi : P.info? el = some i) (hn : notInt P t2 = true)
    (base : Option Addr) (len cap : Nat) (ad : Option Addr) (k c : Nat) (news : List Value)
    (hk : (Builtin.firstCells i.size k (.slice ad k c)).run P w = .ok news.toArray w)
    (hg : len + k ≤ cap) (hst : ∀ b, base = some b → (storeCells (b.add (len * i.size)) news 0).run P w = .ok () w') (hw : base = none → w' = w) :
    (Builtin.append_ #[t, t2] ty #[.slice base len cap, .slice ad k c]).run P w = .ok (.slice base (len + k) cap) w' := by
  obtain ⟨d2, hd2, hd2'⟩ : ∃ d2, P.underlying t2 = some d2 ∧ ∀ kk, d2 ≠ .int kk := by
    unfold notInt at hn
    cases hq : P.underlying t2 with
    | none => rw [hq] at hn; simp at hn
    | some d2 => exact ⟨d2, rfl, fun kk e => by rw [hq, e] at hn; simp at hn⟩
  have hm : (match d2 with | .int _ => true | _ => false) = false := by
    cases d2 <;> first | rfl | exact absurd rfl (hd2' _)
  cases base with
  | none =>
    have := hw rfl
    subst this
    simp [Builtin.append_, run_underlying hu, run_underlying hd2, hm, sizeOf, typeInfo, hi, Builtin.lenOf, hg, hk]
  | some b => simp [Builtin.append_, run_underlying hu, run_underlying hd2, hm, sizeOf, typeInfo, hi, Builtin.lenOf, hg, hk, hst b rfl]

theorem hr_kill {e : Env} {w : World} {h : HF} (H : HR e w h) (n : Nat) : HR e w (upd h n none) :=
  H.drop (fun m cs hm => by
    by_cases hmn : m = n
    · subst hmn; simp at hm
    · rwa [upd_other h _ hmn] at hm)

/-- What is made over a smaller heap is made over the heap. -/
theorem Out.kill {e : Env} {w : World} {h : HF} {nx made n : Nat} {e' : Env} {w' : World} {h' : HF} (o : Out e w (upd h n none) nx made e' w' h') : Out e w h nx made e' w' h' := by
  have sub : ∀ b, Owns e (upd h n none) b → Owns e h b := fun b hb => Owns.drop (fun m cs hm => by
    by_cases hmn : m = n
    · subst hmn; simp at hm
    · rwa [upd_other h _ hmn] at hm) hb
  refine ⟨o.hr, ⟨o.step.size, fun b hb ho => o.step.keep b hb (fun hh => ho (sub b hh)), o.step.shape, o.step.β, o.step.I, fun b hb => ?_, fun b hb => ?_, o.step.still⟩, o.ext, o.β⟩
  · rcases o.step.Inew b hb with h1 | h1 | h1
    · exact .inl h1
    · exact .inr (.inl (sub b h1))
    · exact .inr (.inr h1)
  · rcases o.step.own b hb with h1 | h1
    · exact .inl (sub b h1)
    · exact .inr h1

theorem opAppend_ok {P : Program} {o : Oper} {ev : Operand → Value} {e : Env} {w : World} {h h' : HF} {nx : Nat} {L : LR} {t t2 : TypeId} {x y : Operand} {av bv : AV}
    (ho : o.op = .call { callee := .builtin .append, args := #[x, y], argTypes := #[t, t2] }) (hL : opAppend P h nx t t2 av bv = some L) (hx : VR e w av (ev x)) (hy : VR e w bv (ev y)) (H : HR e w h')
    (hreq : ∀ p ∈ L.req, h' p.1 = some p.2) (hβ : e.β nx = none) : OkRun P o ev e w h' nx L := by
  unfold opAppend at hL
  split at hL
  case h_2 => cases hL
  rename_i el hel
  obtain ⟨hu, i, hi⟩ := slEl_spec hel
  split at hL
  case h_2 => cases hL
  rename_i len old req kill k new req2 hd hs
  split at hL
  case isFalse => cases hL
  rename_i hc
  obtain ⟨hb, hbytes, hsz, hz, hn⟩ := hc
  cases hL
  have hts : tSize P el = i.size := by simp [tSize, hi]
  rw [hts] at hd hs hsz ⊢
  rw [hi] at hbytes
  simp only [Option.map_some, Option.getD_some] at hbytes
  rw [Option.map_eq_some_iff] at hz
  obtain ⟨z, hz, hzs⟩ := hz
  rw [hts] at hzs
  have hz' : i.zero = some z := by unfold tZero at hz; rw [hi] at hz; exact hz
  obtain ⟨ad, c, us, hv, hul, hcl, hu1, hur, hus⟩ := src_spec (P := P) hs hy H (fun p hp => hreq p (by simp [hp]))
  have run : ∀ v w', (Builtin.append_ #[t, t2] o.type #[ev x, ev y]).run P w = .ok v w' → (execOp ev o).run P w = .ok (.value v) w' := fun v w' hr =>
    run_builtin ho (by simp [builtin, hr])
  rw [hv] at run hus
  -- a new block
  have grow : ∀ (base : Option Addr) (cap : Nat) (olds : List Value), ev x = .slice base len cap → (∀ w1, w1.heap = w.heap → (Builtin.firstCells i.size len (ev x)).run P w1 = .ok olds.toArray w1) →
      olds.length = len * i.size → old.length = len * i.size → (∀ u ∈ olds, u.oneCell' = true) → (∀ (j : Nat) (a : AV), old[j]? = some a → ∃ u, olds[j]? = some u ∧ VR e w a u) → cap < len + k → ∀ h'' : HF, HR e w h'' →
      ∃ nxt w' e' v, (execOp ev o).run P w = .ok nxt w' ∧ (nxt = .value v ∨ (nxt = .skip ∧ v = undef)) ∧ VR e' w' (.osl nx 0 (len + k) none i.size) v ∧ Out e w h'' nx 1 e' w' (upd h'' nx (some (old ++ new))) := by
    intro base cap olds hev hof hol hol2 ho1 hor hg h'' H''
    rw [hev] at run hof
    have hr := run_app_grow (P := P) w t t2 o.type el i z hu hi hz' hn base len cap ad k c olds us (hof w.drew rfl) (hus w.drew rfl) hg hb hbytes
    have hok : ∀ (j : Nat) (a : AV), (old ++ new)[j]? = some a → ∃ v, (olds.toArray ++ us.toArray ++ Builtin.zeroCells z.cells (grownCap w (len + k) cap el - (len + k)))[j]? = some v ∧ v.oneCell' = true ∧ VR e w a v := by
      intro j a hj
      by_cases hlt : j < len * i.size
      · rw [List.getElem?_append_left (by omega)] at hj
        obtain ⟨u, q1, q2⟩ := hor j a hj
        refine ⟨u, ?_, ho1 u (List.mem_of_getElem? q1), q2⟩
        rw [Array.append_assoc, Array.getElem?_append_left (by simp; omega)]
        simpa using q1
      · rw [List.getElem?_append_right (by omega)] at hj
        obtain ⟨u, q1, q2⟩ := hur _ a hj
        refine ⟨u, ?_, hu1 u (List.mem_of_getElem? q1), q2⟩
        have := (List.getElem?_eq_some_iff.1 q1).1
        rw [Array.append_assoc, Array.getElem?_append_right (by simp; omega), Array.getElem?_append_left (by simp; omega)]
        simp only [List.size_toArray, List.getElem?_toArray]
        rw [← q1]
        congr 1
        omega
    have hge := grownCap_ge w (len + k) cap el
    have hroom : grownCap w (len + k) cap el * i.size ≤ (olds.toArray ++ us.toArray ++ Builtin.zeroCells z.cells (grownCap w (len + k) cap el - (len + k))).size := by
      simp only [Array.size_append, List.size_toArray, size_zeroCells, hzs, hol, hul, ← Nat.add_mul]
      exact Nat.le_of_eq (by congr 1; omega)
    exact okRun_new (o := o) (ev := ev) (P := P) (w := w) (w0 := w.drew) (show w.drew.heap = w.heap from rfl) ⟨rfl, rfl⟩ H'' hβ hok (run _ _ hr) (av := .osl nx 0 (len + k) none i.size)
      (osl_new (w0 := w.drew) (show w.drew.heap = w.heap from rfl) hge (by intro _ h; cases h) hroom)
  -- an empty slice stays as it is
  have stay : ∀ (base : Option Addr), ev x = .slice base 0 0 → len = 0 → old = [] → k = 0 → ∀ h'' : HF, HR e w h'' →
      ∃ nxt w' e' v, (execOp ev o).run P w = .ok nxt w' ∧ (nxt = .value v ∨ (nxt = .skip ∧ v = undef)) ∧ VR e' w' (.osl nx 0 (len + k) none i.size) v ∧ Out e w h'' nx 1 e' w' (upd h'' nx (some (old ++ new))) := by
    intro base hev hl0 hold hk0 h'' H''
    subst hl0 hold hk0
    have hnew : new = [] := List.eq_nil_of_length_eq_zero (by simpa using hcl)
    have hus0 : us = [] := List.eq_nil_of_length_eq_zero (by simpa using hul)
    subst hnew hus0
    rw [hev] at run
    have hr := run_app_fit (P := P) w w t t2 o.type el i hu hi hn base 0 0 ad 0 c [] (hus w rfl) (by omega) (fun b _ => by simp [storeCells]) (fun _ => rfl)
    exact ⟨_, w, e, _, run _ _ hr, .inl rfl, .oslz base (by intro _ h; cases h), out_phantom H'' hβ⟩
  have zero : ∀ (base : Option Addr), ev x = .slice base 0 0 → len = 0 → old = [] → ∀ h'' : HF, HR e w h'' →
      ∃ nxt w' e' v, (execOp ev o).run P w = .ok nxt w' ∧ (nxt = .value v ∨ (nxt = .skip ∧ v = undef)) ∧ VR e' w' (.osl nx 0 (len + k) none i.size) v ∧ Out e w h'' nx 1 e' w' (upd h'' nx (some (old ++ new))) := by
    intro base hev hl0 hold h'' H''
    by_cases hk0 : k = 0
    · exact stay base hev hl0 hold hk0 h'' H''
    · refine grow base 0 [] (by rw [hl0]; exact hev) (fun w1 _ => ?_) (by simp [hl0]) (by simp [hl0, hold]) (by simp) (by simp [hold]) (by omega) h'' H''
      rw [hev, hl0]
      cases base <;> simp [Builtin.firstCells, loadCells, loadCellsFrom]
  cases av with
  | nilsl =>
    simp only [dstA] at hd
    cases hd
    generalize hev : ev x = vx at hx
    cases hx
    exact zero none hev rfl rfl h' H
  | vsl cs len0 cap =>
    simp only [dstA] at hd
    split at hd
    case isFalse => cases hd
    rename_i hc
    obtain ⟨hc1, rfl, rfl⟩ := hc
    cases hd
    generalize hev : ev x = vx at hx
    cases hx with
    | vsl vs hI hlen hcap _ _ =>
      have := hcap 0 rfl
      subst this
      exact zero _ hev rfl rfl h' H
    | vslz a hcap =>
      have := hcap 0 rfl
      subst this
      exact zero _ hev rfl rfl h' H
  | osl n off len0 cap sz' =>
    simp only [dstA] at hd
    split at hd
    · rename_i hc
      obtain ⟨rfl, rfl⟩ := hc
      cases hd
      generalize hev : ev x = vx at hx
      cases hx with
      | osl hb hlen hcap room =>
        have := hcap 0 rfl
        subst this
        exact zero _ hev rfl rfl h' H
      | oslz a hcap => exact zero _ hev rfl rfl h' H
    · cases hn' : h n with
      | none => rw [hn'] at hd; cases hd
      | some cs =>
        rw [hn'] at hd
        simp only at hd
        split at hd
        case isFalse => cases hd
        rename_i hc
        obtain ⟨hsz', hle⟩ := hc
        cases hd
        have hnh := hreq (n, cs) (by simp)
        show ∃ nxt w' e' v, (execOp ev o).run P w = .ok nxt w' ∧ (nxt = .value v ∨ (nxt = .skip ∧ v = undef)) ∧ VR e' w' (.osl nx 0 (len + k) none i.size) v ∧ Out e w h' nx 1 e' w' (upd (upd h' n none) nx (some (_ ++ new)))
        generalize hev : ev x = vx at hx
        cases hx with
        | oslz a hcap =>
          obtain ⟨nxt, w', e', v, g1, g2, g3, g4⟩ := zero a hev rfl (by simp) (upd h' n none) (hr_kill H n)
          exact ⟨nxt, w', e', v, g1, g2, g3, g4.kill⟩
        | osl hbn hlen hcap room =>
          rename_i b s c0
          rcases H.blk n cs hnh with ⟨h0, _⟩ | ⟨b', s', cells, elb, h1, h2, h3, h4⟩
          · rw [hbn] at h0; cases h0
          rw [hbn] at h1
          cases h1
          obtain ⟨cells', el', fr', hroom1, hroom2⟩ := room
          rw [h3] at hroom1
          cases hroom1
          have hx' : VR e w (.osl n off len cap sz') (.slice (some ⟨b, s + off, none⟩) len c0) := .osl hbn hlen hcap ⟨cells, elb, (0, 0), h3, hroom2⟩
          obtain ⟨ado, co, olds, hvo, hol, hol2, ho1, hor, hof⟩ := src_spec (P := P) (h := h) (sz := i.size) (a := .osl n off len cap sz') (k := len) (cs := (cs.drop off).take (len * i.size)) (req := [(n, cs)])
            (by simp only [srcA, hn']; rw [if_pos hle]) hx' H (fun p hp => by simp at hp; subst hp; exact hnh)
          by_cases hfit : len + k ≤ c0
          · have hsz2 : sz' = i.size := hsz'
            subst hsz2
            have hbound : s + off + len * i.size + us.length ≤ cells.size := by
              have : (len + k) * i.size ≤ c0 * i.size := Nat.mul_le_mul_right _ hfit
              rw [Nat.add_mul] at this
              omega
            have hst := run_storeCells_at P b (s + off + len * i.size) elb us 0 cells w h3 (by simpa using hbound) hu1
            simp only [Nat.add_zero] at hst
            rw [hev] at run
            have hr := run_app_fit (P := P) w _ t t2 o.type el i hu hi hn (some ⟨b, s + off, none⟩) len c0 ad k c us (hus w rfl) hfit (fun bb hbb => by cases hbb; rw [addr_add]; exact hst) (by intro h; cases h)
            have hsize : (cells.toList.take (s + off + len * i.size) ++ us ++ cells.toList.drop (s + off + len * i.size + us.length)).toArray.size = cells.size := by simp; omega
            refine ⟨_, _, _, _, run _ _ hr, .inl rfl, ?_, out_move (s' := s + off) H hβ (by rw [hnh]; simp) hbn h3 hsize (fun j a hj => ?_)⟩
            · have := VR.osl (e := e.bind nx (some (b, s + off))) (w := w.setRow b (cells.toList.take (s + off + len * i.size) ++ us ++ cells.toList.drop (s + off + len * i.size + us.length)).toArray) (n := nx) (off := 0) (len := len + k) (sz := i.size) (b := b) (s := s + off) (c := c0) (cap := none) (by simp) hfit (by intro _ h; cases h)
                ⟨_, elb, (0, 0), setRow_heap w b cells _ elb (0, 0) h3, by rw [hsize]; omega⟩
              simpa using this
            · simp only [List.getElem?_toArray]
              by_cases hlt : j < len * i.size
              · rw [List.getElem?_append_left (by rw [hol2]; exact hlt)] at hj
                rw [List.getElem?_take, if_pos hlt, List.getElem?_drop] at hj
                obtain ⟨v, q1, q2, q3⟩ := h4 (off + j) a hj
                refine ⟨v, ?_, q2, q3⟩
                rw [List.append_assoc, List.getElem?_append_left (by simp; omega), List.getElem?_take, if_pos (by omega)]
                rw [show s + off + j = s + (off + j) by omega]
                simpa using q1
              · rw [List.getElem?_append_right (by rw [hol2]; omega), hol2] at hj
                obtain ⟨u, q1, q2⟩ := hur _ a hj
                refine ⟨u, ?_, hu1 u (List.mem_of_getElem? q1), q2⟩
                have := (List.getElem?_eq_some_iff.1 q1).1
                rw [List.append_assoc, List.getElem?_append_right (by simp; omega), List.getElem?_append_left (by simp; omega)]
                simp only [List.length_take, Array.length_toList]
                rw [← q1]
                congr 1
                omega
          · obtain ⟨nxt, w', e', v, g1, g2, g3, g4⟩ := grow (some ⟨b, s + off, none⟩) c0 olds hev (by rw [hev]; intro w1 hw1; have := hof w1 hw1; cases hvo; exact this) hol hol2 ho1 hor (by omega) (upd h' n none) (hr_kill H n)
            exact ⟨nxt, w', e', v, g1, g2, g3, g4.kill⟩
  | _ => simp [dstA] at hd

end Go.Av
