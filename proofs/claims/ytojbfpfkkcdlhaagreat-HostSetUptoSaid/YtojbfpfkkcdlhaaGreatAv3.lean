/- The operations on abstract values, first part: those that touch no memory, loads and stores. -/
import Derived.Test.YtojbfpfkkcdlhaaGreatAv2
import Derived.Laws.MakeOwn
import Derived.Laws.StructEq
import GoSem.Dispatch
namespace Go.Av
set_option linter.unusedVariables false
set_option linter.unusedSimpArgs false

/-- What an operation comes to: its value, the blocks it looks at, the blocks it leaves, how many names it makes. -/
structure LR where
  v : AV
  req : List (Nat × Blk) := []
  ups : List (Nat × Option Blk) := []
  made : Nat := 0

def OkRun (P : Program) (o : Oper) (ev : Operand → Value) (e : Env) (w : World) (h : HF) (nx : Nat) (L : LR) : Prop :=
  ∃ nxt w' e' v, (execOp ev o).run P w = .ok nxt w' ∧ (nxt = .value v ∨ (nxt = .skip ∧ v = undef)) ∧ VR e' w' L.v v ∧ Out e w h nx L.made e' w' (updL h L.ups)

theorem OkRun.pure {P : Program} {o : Oper} {ev : Operand → Value} {e : Env} {w : World} {h : HF} {nx : Nat} {L : LR} (H : HR e w h) {v : Value}
    (hr : (execOp ev o).run P w = .ok (.value v) w) (hv : VR e w L.v v) (hu : L.ups = []) (hm : L.made = 0) : OkRun P o ev e w h nx L :=
  ⟨_, w, e, v, hr, .inl rfl, hv, by rw [hu, hm]; exact Out.refl H nx⟩

theorem run_v {P : Program} {s : Sem Value} {w w' : World} {x : Value} (h : s.run P w = .ok x w') : (do pure (Next.value (← s)) : Sem Next).run P w = .ok (.value x) w' := by
  simp [h]

/-! constants -/
def ofV1 : Value → AV
  | .int k n => .int k n
  | .bool b => .bool b
  | .string s => .str s
  | .slice none 0 0 => .nilsl
  | .pointer none => .nilptr
  | .nilFunc => .nilfn
  | .nilIface => .nilif
  | _ => .any

def ofV : Value → AV
  | .agg cs => if cs.all (fun v => v.oneCell') then .agg (cs.toList.map ofV1) else .any
  | v => ofV1 v

theorem ofV1_rel (e : Env) (w : World) (v : Value) : VR e w (ofV1 v) v := by
  unfold ofV1
  split <;> constructor

theorem ofV_rel (e : Env) (w : World) (v : Value) : VR e w (ofV v) v := by
  unfold ofV
  split
  · rename_i cs
    split
    · rename_i hall
      refine .agg (by simp) (fun j v hv => ?_) (fun j c v hc hv => ?_)
      · rw [Array.all_eq_true_iff_forall_mem] at hall
        exact hall v (Array.mem_of_getElem? hv)
      · simp only [List.getElem?_map, Array.getElem?_toList, hv, Option.map_some, Option.some.injEq] at hc
        subst hc
        exact ofV1_rel e w v
    · exact .any _
  · exact ofV1_rel e w v

/-- The abstract value of an operand. -/
def oev (ρ : Nat → AV) : Operand → AV
  | .tmp t => ρ t
  | .const v => ofV v
  | .global _ => .any
  | .func f => .fn f []

/-! cells of a value -/
def aCells : AV → Option (List AV)
  | .agg cs => some cs
  | .any | .tup _ => none
  | a => some [a]

theorem aCells_rel {e : Env} {w : World} {a : AV} {v : Value} {cs : List AV} (h : VR e w a v) (hc : aCells a = some cs) :
    v.cells.size = cs.length ∧ (∀ (j : Nat) (c : AV) (u : Value), cs[j]? = some c → v.cells[j]? = some u → VR e w c u) ∧ ∀ u ∈ v.cells.toList, u.oneCell' = true := by
  have one : ∀ {a : AV} {v : Value}, VR e w a v → some [a] = some cs → v.cells = #[v] → v.oneCell' = true →
      v.cells.size = cs.length ∧ (∀ (j : Nat) (c : AV) (u : Value), cs[j]? = some c → v.cells[j]? = some u → VR e w c u) ∧ ∀ u ∈ v.cells.toList, u.oneCell' = true := by
    intro a v hv hs hcv h1
    cases hs
    rw [hcv]
    refine ⟨rfl, fun j c u h2 h3 => ?_, fun u hu => ?_⟩
    · cases j with
      | zero => simp at h2 h3; subst h2; subst h3; exact hv
      | succ j => simp at h2
    · simp at hu; subst hu; exact h1
  cases h with
  | any => cases hc
  | tup => cases hc
  | agg hl h1 hv =>
    cases hc
    refine ⟨hl, hv, fun u hu => ?_⟩
    obtain ⟨j, hj, rfl⟩ := List.mem_iff_getElem.1 hu
    exact h1 j _ (by simp [Value.cells] at hj ⊢)
  | int k n => exact one (.int k n) hc rfl rfl
  | bool b => exact one (.bool b) hc rfl rfl
  | anyb b => exact one (.anyb b) hc rfl rfl
  | str s => exact one (.str s) hc rfl rfl
  | nilsl => exact one .nilsl hc rfl rfl
  | nilptr => exact one .nilptr hc rfl rfl
  | nilfn => exact one .nilfn hc rfl rfl
  | nilif => exact one .nilif hc rfl rfl
  | ptr hb => exact one (.ptr hb) hc rfl rfl
  | iptr vs hI h1 hv => exact one (.iptr vs hI h1 hv) hc rfl rfl
  | osl hb hlen hcap room => exact one (.osl hb hlen hcap room) hc rfl rfl
  | oslz a hcap => exact one (.oslz a hcap) hc rfl rfl
  | vsl vs hI hlen hcap h1 hv => exact one (.vsl vs hI hlen hcap h1 hv) hc rfl rfl
  | vslz a hcap => exact one (.vslz a hcap) hc rfl rfl
  | fn hl hv => exact one (.fn hl hv) hc rfl rfl

/-! types -/
def tSize (P : Program) (t : TypeId) : Nat := ((P.info? t).map (·.size)).getD 0
def tAgg (P : Program) (t : TypeId) : Bool := match P.underlying t with | some (.struct _) | some (.array _ _) => true | _ => false

theorem run_isAgg {P : Program} {t : TypeId} {d : TypeDesc} (h : P.underlying t = some d) (w : World) : (isAgg t).run P w = .ok (tAgg P t) w := by
  simp only [isAgg, tAgg, Sem.run_bind, run_underlying h, Result.andThen_ok, h]
  cases d <;> rfl

theorem run_sizeOf {P : Program} {t : TypeId} {i : TypeInfo} (h : P.info? t = some i) (w : World) : (sizeOf t).run P w = .ok (tSize P t) w := by
  simp [sizeOf, typeInfo, tSize, h]

/-! load -/
def opLoad (P : Program) (h : HF) (t : TypeId) (x : AV) : Option LR :=
  if (P.underlying t).isSome && (P.info? t).isSome then
    match x with
    | .ptr n off =>
      match h n with
      | some cs =>
        if tAgg P t then
          if off + tSize P t ≤ cs.length then some { v := .agg ((cs.drop off).take (tSize P t)), req := [(n, cs)] } else none
        else (cs[off]?).map fun a => { v := a, req := [(n, cs)] }
      | none => none
    | .iptr cs off =>
      if tAgg P t then
        if off + tSize P t ≤ cs.length then some { v := .agg ((cs.drop off).take (tSize P t)) } else none
      else (cs[off]?).map fun a => { v := a }
    | _ => none
  else none

theorem run_load_agg {P : Program} {t : TypeId} {d : TypeDesc} {i : TypeInfo} (hd : P.underlying t = some d) (hi : P.info? t = some i) (hg : tAgg P t = true)
    (w : World) (b o : Nat) (vs : List Value) (hl : vs.length = tSize P t) (hv : ∀ j v, vs[j]? = some v → w.cell? ⟨b, o + j, none⟩ = some v) :
    (Instr.loadAt t (.pointer (some ⟨b, o, none⟩))).run P w = .ok (.agg vs.toArray) w := by
  have h1 : (loadCells ⟨b, o, none⟩ vs.length).run P w = .ok vs.toArray w :=
    run_loadCells_list (P := P) w ⟨b, o, none⟩ vs (fun j v hj => by
      have := hv j v hj
      unfold Addr.add
      split
      · rename_i h0; subst h0; simpa using this
      · exact this)
  simp [Instr.loadAt, Instr.sureAddr, loadVar, run_isAgg hd, hg, run_sizeOf hi, ← hl, h1]

theorem run_load_one {P : Program} {t : TypeId} {d : TypeDesc} (hd : P.underlying t = some d) (hg : tAgg P t = false)
    (w : World) (a : Addr) (v : Value) (hv : w.cell? a = some v) :
    (Instr.loadAt t (.pointer (some a))).run P w = .ok v w := by
  simp [Instr.loadAt, Instr.sureAddr, loadVar, run_isAgg hd, hg, hv]

theorem opLoad_run {P : Program} {e : Env} {w : World} {h h' : HF} {L : LR} {t : TypeId} {vx : Value} {av : AV}
    (hL : opLoad P h t av = some L) (hx : VR e w av vx) (H : HR e w h') (hreq : ∀ p ∈ L.req, h' p.1 = some p.2) : (∃ v, (Instr.loadAt t vx).run P w = .ok v w ∧ VR e w L.v v) ∧ L.ups = [] ∧ L.made = 0 := by
  unfold opLoad at hL
  split at hL
  case isFalse => cases hL
  rename_i hc
  simp only [Bool.and_eq_true, Option.isSome_iff_exists] at hc
  obtain ⟨⟨d, hd⟩, ⟨i, hi⟩⟩ := hc
  cases av with
  | ptr n off =>
    simp only at hL
    cases hn : h n with
    | none => rw [hn] at hL; cases hL
    | some cs =>
      rw [hn] at hL
      simp only at hL
      cases hx with
      | ptr hb =>
        rename_i b s
        split at hL
        · rename_i hg
          split at hL
          case isFalse => cases hL
          rename_i hle
          cases hL
          have hn' := hreq (n, cs) (by simp)
          rcases H.blk n cs hn' with ⟨h0, _⟩ | ⟨b', s', cells, el, h1, h2, h3, h4⟩
          · rw [hb] at h0; cases h0
          rw [hb] at h1
          cases h1
          have hget : ∀ j, j < tSize P t → ∃ v, cells[s + off + j]? = some v ∧ v.oneCell' = true ∧ ∀ a, cs[off + j]? = some a → VR e w a v := fun j hj => by
            obtain ⟨v, q1, q2, q3⟩ := h4 (off + j) cs[off + j] (List.getElem?_eq_getElem (by omega))
            exact ⟨v, by rw [show s + off + j = s + (off + j) by omega]; exact q1, q2, fun a ha => by rw [List.getElem?_eq_getElem (by omega)] at ha; cases ha; exact q3⟩
          have hext : ∀ j, j < tSize P t → s + off + j < cells.size := fun j hj => by
            obtain ⟨v, q1, _⟩ := hget j hj; exact (Array.getElem?_eq_some_iff.1 q1).1
          let vs : List Value := (List.range (tSize P t)).map fun j => cells.getD (s + off + j) undef
          have hvs : ∀ j v, vs[j]? = some v → j < tSize P t ∧ cells[s + off + j]? = some v := fun j v hj => by
            simp only [vs, List.getElem?_map, Option.map_eq_some_iff] at hj
            obtain ⟨k, hk, hk'⟩ := hj
            obtain ⟨hk1, hk2⟩ := List.getElem?_eq_some_iff.1 hk
            simp at hk1 hk2
            subst hk2
            refine ⟨hk1, ?_⟩
            rw [← hk', Array.getElem?_eq_getElem (hext j hk1)]
            simp [hext j hk1]
          refine ⟨⟨_, run_load_agg hd hi hg w b (s + off) vs (by simp [vs]) (fun j v hj => ?_), ?_⟩, rfl, rfl⟩
          · rw [cell_of_row w b _ cells el (0, 0) h3]; exact (hvs j v hj).2
          · refine .agg (by simp [vs]; omega) (fun j v hj => ?_) (fun j c v hc hj => ?_)
            · obtain ⟨q1, q2⟩ := hvs j v (by simpa using hj)
              obtain ⟨v', r1, r2, _⟩ := hget j q1
              rw [q2] at r1; cases r1; exact r2
            · obtain ⟨q1, q2⟩ := hvs j v (by simpa using hj)
              obtain ⟨v', r1, _, r3⟩ := hget j q1
              rw [q2] at r1; cases r1
              refine r3 c ?_
              rw [List.getElem?_take, List.getElem?_drop] at hc
              simpa [q1] using hc
        · rename_i hg
          simp only [Option.map_eq_some_iff] at hL
          obtain ⟨a, ha, rfl⟩ := hL
          have hn' := hreq (n, cs) (by simp)
          rcases H.blk n cs hn' with ⟨h0, _⟩ | ⟨b', s', cells, el, h1, h2, h3, h4⟩
          · rw [hb] at h0; cases h0
          rw [hb] at h1
          cases h1
          obtain ⟨v, q1, q2, q3⟩ := h4 off a ha
          exact ⟨⟨v, run_load_one hd (by simpa using hg) w _ v (by rw [cell_of_row w b _ cells el (0, 0) h3]; exact q1), q3⟩, rfl, rfl⟩
  | iptr cs off =>
    simp only at hL
    cases hx with
    | iptr vs0 hI hc hv =>
      rename_i b s
      split at hL
      · rename_i hg
        split at hL
        case isFalse => cases hL
        rename_i hle
        cases hL
        let vs : List Value := (List.range (tSize P t)).map fun j => vs0 (off + j)
        have hvs : ∀ j v, vs[j]? = some v → j < tSize P t ∧ v = vs0 (off + j) := fun j v hj => by
          simp only [vs, List.getElem?_map, Option.map_eq_some_iff] at hj
          obtain ⟨k, hk, hk'⟩ := hj
          obtain ⟨hk1, hk2⟩ := List.getElem?_eq_some_iff.1 hk
          simp at hk1 hk2
          subst hk2
          exact ⟨hk1, hk'.symm⟩
        refine ⟨⟨_, run_load_agg hd hi hg w b (s + off) vs (by simp [vs]) (fun j v hj => ?_), ?_⟩, rfl, rfl⟩
        · obtain ⟨q1, rfl⟩ := hvs j v hj
          rw [show s + off + j = s + (off + j) by omega]
          exact (hc (off + j) cs[off + j] (List.getElem?_eq_getElem (by omega))).1
        · refine .agg (by simp [vs]; omega) (fun j v hj => ?_) (fun j c v hc' hj => ?_)
          · obtain ⟨q1, rfl⟩ := hvs j v (by simpa using hj)
            exact (hc (off + j) cs[off + j] (List.getElem?_eq_getElem (by omega))).2
          · obtain ⟨q1, rfl⟩ := hvs j v (by simpa using hj)
            refine hv (off + j) c ?_
            rw [List.getElem?_take, List.getElem?_drop] at hc'
            simpa [q1] using hc'
      · rename_i hg
        simp only [Option.map_eq_some_iff] at hL
        obtain ⟨a, ha, rfl⟩ := hL
        exact ⟨⟨_, run_load_one hd (by simpa using hg) w _ _ (hc off a ha).1, hv off a ha⟩, rfl, rfl⟩
  | _ => cases hL

theorem opLoad_ok {P : Program} {o : Oper} {ev : Operand → Value} {e : Env} {w : World} {h h' : HF} {nx : Nat} {L : LR} {t : TypeId} {x : Operand} {av : AV}
    (ho : o.op = .load t x) (hL : opLoad P h t av = some L) (hx : VR e w av (ev x)) (H : HR e w h') (hreq : ∀ p ∈ L.req, h' p.1 = some p.2) : OkRun P o ev e w h' nx L := by
  obtain ⟨⟨v, h1, h2⟩, h3, h4⟩ := opLoad_run hL hx H hreq
  exact OkRun.pure H (by simp only [execOp, ho]; exact run_v h1) h2 h3 h4

/-! store -/
def spl (cs : List AV) (off : Nat) : List AV → List AV
  | [a] => cs.set off a
  | vs => cs.take off ++ vs ++ cs.drop (off + vs.length)

theorem spl_eq (cs vs : List AV) (off : Nat) (h : off + vs.length ≤ cs.length) : spl cs off vs = cs.take off ++ vs ++ cs.drop (off + vs.length) := by
  unfold spl
  split
  · rename_i a
    simp at h
    rw [List.set_eq_take_append_cons_drop]
    simp [show off < cs.length by omega]
  · rfl

theorem spl_get (cs vs : List AV) (off j : Nat) (h : off + vs.length ≤ cs.length) :
    (spl cs off vs)[j]? = if off ≤ j ∧ j < off + vs.length then vs[j - off]? else cs[j]? := by
  rw [spl_eq cs vs off h]
  by_cases h1 : j < off
  · rw [List.append_assoc, List.getElem?_append_left (by simp; omega)]
    rw [if_neg (by omega), List.getElem?_take, if_pos h1]
  · by_cases h2 : j < off + vs.length
    · rw [List.append_assoc, List.getElem?_append_right (by simp; omega), List.getElem?_append_left (by simp; omega)]
      rw [if_pos (by omega)]
      simp [show min off cs.length = off by omega]
    · rw [List.append_assoc, List.getElem?_append_right (by simp; omega), List.getElem?_append_right (by simp; omega)]
      rw [if_neg (by omega), List.getElem?_drop]
      simp
      congr 1
      omega

theorem spl_len (cs vs : List AV) (off : Nat) (h : off + vs.length ≤ cs.length) : (spl cs off vs).length = cs.length := by
  rw [spl_eq cs vs off h]; simp; omega

def opStore (P : Program) (h : HF) (t : TypeId) (x y : AV) : Option LR :=
  if (P.info? t).isSome then
    match x, aCells y with
    | .ptr n off, some vs =>
      match h n with
      | some cs => if vs.length = tSize P t ∧ off + vs.length ≤ cs.length ∧ 0 < vs.length then some { v := .any, req := [(n, cs)], ups := [(n, some (spl cs off vs))] } else none
      | none => none
    | _, _ => none
  else none

theorem opStore_ok {P : Program} {o : Oper} {ev : Operand → Value} {e : Env} {w : World} {h h' : HF} {nx : Nat} {L : LR} {t : TypeId} {x y : Operand} {av bv : AV}
    (ho : o.op = .store t x y) (hL : opStore P h t av bv = some L) (hx : VR e w av (ev x)) (hy : VR e w bv (ev y)) (H : HR e w h')
    (hreq : ∀ p ∈ L.req, h' p.1 = some p.2) : OkRun P o ev e w h' nx L := by
  unfold opStore at hL
  split at hL
  case isFalse => cases hL
  rename_i hc
  rw [Option.isSome_iff_exists] at hc
  obtain ⟨i, hi⟩ := hc
  split at hL
  case h_2 => cases hL
  rename_i n off vs hvs
  cases hn : h n with
  | none => rw [hn] at hL; cases hL
  | some cs =>
    rw [hn] at hL
    simp only at hL
    split at hL
    case isFalse => cases hL
    rename_i hle
    obtain ⟨hl1, hl2, hl3⟩ := hle
    cases hL
    have hn' := hreq (n, cs) (by simp)
    generalize hev : ev x = vx at *
    cases hx with
    | ptr hb =>
      rename_i b s
      rcases H.blk n cs hn' with ⟨h0, _⟩ | ⟨b', s', cells, el, h1, h2, h3, h4⟩
      · rw [hb] at h0; cases h0
      rw [hb] at h1
      cases h1
      obtain ⟨c1, c2, c3⟩ := aCells_rel hy hvs
      have hfit : s + off + (ev y).cells.toList.length ≤ cells.size := by
        obtain ⟨v, q1, _⟩ := h4 (off + vs.length - 1) cs[off + vs.length - 1] (List.getElem?_eq_getElem (by omega))
        have := (Array.getElem?_eq_some_iff.1 q1).1
        simp [c1]; omega
      have hrun := run_storeCells_at P b (s + off) el (ev y).cells.toList 0 cells w h3 (by simpa using hfit) c3
      refine ⟨.skip, w.setRow b (cells.toList.take (s + off) ++ (ev y).cells.toList ++ cells.toList.drop (s + off + (ev y).cells.toList.length)).toArray, e, undef, ?_, .inr ⟨rfl, rfl⟩, .any _, ?_⟩
      · simp only [Nat.add_zero] at hrun
        simp [execOp, ho, hev, Instr.storeAt, Instr.sureAddr, storeVar, run_sizeOf hi, c1, hl1, hrun]
      · refine out_write H nx (by rw [hn']; simp) hb h3 (by simp; simp at hfit; omega) (fun j a hj => ?_)
        simp only [List.getElem?_toArray]
        rw [spl_get cs vs off j hl2] at hj
        split at hj
        · rename_i hr
          obtain ⟨u, hu⟩ : ∃ u, (ev y).cells[j - off]? = some u := ⟨_, Array.getElem?_eq_getElem (by omega)⟩
          refine ⟨u, ?_, c3 u (by simpa using Array.mem_of_getElem? hu), c2 (j - off) a u hj hu⟩
          rw [List.append_assoc, List.getElem?_append_right (by simp; omega), List.getElem?_append_left (by simp at hfit ⊢; omega)]
          simp only [List.length_take, Array.length_toList]
          rw [show s + j - min (s + off) cells.size = j - off by simp at hfit; omega]
          simpa using hu
        · rename_i hr
          obtain ⟨v, q1, q2, q3⟩ := h4 j a hj
          refine ⟨v, ?_, q2, q3⟩
          by_cases hlt : j < off
          · rw [List.append_assoc, List.getElem?_append_left (by simp at hfit ⊢; omega), List.getElem?_take, if_pos (by omega)]
            simpa using q1
          · rw [List.append_assoc, List.getElem?_append_right (by simp; omega), List.getElem?_append_right (by simp at hfit ⊢; omega), List.getElem?_drop]
            simp only [List.length_take, Array.length_toList]
            rw [← Array.getElem?_toList] at q1
            rw [← q1]
            congr 1
            simp at hfit
            omega

end Go.Av
