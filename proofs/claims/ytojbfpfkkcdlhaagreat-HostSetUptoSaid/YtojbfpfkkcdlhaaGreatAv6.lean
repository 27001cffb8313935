/- The operations on abstract values, fourth part: slices and append. -/
import Derived.Test.YtojbfpfkkcdlhaaGreatAv5
import Derived.Laws.Append
namespace Go.Av
set_option linter.unusedVariables false
set_option linter.unusedSimpArgs false

/-- `n` copies of the cells `z`. -/
def repL (n : Nat) (z : List AV) : List AV := (List.replicate n z).flatten

theorem repL_length (n : Nat) (z : List AV) : (repL n z).length = n * z.length := by simp [repL]

theorem repL_get (n : Nat) (z : List AV) (j : Nat) (h : j < n * z.length) : (repL n z)[j]? = z[j % z.length]? := by
  induction n generalizing j with
  | zero => simp at h
  | succ n ih =>
    simp only [repL, List.replicate_succ, List.flatten_cons]
    by_cases hj : j < z.length
    · rw [List.getElem?_append_left hj, Nat.mod_eq_of_lt hj]
    · rw [List.getElem?_append_right (by omega)]
      have hlt : j - z.length < n * z.length := by rw [Nat.add_mul] at h; omega
      have := ih (j - z.length) hlt
      simp only [repL] at this
      rw [this, Nat.mod_eq_sub_mod (by omega : j ≥ z.length)]

/-- zeroes as the model lays them. -/
theorem zero_cells {e : Env} {w : World} {z : Value} {zc : List AV} (hz : aCells (ofV z) = some zc) (n : Nat) :
    ∀ (j : Nat) (a : AV), (repL n zc)[j]? = some a →
      ∃ v, ((Array.range (n * z.cells.size)).map fun i => z.cells[i % z.cells.size]!)[j]? = some v ∧ v.oneCell' = true ∧ VR e w a v := by
  intro j a hj
  obtain ⟨q1, _, _⟩ := aCells_rel (ofV_rel e w z) hz
  have hlt : j < n * zc.length := by have := (List.getElem?_eq_some_iff.1 hj).1; rwa [repL_length] at this
  rw [repL_get n zc j hlt] at hj
  obtain ⟨u, h1, h2, h3⟩ := cells_getD (ofV_rel e w z) hz _ a hj
  refine ⟨u, ?_, h2, h3⟩
  have hlt' : j < n * z.cells.size := by rw [q1]; exact hlt
  have hm : j % z.cells.size < z.cells.size := Nat.mod_lt _ (by
    rcases Nat.eq_zero_or_pos zc.length with h0 | h0
    · rw [h0] at hlt; simp at hlt
    · omega)
  rw [← q1] at h1
  simp only [Array.getElem?_map, Array.getElem?_range, hlt', if_true, Option.map_some, Option.some.injEq]
  rw [Array.getElem?_eq_getElem hm] at h1
  simpa [getElem!_pos, hm] using h1

/-- The slice type's element: its size. -/
def slEl (P : Program) (t : TypeId) : Option TypeId :=
  match P.underlying t with
  | some (.slice el) => if (P.info? el).isSome then some el else none
  | _ => none

theorem slEl_spec {P : Program} {t el : TypeId} (h : slEl P t = some el) : P.underlying t = some (.slice el) ∧ ∃ i, P.info? el = some i := by
  unfold slEl at h
  split at h
  · rename_i el' hu
    split at h
    · rename_i hi
      cases h
      exact ⟨hu, Option.isSome_iff_exists.1 hi⟩
    · cases h
  · cases h

def opBuildSlice (P : Program) (nx : Nat) (t : TypeId) (len : Nat) (parts : List (Nat × AV)) : Option LR :=
  match slEl P t with
  | some el =>
    match (if len = 0 then some [] else (tZero P el).bind fun z => aCells (ofV z)) with
    | some zc =>
      if len * tSize P el ≤ 16777216 ∧ (len = 0 ∨ zc.length = tSize P el) ∧ 0 < tSize P el then
        (aFill (fun i => some (i * tSize P el, tSize P el)) (repL len zc) parts).map fun cs =>
          { v := .osl nx 0 len (some len) (tSize P el), ups := [(nx, some cs)], made := 1 }
      else none
    | none => none
  | none => none

theorem osl_new {e : Env} {w w0 : World} {nx len cap sz : Nat} {c : Option Nat} {cells : Array Value} {el : TypeId} (hw : w0.heap = w.heap) (hlc : len ≤ cap) (hc : ∀ k, c = some k → cap = k) (hs : cap * sz ≤ cells.size) :
    VR (e.bind nx (some (w.heap.size, 0))) (w0.alloc (.cells cells el)) (.osl nx 0 len c sz) (.slice (some ⟨w.heap.size, 0, none⟩) len cap) := by
  have := VR.osl (e := e.bind nx (some (w.heap.size, 0))) (w := w0.alloc (.cells cells el)) (n := nx) (off := 0) (len := len) (sz := sz) (b := w.heap.size) (s := 0) (c := cap) (cap := c)
    (by simp) hlc hc ⟨cells, el, (0, 0), by rw [← hw]; exact heap_alloc_new w0 _, by omega⟩
  simpa using this

theorem opBuildSlice_ok {P : Program} {o : Oper} {ev : Operand → Value} {e : Env} {w : World} {h : HF} {nx : Nat} {L : LR} {t : TypeId} {len : Nat} {ps : Array (Nat × Operand)} {parts : List (Nat × AV)}
    (ho : o.op = .buildSlice t len ps) (hlen : parts.length = ps.size) (hps : ∀ (j i : Nat) (x : Operand), ps[j]? = some (i, x) → ∃ a, parts[j]? = some (i, a) ∧ VR e w a (ev x))
    (hL : opBuildSlice P nx t len parts = some L) (H : HR e w h) (hβ : e.β nx = none) : OkRun P o ev e w h nx L := by
  have hparts : ∀ (j i : Nat) (a : AV), parts[j]? = some (i, a) → ∃ v, ((ps.map fun (i, x) => (i, ev x)).toList)[j]? = some (i, v) ∧ VR e w a v := fun j i a hj => by
    have hlt : j < ps.size := by rw [← hlen]; exact (List.getElem?_eq_some_iff.1 hj).1
    obtain ⟨i', x, hp'⟩ : ∃ i' x, ps[j]? = some (i', x) := ⟨ps[j].1, ps[j].2, Array.getElem?_eq_getElem hlt⟩
    obtain ⟨a', ha, hv⟩ := hps j i' x hp'
    rw [hj] at ha
    cases ha
    exact ⟨ev x, by simp [hp'], hv⟩
  have hlen' : ((ps.map fun (i, x) => (i, ev x)).toList).length = parts.length := by simp [hlen]
  unfold opBuildSlice at hL
  split at hL
  case h_2 => cases hL
  rename_i el hel
  obtain ⟨hu, i, hi⟩ := slEl_spec hel
  split at hL
  case h_2 => cases hL
  rename_i zc hzc
  split at hL
  case isFalse => cases hL
  rename_i hc
  obtain ⟨hc1, hc2, hc3⟩ := hc
  rw [Option.map_eq_some_iff] at hL
  obtain ⟨cs, hf, rfl⟩ := hL
  -- the zero cells
  obtain ⟨zv, hzrun, hzs, hzg⟩ : ∃ zv : Array Value, ((len * tSize P el = 0 ∧ zv = #[]) ∨ (¬ len * tSize P el = 0 ∧ ∃ z, tZero P el = some z ∧ zv = z.cells)) ∧
      ((Array.range (len * tSize P el)).map fun i => zv[i % zv.size]!).size = (repL len zc).length ∧
      ∀ (j : Nat) (a : AV), (repL len zc)[j]? = some a → ∃ v, ((Array.range (len * tSize P el)).map fun i => zv[i % zv.size]!)[j]? = some v ∧ v.oneCell' = true ∧ VR e w a v := by
    by_cases h0 : len = 0
    · subst h0
      rw [if_pos rfl] at hzc
      cases hzc
      exact ⟨#[], .inl ⟨by simp, rfl⟩, by simp [repL], fun j a hj => by simp [repL] at hj⟩
    · rw [if_neg h0] at hzc
      rw [Option.bind_eq_some_iff] at hzc
      obtain ⟨z, hz, hzc⟩ := hzc
      obtain ⟨q1, _, _⟩ := aCells_rel (ofV_rel e w z) hzc
      have hsz : zc.length = tSize P el := hc2.resolve_left h0
      have hne : ¬ (len * tSize P el = 0) := Nat.mul_ne_zero h0 (by omega)
      refine ⟨z.cells, .inr ⟨hne, z, hz, rfl⟩, by simp [repL_length, hsz], fun j a hj => ?_⟩
      have := zero_cells (e := e) (w := w) hzc len j a hj
      rw [q1, hsz] at this
      rw [q1, hsz]
      exact this
  obtain ⟨vout, r1, r2, r3⟩ := fill_ok (e := e) (w := w) parts _ (repL len zc) _ cs hlen' hparts hzs hzg hf
  have hvs : vout.size = len * tSize P el := by
    have : ∀ (place : Nat → Option (Nat × Nat)) (ps : List (Nat × AV)) (c out : List AV), aFill place c ps = some out → out.length = c.length := by
      intro place ps
      induction ps with
      | nil => intro c out h; cases h; rfl
      | cons p ps ih =>
        intro c out h
        simp only [aFill] at h
        split at h
        case h_2 => cases h
        split at h
        case isFalse => cases h
        rename_i hle
        rw [ih _ _ h, spl_len _ _ _ hle.2]
    rw [r2, this _ _ _ _ hf, ← hzs]
    simp
  have hrun : (Instr.buildSlice t len (ps.map fun (i, x) => (i, ev x))).run P w = .ok (.slice (some ⟨w.heap.size, 0, none⟩) len len) (w.alloc (.cells vout el)) := by
    have hn : ¬ (len * tSize P el > 2 ^ 24) := by omega
    rcases hzrun with ⟨h0, rfl⟩ | ⟨h0, z, hz, rfl⟩
    · have hn' : ¬ (0 > 2 ^ 24) := by omega
      rw [h0] at r1
      simp only [Instr.buildSlice, Sem.run_bind, run_underlying hu, Result.andThen_ok, run_sizeOf hi, h0, hn', if_true, if_false, Sem.run_pure, r1, run_newRow]
    · simp only [Instr.buildSlice, Sem.run_bind, run_underlying hu, Result.andThen_ok, run_sizeOf hi, hn, if_false, h0, Sem.run_pure, run_zeroValue hz, r1, run_newRow]
  exact okRun_new rfl ⟨rfl, rfl⟩ H hβ (cells := vout) (el := el) r3 (by simp only [execOp, ho]; exact run_v hrun) (osl_new rfl (Nat.le_refl _) (fun k hk => by cases hk; rfl) (by omega))

def opMakeSlice (P : Program) (nx : Nat) (t : TypeId) (l c : AV) : Option LR :=
  match slEl P t, l, c with
  | some el, .int _ l, .int _ c =>
    match (tZero P el).bind fun z => aCells (ofV z) with
    | some zc =>
      if 0 ≤ l ∧ l ≤ c ∧ c ≤ 4294967296 ∧ ((P.info? el).map (·.bytes)).getD 0 ≤ 4096 ∧ zc.length = tSize P el then
        some { v := .osl nx 0 l.toNat (some c.toNat) (tSize P el), ups := [(nx, some (repL c.toNat zc))], made := 1 }
      else none
    | none => none
  | _, _, _ => none

theorem opMakeSlice_ok {P : Program} {o : Oper} {ev : Operand → Value} {e : Env} {w : World} {h : HF} {nx : Nat} {L : LR} {t : TypeId} {x y : Operand} {av bv : AV}
    (ho : o.op = .makeSlice t x y) (hL : opMakeSlice P nx t av bv = some L) (hx : VR e w av (ev x)) (hy : VR e w bv (ev y)) (H : HR e w h) (hβ : e.β nx = none) : OkRun P o ev e w h nx L := by
  unfold opMakeSlice at hL
  split at hL
  case h_2 => cases hL
  rename_i el kl l kc c hel
  obtain ⟨hu, i, hi⟩ := slEl_spec hel
  split at hL
  case h_2 => cases hL
  rename_i zc hzc
  split at hL
  case isFalse => cases hL
  rename_i hc
  obtain ⟨h0, hlc, hcb, hbytes, hsz⟩ := hc
  cases hL
  cases hx' : ev x <;> rw [hx'] at hx <;> cases hx
  cases hy' : ev y <;> rw [hy'] at hy <;> cases hy
  rw [Option.bind_eq_some_iff] at hzc
  obtain ⟨z, hz, hzc⟩ := hzc
  obtain ⟨q1, _, _⟩ := aCells_rel (ofV_rel e w z) hzc
  have hz' : i.zero = some z := by unfold tZero at hz; rw [hi] at hz; exact hz
  rw [hi] at hbytes
  simp only [Option.map_some, Option.getD_some] at hbytes
  have hb2 : (i.bytes : Int) * c ≤ 281474976710656 := by
    have h1 : (i.bytes : Int) * c ≤ 4096 * c := Int.mul_le_mul_of_nonneg_right (by omega) (by omega)
    omega
  have hrun := run_make (P := P) w t el i z hu hi hz' kl kc l c h0 hlc hb2 (by omega)
  have hts : tSize P el = i.size := by simp [tSize, hi]
  have hmade : madeCells z.cells (c.toNat * i.size) = (Array.range (c.toNat * z.cells.size)).map fun i => z.cells[i % z.cells.size]! := by
    unfold madeCells; rw [q1, hsz, hts]
  refine okRun_new rfl ⟨rfl, rfl⟩ H hβ (cells := madeCells z.cells (c.toNat * i.size)) (el := el) (by rw [hmade]; exact zero_cells hzc c.toNat) (by simp only [execOp, ho, hx', hy']; exact run_v hrun) ?_
  refine osl_new rfl (by omega) (fun k hk => by cases hk; rfl) ?_
  rw [hmade, q1, hsz]
  simp

/-! aggregates' parts, strings -/
def opField (P : Program) (t : TypeId) (x : AV) (f : Nat) : Option AV :=
  match P.underlying t, x with
  | some (.struct fs), .agg cs =>
    match fs[f]? with
    | some fd =>
      if (P.underlying fd.type).isSome ∧ (P.info? fd.type).isSome then
        if tAgg P fd.type then
          if fd.offset + tSize P fd.type ≤ cs.length then some (.agg ((cs.drop fd.offset).take (tSize P fd.type))) else none
        else cs[fd.offset]?
      else none
    | none => none
  | _, _ => none

theorem opField_ok {P : Program} {o : Oper} {ev : Operand → Value} {e : Env} {w : World} {h : HF} {nx : Nat} {x : Operand} {t : TypeId} {f : Nat} {av r : AV}
    (ho : o.op = .field t x f) (hL : opField P t av f = some r) (hx : VR e w av (ev x)) (H : HR e w h) : OkRun P o ev e w h nx { v := r } := by
  unfold opField at hL
  split at hL
  case h_2 => cases hL
  rename_i fs cs hu
  split at hL
  case h_2 => cases hL
  rename_i fd hfd
  split at hL
  case isFalse => cases hL
  rename_i hc
  obtain ⟨d, hd⟩ := Option.isSome_iff_exists.1 hc.1
  obtain ⟨i, hi⟩ := Option.isSome_iff_exists.1 hc.2
  generalize hx' : ev x = vx at hx
  cases hx with
  | agg hl h1 hv =>
    rename_i vs
    split at hL
    · rename_i hg
      split at hL
      case isFalse => cases hL
      rename_i hle
      cases hL
      refine OkRun.pure H (v := .agg (vs.extract fd.offset (fd.offset + tSize P fd.type))) ?_ (.agg (by simp; omega) (fun j v hj => ?_) (fun j c v hcj hj => ?_)) rfl rfl
      · simp [execOp, ho, hx', Instr.field, run_underlying hu, hfd, asAgg, part, run_isAgg hd, hg, run_sizeOf hi]
      · rw [Array.getElem?_extract] at hj
        split at hj
        · exact h1 _ _ hj
        · cases hj
      · rw [Array.getElem?_extract] at hj
        split at hj
        · rw [List.getElem?_take, List.getElem?_drop] at hcj
          split at hcj
          · exact hv _ c v hcj hj
          · cases hcj
        · cases hj
    · rename_i hg
      have hlt : fd.offset < vs.size := by rw [hl]; exact (List.getElem?_eq_some_iff.1 hL).1
      exact OkRun.pure H (v := vs[fd.offset]) (by simp [execOp, ho, hx', Instr.field, run_underlying hu, hfd, asAgg, part, run_isAgg hd, hg, hlt]) (hv _ r _ hL (by simp [hlt])) rfl rfl

def opIndex (P : Program) (t : TypeId) (x i : AV) : Option AV :=
  match P.underlying t, x, i with
  | some .string, .str s, .int _ k => if 0 ≤ k then (s[k.toNat]?).map fun b => .int .u8 b.toNat else none
  | _, _, _ => none

theorem opIndex_ok {P : Program} {o : Oper} {ev : Operand → Value} {e : Env} {w : World} {h : HF} {nx : Nat} {x y : Operand} {t : TypeId} {av bv r : AV}
    (ho : o.op = .index t x y) (hL : opIndex P t av bv = some r) (hx : VR e w av (ev x)) (hy : VR e w bv (ev y)) (H : HR e w h) : OkRun P o ev e w h nx { v := r } := by
  unfold opIndex at hL
  split at hL
  case h_2 => cases hL
  rename_i s kk k hu
  split at hL
  case isFalse => cases hL
  rename_i hk
  rw [Option.map_eq_some_iff] at hL
  obtain ⟨b, hb, rfl⟩ := hL
  cases hx' : ev x <;> rw [hx'] at hx <;> cases hx
  cases hy' : ev y <;> rw [hy'] at hy <;> cases hy
  exact OkRun.pure H (v := .int .u8 b.toNat) (by simp [execOp, ho, hx', hy', Instr.index, asIntOf, run_underlying hu, hk, hb]) (.int _ _) rfl rfl

def opMakeFunc (f : Fn) (first captured : List AV) : Option AV :=
  match f, first with
  | .func f, [] => some (.fn f captured)
  | _, _ => none

theorem opMakeFunc_ok {P : Program} {o : Oper} {ev : Operand → Value} {e : Env} {w : World} {h : HF} {nx : Nat} {f : Fn} {fi ca : Array Operand} {cs : List AV} {r : AV}
    (ho : o.op = .makeFunc f fi ca) (hfi : fi.size = 0) (hlen : cs.length = ca.size) (hcs : ∀ (j : Nat) (x : Operand), ca[j]? = some x → ∃ a, cs[j]? = some a ∧ VR e w a (ev x))
    (hL : opMakeFunc f [] cs = some r) (H : HR e w h) : OkRun P o ev e w h nx { v := r } := by
  unfold opMakeFunc at hL
  split at hL
  case h_2 => cases hL
  cases hL
  have hfi' : fi = #[] := Array.eq_empty_of_size_eq_zero hfi
  refine OkRun.pure H (v := .func (.func _) #[] (ca.map ev)) (by simp [execOp, ho, Instr.makeFunc, hfi']) (.fn (by simp [hlen]) (fun j c v hc hv => ?_)) rfl rfl
  simp only [Array.getElem?_map, Option.map_eq_some_iff] at hv
  obtain ⟨x, hx, rfl⟩ := hv
  obtain ⟨a, ha, hr⟩ := hcs j x hx
  rw [hc] at ha
  cases ha
  exact hr

end Go.Av
