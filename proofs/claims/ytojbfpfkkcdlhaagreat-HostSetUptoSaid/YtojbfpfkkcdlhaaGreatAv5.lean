/- The operations on abstract values, third part: new blocks, aggregates, slices, append. -/
import Derived.Test.YtojbfpfkkcdlhaaGreatAv4
namespace Go.Av
set_option linter.unusedVariables false
set_option linter.unusedSimpArgs false

theorem cells_getD {e : Env} {w : World} {a : AV} {v : Value} {cs : List AV} (h : VR e w a v) (hc : aCells a = some cs) :
    ∀ (j : Nat) (c : AV), cs[j]? = some c → ∃ u, v.cells[j]? = some u ∧ u.oneCell' = true ∧ VR e w c u := by
  obtain ⟨h1, h2, h3⟩ := aCells_rel h hc
  intro j c hj
  have hlt : j < v.cells.size := by rw [h1]; exact (List.getElem?_eq_some_iff.1 hj).1
  refine ⟨v.cells[j], by simp [hlt], h3 _ (by simp), h2 j c _ hj (by simp [hlt])⟩

/-- A new block. -/
theorem okRun_new {P : Program} {o : Oper} {ev : Operand → Value} {e : Env} {w w0 : World} {h : HF} {nx : Nat} (hw : w0.heap = w.heap) (hs : w0.os = w.os ∧ w0.output = w.output) (H : HR e w h) (hβ : e.β nx = none) {cells : Array Value} {el : TypeId} {blk : Blk}
    (hc : ∀ (j : Nat) (a : AV), blk[j]? = some a → ∃ v, cells[j]? = some v ∧ v.oneCell' = true ∧ VR e w a v)
    {v : Value} (hr : (execOp ev o).run P w = .ok (.value v) (w0.alloc (.cells cells el))) {av : AV}
    (hv : VR (e.bind nx (some (w.heap.size, 0))) (w0.alloc (.cells cells el)) av v) : OkRun P o ev e w h nx { v := av, ups := [(nx, some blk)], made := 1 } := by
  have H0 : HR e w0 h := H.of_heap hw
  have hsz : w0.heap.size = w.heap.size := by rw [hw]
  have o1 := out_alloc (el := el) H0 hβ (fun j a hj => by obtain ⟨u, h1, h2, h3⟩ := hc j a hj; exact ⟨u, h1, h2, h3.of_heap hw⟩)
  rw [hsz] at o1
  exact ⟨_, _, _, v, hr, .inl rfl, hv, o1.of_heap hw hs.1 hs.2⟩

theorem run_newRow {P : Program} (el : TypeId) (cells : Array Value) (w : World) : (newRow el cells).run P w = .ok ⟨w.heap.size, 0, none⟩ (w.alloc (.cells cells el)) := by
  simp [newRow]

def tZero (P : Program) (t : TypeId) : Option Value := (P.info? t).bind (·.zero)

theorem run_zeroValue {P : Program} {t : TypeId} {z : Value} (h : tZero P t = some z) (w : World) : (zeroValue t).run P w = .ok z w := by
  unfold tZero at h
  cases hi : P.info? t with
  | none => rw [hi] at h; cases h
  | some i =>
    rw [hi] at h
    simp only [Option.bind_some] at h
    simp [zeroValue, typeInfo, hi, h]

def opAlloc (P : Program) (nx : Nat) (t : TypeId) : Option LR :=
  match tZero P t with
  | some z => (aCells (ofV z)).map fun cs => { v := .ptr nx 0, ups := [(nx, some cs)], made := 1 }
  | none => none

theorem opAlloc_ok {P : Program} {o : Oper} {ev : Operand → Value} {e : Env} {w : World} {h : HF} {nx : Nat} {L : LR} {t : TypeId}
    (ho : o.op = .alloc t) (hL : opAlloc P nx t = some L) (H : HR e w h) (hβ : e.β nx = none) : OkRun P o ev e w h nx L := by
  unfold opAlloc at hL
  split at hL
  case h_2 => cases hL
  rename_i z hz
  rw [Option.map_eq_some_iff] at hL
  obtain ⟨cs, hcs, rfl⟩ := hL
  have hrun : (Instr.alloc t true (.tuple #[])).run P w = .ok (.pointer (some ⟨w.heap.size, 0, none⟩)) (w.alloc (.cells z.cells t)) := by
    simp [Instr.alloc, run_zeroValue hz, newVar, run_newRow]
  exact okRun_new rfl ⟨rfl, rfl⟩ H hβ (cells := z.cells) (el := t) (cells_getD (ofV_rel e w z) hcs) (by simp only [execOp, ho]; exact run_v hrun) (by have := VR.ptr (e := e.bind nx (some (w.heap.size, 0))) (w := w.alloc (.cells z.cells t)) (n := nx) (off := 0) (b := w.heap.size) (s := 0) (by simp); simpa using this)

def opBox (nx : Nat) (x : AV) : Option LR := (aCells x).map fun cs => { v := .ptr nx 0, ups := [(nx, some cs)], made := 1 }

theorem opBox_ok {P : Program} {o : Oper} {ev : Operand → Value} {e : Env} {w : World} {h : HF} {nx : Nat} {L : LR} {t : TypeId} {x : Operand} {av : AV}
    (ho : o.op = .box t x) (hL : opBox nx av = some L) (hx : VR e w av (ev x)) (H : HR e w h) (hβ : e.β nx = none) : OkRun P o ev e w h nx L := by
  unfold opBox at hL
  rw [Option.map_eq_some_iff] at hL
  obtain ⟨cs, hcs, rfl⟩ := hL
  have hrun : (Instr.box t (ev x)).run P w = .ok (.pointer (some ⟨w.heap.size, 0, none⟩)) (w.alloc (.cells (ev x).cells t)) := by
    simp [Instr.box, newVar, run_newRow]
  exact okRun_new rfl ⟨rfl, rfl⟩ H hβ (cells := (ev x).cells) (el := t) (cells_getD hx hcs) (by simp only [execOp, ho]; exact run_v hrun) (by have := VR.ptr (e := e.bind nx (some (w.heap.size, 0))) (w := w.alloc (.cells (ev x).cells t)) (n := nx) (off := 0) (b := w.heap.size) (s := 0) (by simp); simpa using this)

/-! aggregates -/
def aFill (place : Nat → Option (Nat × Nat)) (cells : List AV) : List (Nat × AV) → Option (List AV)
  | [] => some cells
  | (i, v) :: rest =>
    match place i, aCells v with
    | some (off, size), some vs => if vs.length = size ∧ off + vs.length ≤ cells.length then aFill place (spl cells off vs) rest else none
    | _, _ => none

theorem foldl_set (v : Array Value) (off : Nat) (cells : Array Value) (h : off + v.size ≤ cells.size) :
    (v.zipIdx.foldl (fun cs (c, j) => cs.setIfInBounds (off + j) c) cells).size = cells.size ∧
    ∀ j : Nat, (v.zipIdx.foldl (fun cs (c, j) => cs.setIfInBounds (off + j) c) cells)[j]? = if off ≤ j ∧ j < off + v.size then v[j - off]? else cells[j]? := by
  have key : ∀ (l : List Value) (k : Nat) (cs : Array Value), off + k + l.length ≤ cs.size →
      ((l.zipIdx k).foldl (fun cs (c, j) => cs.setIfInBounds (off + j) c) cs).size = cs.size ∧
      ∀ j : Nat, ((l.zipIdx k).foldl (fun cs (c, j) => cs.setIfInBounds (off + j) c) cs)[j]? = if off + k ≤ j ∧ j < off + k + l.length then l[j - (off + k)]? else cs[j]? := by
    intro l
    induction l with
    | nil => intro k cs _; exact ⟨rfl, fun j => by simp; omega⟩
    | cons a l ih =>
      intro k cs hk
      simp only [List.zipIdx_cons, List.foldl_cons, List.length_cons] at hk ⊢
      obtain ⟨h1, h2⟩ := ih (k + 1) (cs.setIfInBounds (off + k) a) (by simp; omega)
      refine ⟨by rw [h1]; simp, fun j => ?_⟩
      rw [h2 j]
      by_cases c1 : j = off + k
      · subst c1
        rw [if_neg (by omega), if_pos (by omega)]
        simp [show off + k < cs.size by omega]
      · by_cases c2 : off + (k + 1) ≤ j ∧ j < off + (k + 1) + l.length
        · rw [if_pos c2, if_pos (by omega)]
          rw [show j - (off + k) = (j - (off + (k + 1))) + 1 by omega, List.getElem?_cons_succ]
        · rw [if_neg c2, if_neg (by omega), Array.getElem?_setIfInBounds_ne (by omega)]
  have := key v.toList 0 cells (by simpa using h)
  rw [← Array.foldl_toList, Array.toList_zipIdx]
  simpa using this

theorem fill_ok {e : Env} {w : World} {place : Nat → Option (Nat × Nat)} : ∀ (parts : List (Nat × AV)) (vparts : List (Nat × Value)) (cells : List AV) (vcells : Array Value) (out : List AV),
    vparts.length = parts.length → (∀ (j i : Nat) (a : AV), parts[j]? = some (i, a) → ∃ v, vparts[j]? = some (i, v) ∧ VR e w a v) →
    vcells.size = cells.length → (∀ (j : Nat) (a : AV), cells[j]? = some a → ∃ v, vcells[j]? = some v ∧ v.oneCell' = true ∧ VR e w a v) →
    aFill place cells parts = some out →
    ∃ vout, Instr.fill place vcells vparts = some vout ∧ vout.size = out.length ∧ ∀ (j : Nat) (a : AV), out[j]? = some a → ∃ v, vout[j]? = some v ∧ v.oneCell' = true ∧ VR e w a v := by
  intro parts
  induction parts with
  | nil =>
    intro vparts cells vcells out hl _ hs hc hf
    have : vparts = [] := List.eq_nil_of_length_eq_zero (by simpa using hl)
    subst this
    cases hf
    exact ⟨vcells, rfl, hs, hc⟩
  | cons p parts ih =>
    intro vparts cells vcells out hl hp hs hc hf
    obtain ⟨i, a⟩ := p
    obtain ⟨v, hv1, hv2⟩ := hp 0 i a (by simp)
    cases vparts with
    | nil => simp at hv1
    | cons q vparts =>
      simp at hv1
      subst hv1
      simp only [aFill] at hf
      split at hf
      case h_2 => cases hf
      rename_i off size vs hpl hvs
      split at hf
      case isFalse => cases hf
      rename_i hle
      obtain ⟨c1, c2, c3⟩ := aCells_rel hv2 hvs
      obtain ⟨f1, f2⟩ := foldl_set v.cells off vcells (by omega)
      obtain ⟨vout, r1, r2, r3⟩ := ih vparts (spl cells off vs) (v.cells.zipIdx.foldl (fun cs (c, j) => cs.setIfInBounds (off + j) c) vcells) out (by simpa using hl)
        (fun j i' a' hj => hp (j + 1) i' a' (by simpa using hj)) (by rw [f1, spl_len _ _ _ hle.2]; exact hs) (fun j a' hj => by
          rw [spl_get _ _ _ _ hle.2] at hj
          rw [f2 j, c1]
          split at hj
          · rename_i hr
            rw [if_pos hr]
            exact cells_getD hv2 hvs _ _ hj
          · rename_i hr
            rw [if_neg hr]
            exact hc j a' hj) hf
      refine ⟨vout, ?_, r2, r3⟩
      have n1 : ¬ (v.cells.size ≠ size) := by omega
      have n2 : ¬ (off + v.cells.size > vcells.size) := by omega
      simp only [Instr.fill, hpl, n1, n2, Bool.or_eq_true, decide_eq_true_eq, or_self, if_false]
      exact r1

def opBuild (P : Program) (t : TypeId) (parts : List (Nat × AV)) : Option AV :=
  match tZero P t, P.underlying t with
  | some z, some (.struct fs) =>
    if fs.all (fun f => (P.info? f.type).isSome) then
      match aCells (ofV z) with
      | some zc => (aFill (fun i => (fs[i]?).map fun f => (f.offset, tSize P f.type)) zc parts).map .agg
      | none => none
    else none
  | some z, some (.array _ el) =>
    if (P.info? el).isSome then
      match aCells (ofV z) with
      | some zc => (aFill (fun i => some (i * tSize P el, tSize P el)) zc parts).map .agg
      | none => none
    else none
  | _, _ => none

theorem run_mapM_places {P : Program} (w : World) (fs : Array Field) (h : ∀ f ∈ fs, (P.info? f.type).isSome) :
    (fs.mapM (m := Sem) fun f => do pure (f.offset, ← sizeOf f.type)).run P w = .ok (fs.map fun f => (f.offset, tSize P f.type)) w := by
  obtain ⟨l⟩ := fs
  have key : ∀ (l : List Field), (∀ f ∈ l, (P.info? f.type).isSome) → (l.mapM (m := Sem) fun f => do pure (f.offset, ← sizeOf f.type)).run P w = .ok (l.map fun f => (f.offset, tSize P f.type)) w := by
    intro l
    induction l with
    | nil => intro _; simp
    | cons f l ih =>
      intro hl
      obtain ⟨i, hi⟩ := Option.isSome_iff_exists.1 (hl f (by simp))
      have := ih (fun g hg => hl g (by simp [hg]))
      simp only [List.mapM_cons, Sem.run_bind, run_sizeOf hi, Result.andThen_ok, Sem.run_pure, this, List.map_cons]
  have h2 := key l (by simpa using h)
  simp only [List.mapM_toArray, Sem.run_map, h2, Result.andThen_ok, List.map_toArray]

theorem opBuild_ok {P : Program} {o : Oper} {ev : Operand → Value} {e : Env} {w : World} {h : HF} {nx : Nat} {t : TypeId} {ps : Array (Nat × Operand)} {parts : List (Nat × AV)} {r : AV}
    (ho : o.op = .build t ps) (hlen : parts.length = ps.size) (hps : ∀ (j i : Nat) (x : Operand), ps[j]? = some (i, x) → ∃ a, parts[j]? = some (i, a) ∧ VR e w a (ev x))
    (hL : opBuild P t parts = some r) (H : HR e w h) : OkRun P o ev e w h nx { v := r } := by
  have hparts : ∀ (j i : Nat) (a : AV), parts[j]? = some (i, a) → ∃ v, ((ps.map fun (i, x) => (i, ev x)).toList)[j]? = some (i, v) ∧ VR e w a v := fun j i a hj => by
    have hlt : j < ps.size := by rw [← hlen]; exact (List.getElem?_eq_some_iff.1 hj).1
    obtain ⟨i', x, hp'⟩ : ∃ i' x, ps[j]? = some (i', x) := ⟨ps[j].1, ps[j].2, Array.getElem?_eq_getElem hlt⟩
    obtain ⟨a', ha, hv⟩ := hps j i' x hp'
    rw [hj] at ha
    cases ha
    exact ⟨ev x, by simp [hp'], hv⟩
  have hlen' : ((ps.map fun (i, x) => (i, ev x)).toList).length = parts.length := by simp [hlen]
  unfold opBuild at hL
  split at hL
  · rename_i z fs hz hu
    split at hL
    case isFalse => cases hL
    rename_i hall
    split at hL
    case h_2 => cases hL
    rename_i zc hzc
    rw [Option.map_eq_some_iff] at hL
    obtain ⟨out, hf, rfl⟩ := hL
    obtain ⟨q1, _, _⟩ := aCells_rel (ofV_rel e w z) hzc
    obtain ⟨vout, r1, r2, r3⟩ := fill_ok (e := e) (w := w) parts _ zc z.cells out hlen' hparts q1 (cells_getD (ofV_rel e w z) hzc) hf
    have hm := run_mapM_places (P := P) w fs (fun f hf => by rw [Array.all_eq_true_iff_forall_mem] at hall; exact hall f hf)
    refine OkRun.pure H (v := .agg vout) ?_ (.agg r2 (fun j v hj => ?_) (fun j c v hc hj => ?_)) rfl rfl
    · have e1 : (fun (x : Nat) => (Array.map (fun f : Field => (f.offset, tSize P f.type)) fs)[x]?) = fun (i : Nat) => (fs[i]?).map fun (f : Field) => (f.offset, tSize P f.type) := by funext i; simp
      simp only [execOp, ho]
      refine run_v ?_
      simp only [Instr.build, Sem.run_bind, run_zeroValue hz, Result.andThen_ok, run_underlying hu, hm, e1, r1, Sem.run_pure]
    · have hlt := (Array.getElem?_eq_some_iff.1 hj).1
      obtain ⟨u, s1, s2, _⟩ := r3 j out[j] (List.getElem?_eq_getElem (by omega))
      rw [hj] at s1; cases s1; exact s2
    · obtain ⟨u, s1, _, s3⟩ := r3 j c hc
      rw [hj] at s1; cases s1; exact s3
  · rename_i z m el hz hu
    split at hL
    case isFalse => cases hL
    rename_i hi
    obtain ⟨i, hi⟩ := Option.isSome_iff_exists.1 hi
    split at hL
    case h_2 => cases hL
    rename_i zc hzc
    rw [Option.map_eq_some_iff] at hL
    obtain ⟨out, hf, rfl⟩ := hL
    obtain ⟨q1, _, _⟩ := aCells_rel (ofV_rel e w z) hzc
    obtain ⟨vout, r1, r2, r3⟩ := fill_ok (e := e) (w := w) parts _ zc z.cells out hlen' hparts q1 (cells_getD (ofV_rel e w z) hzc) hf
    refine OkRun.pure H (v := .agg vout) ?_ (.agg r2 (fun j v hj => ?_) (fun j c v hc hj => ?_)) rfl rfl
    · simp only [execOp, ho]
      refine run_v ?_
      simp only [Instr.build, Sem.run_bind, run_zeroValue hz, Result.andThen_ok, run_underlying hu, run_sizeOf hi, r1, Sem.run_pure]
    · have hlt := (Array.getElem?_eq_some_iff.1 hj).1
      obtain ⟨u, s1, s2, _⟩ := r3 j out[j] (List.getElem?_eq_getElem (by omega))
      rw [hj] at s1; cases s1; exact s2
    · obtain ⟨u, s1, _, s3⟩ := r3 j c hc
      rw [hj] at s1; cases s1; exact s3
  · cases hL

end Go.Av
