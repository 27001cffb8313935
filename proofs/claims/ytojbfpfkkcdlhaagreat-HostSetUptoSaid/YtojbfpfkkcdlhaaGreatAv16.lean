/- The equations by which simp runs code. -/
import Derived.Test.YtojbfpfkkcdlhaaGreatAv15
namespace Go.Av
set_option linter.unusedVariables false
set_option linter.unusedSimpArgs false
section
variable {P : Program}
theorem opBin_add (t : TypeId) (k : IntKind) (a b : Int) : opBin P .add t (.int k a) (.int k b) = some (.int k (k.wrap (a + b))) := by simp [opBin, opInt]
theorem opBin_sub (t : TypeId) (k : IntKind) (a b : Int) : opBin P .sub t (.int k a) (.int k b) = some (.int k (k.wrap (a - b))) := by simp [opBin, opInt]
theorem opBin_mul (t : TypeId) (k : IntKind) (a b : Int) : opBin P .mul t (.int k a) (.int k b) = some (.int k (k.wrap (a * b))) := by simp [opBin, opInt]
theorem opBin_quo (t : TypeId) (k : IntKind) (a b : Int) : opBin P .quo t (.int k a) (.int k b) = if b = 0 then none else some (.int k (k.wrap (a.tdiv b))) := by simp [opBin, opInt]
theorem opBin_rem (t : TypeId) (k : IntKind) (a b : Int) : opBin P .rem t (.int k a) (.int k b) = if b = 0 then none else some (.int k (a.tmod b)) := by simp [opBin, opInt]
theorem opBin_eql (t : TypeId) (k : IntKind) (a b : Int) : opBin P .eql t (.int k a) (.int k b) = some (.bool (decide (a = b))) := by simp [opBin, opInt]
theorem opBin_neq (t : TypeId) (k : IntKind) (a b : Int) : opBin P .neq t (.int k a) (.int k b) = some (.bool (!decide (a = b))) := by simp [opBin, opInt]
theorem opBin_lss (t : TypeId) (k : IntKind) (a b : Int) : opBin P .lss t (.int k a) (.int k b) = some (.bool (decide (a < b))) := by simp [opBin, opInt]
theorem opBin_leq (t : TypeId) (k : IntKind) (a b : Int) : opBin P .leq t (.int k a) (.int k b) = some (.bool (decide (a ≤ b))) := by simp [opBin, opInt]
theorem opBin_gtr (t : TypeId) (k : IntKind) (a b : Int) : opBin P .gtr t (.int k a) (.int k b) = some (.bool (decide (b < a))) := by simp [opBin, opInt]
theorem opBin_geq (t : TypeId) (k : IntKind) (a b : Int) : opBin P .geq t (.int k a) (.int k b) = some (.bool (decide (b ≤ a))) := by simp [opBin, opInt]
theorem opBin_str (op : BinOp) (t : TypeId) (a b : ByteArray) : opBin P op t (.str a) (.str b) = opStr op a b := rfl
theorem opUn_not (b : Bool) : opUn .not (.bool b) = some (.bool !b) := rfl
theorem opUn_neg (k : IntKind) (n : Int) : opUn .neg (.int k n) = some (.int k (k.wrap (0 - n))) := rfl
theorem opExtract_tup (vs : List AV) (i : Nat) : opExtract (.tup vs) i = vs[i]? := rfl
theorem opNil_ptr (n off : Nat) : opNil (.ptr n off) = some (.ptr n off) := rfl
theorem opNil_iptr (cs : List AV) (off : Nat) : opNil (.iptr cs off) = some (.iptr cs off) := rfl
theorem opNil_fn (f : FuncId) (cs : List AV) : opNil (.fn f cs) = some (.fn f cs) := rfl
theorem hget_cons (m n : Nat) (b : Blk) (l : Heap) : hget ((m, b) :: l) n = if n = m then some b else hget l n := rfl
theorem hget_nil (n : Nat) : hget [] n = none := rfl
theorem hset_nil (n : Nat) (b : Blk) : hset [] n b = [(n, b)] := rfl
theorem hset_cons (m n : Nat) (b c : Blk) (l : Heap) : hset ((m, c) :: l) n b = if n = m then (m, b) :: l else (m, c) :: hset l n b := rfl
theorem hdel_nil (n : Nat) : hdel [] n = [] := rfl
theorem hdel_cons (m n : Nat) (c : Blk) (l : Heap) : hdel ((m, c) :: l) n = if n = m then hdel l n else (m, c) :: hdel l n := rfl
theorem hups_nil (H : Heap) : hups H [] = H := rfl
theorem hups_some (H : Heap) (n : Nat) (b : Blk) (l : List (Nat × Option Blk)) : hups H ((n, some b) :: l) = hups (hset H n b) l := rfl
theorem hups_none (H : Heap) (n : Nat) (l : List (Nat × Option Blk)) : hups H ((n, none) :: l) = hups (hdel H n) l := rfl
theorem opBox_eq (nx : Nat) (x : AV) : opBox nx x = (aCells x).map fun cs => { v := .ptr nx 0, ups := [(nx, some cs)], made := 1 } := rfl
theorem aCells_agg (cs : List AV) : aCells (.agg cs) = some cs := rfl
theorem aCells_int (k : IntKind) (n : Int) : aCells (.int k n) = some [.int k n] := rfl
theorem aCells_bool (b : Bool) : aCells (.bool b) = some [.bool b] := rfl
theorem aCells_str (s : ByteArray) : aCells (.str s) = some [.str s] := rfl
theorem aCells_vsl (cs : List AV) (n : Nat) (c : Option Nat) : aCells (.vsl cs n c) = some [.vsl cs n c] := rfl
theorem aCells_osl (n o l : Nat) (c : Option Nat) (z : Nat) : aCells (.osl n o l c z) = some [.osl n o l c z] := rfl
theorem aCells_nilsl : aCells .nilsl = some [.nilsl] := rfl
theorem aCells_ptr (n o : Nat) : aCells (.ptr n o) = some [.ptr n o] := rfl
theorem aCells_iptr (cs : List AV) (o : Nat) : aCells (.iptr cs o) = some [.iptr cs o] := rfl
theorem aCells_nilptr : aCells .nilptr = some [.nilptr] := rfl
theorem aCells_fn (f : FuncId) (cs : List AV) : aCells (.fn f cs) = some [.fn f cs] := rfl

/-! with the facts of the types -/
theorem opLoad_ptr1 {h : HF} {t : TypeId} {n off : Nat} (hu : (P.underlying t).isSome) (hi : (P.info? t).isSome) (hg : tAgg P t = false) :
    opLoad P h t (.ptr n off) = match h n with | some cs => (cs[off]?).map fun a => { v := a, req := [(n, cs)] } | none => none := by
  simp only [opLoad, hu, hi, hg, Bool.and_self, if_true]
  cases h n <;> rfl
theorem opLoad_ptrA {h : HF} {t : TypeId} {n off : Nat} {sz : Nat} (hu : (P.underlying t).isSome) (hi : (P.info? t).isSome) (hg : tAgg P t = true) (hs : tSize P t = sz) :
    opLoad P h t (.ptr n off) = match h n with | some cs => if off + sz ≤ cs.length then some { v := .agg ((cs.drop off).take sz), req := [(n, cs)] } else none | none => none := by
  simp only [opLoad, hu, hi, hg, hs, Bool.and_self, if_true]
  cases h n <;> rfl
theorem opLoad_iptr1 {h : HF} {t : TypeId} {cs : List AV} {off : Nat} (hu : (P.underlying t).isSome) (hi : (P.info? t).isSome) (hg : tAgg P t = false) :
    opLoad P h t (.iptr cs off) = (cs[off]?).map fun a => { v := a } := by
  simp [opLoad, hu, hi, hg]
theorem opStore_eq {h : HF} {t : TypeId} {n off : Nat} {y : AV} {sz : Nat} (hi : (P.info? t).isSome) (hs : tSize P t = sz) :
    opStore P h t (.ptr n off) y = match aCells y with
      | some vs => match h n with
        | some cs => if vs.length = sz ∧ off + vs.length ≤ cs.length ∧ 0 < vs.length then some { v := .any, req := [(n, cs)], ups := [(n, some (spl cs off vs))] } else none
        | none => none
      | none => none := by
  simp only [opStore, hi, hs, if_true]
  cases aCells y <;> rfl
theorem opFieldAddr_ptr {t : TypeId} {f k n off : Nat} (h : fOff P t f = some k) : opFieldAddr P t (.ptr n off) f = some (.ptr n (off + k)) := by simp [opFieldAddr, h]
theorem opFieldAddr_iptr {t : TypeId} {f k off : Nat} {cs : List AV} (h : fOff P t f = some k) : opFieldAddr P t (.iptr cs off) f = some (.iptr cs (off + k)) := by simp [opFieldAddr, h]
theorem opIndexAddr_vsl {t el : TypeId} {sz : Nat} (hs : P.underlying t = some (.slice el)) (hi : (P.info? el).isSome) (hz : tSize P el = sz) (cs : List AV) (len : Nat) (cap : Option Nat) (kk : IntKind) (k : Int) :
    opIndexAddr P t (.vsl cs len cap) (.int kk k) = if 0 ≤ k ∧ k < len then some (.iptr cs (k.toNat * sz)) else none := by simp [opIndexAddr, hs, hi, hz]
theorem opIndexAddr_osl {t el : TypeId} {sz : Nat} (hs : P.underlying t = some (.slice el)) (hi : (P.info? el).isSome) (hz : tSize P el = sz) (n off len : Nat) (cap : Option Nat) (z : Nat) (kk : IntKind) (k : Int) :
    opIndexAddr P t (.osl n off len cap z) (.int kk k) = if 0 ≤ k ∧ k < len then some (.ptr n (off + k.toNat * sz)) else none := by simp [opIndexAddr, hs, hi, hz]
theorem opIndexAddr_arr {t el m : TypeId} {sz : Nat} (hs : P.underlying t = some (.array m el)) (hi : (P.info? el).isSome) (hz : tSize P el = sz) (n off : Nat) (kk : IntKind) (k : Int) :
    opIndexAddr P t (.ptr n off) (.int kk k) = if 0 ≤ k ∧ k < m then some (.ptr n (off + k.toNat * sz)) else none := by simp [opIndexAddr, hs, hi, hz]
theorem opIndexAddr_arri {t el m : TypeId} {sz : Nat} (hs : P.underlying t = some (.array m el)) (hi : (P.info? el).isSome) (hz : tSize P el = sz) (cs : List AV) (off : Nat) (kk : IntKind) (k : Int) :
    opIndexAddr P t (.iptr cs off) (.int kk k) = if 0 ≤ k ∧ k < m then some (.iptr cs (off + k.toNat * sz)) else none := by simp [opIndexAddr, hs, hi, hz]
theorem opLen_vsl {t el : TypeId} (hs : P.underlying t = some (.slice el)) (cs : List AV) (len : Nat) (cap : Option Nat) : opLen P t (.vsl cs len cap) = some (.int .i64 len) := by simp [opLen, hs]
theorem opLen_osl {t el : TypeId} (hs : P.underlying t = some (.slice el)) (n off len : Nat) (cap : Option Nat) (z : Nat) : opLen P t (.osl n off len cap z) = some (.int .i64 len) := by simp [opLen, hs]
theorem opLen_nilsl {t el : TypeId} (hs : P.underlying t = some (.slice el)) : opLen P t .nilsl = some (.int .i64 0) := by simp [opLen, hs]
theorem opLen_str {t : TypeId} (hs : P.underlying t = some .string) (s : ByteArray) : opLen P t (.str s) = some (.int .i64 s.size) := by simp [opLen, hs]
theorem opAlloc_eq {t : TypeId} {z : Value} {cs : List AV} {nx : Nat} (hz : tZero P t = some z) (hc : aCells (ofV z) = some cs) : opAlloc P nx t = some { v := .ptr nx 0, ups := [(nx, some cs)], made := 1 } := by simp [opAlloc, hz, hc]
theorem opConv_eq {s t : TypeId} {k k' kk : IntKind} {n : Int} (hs : P.underlying s = some (.int k')) (ht : P.underlying t = some (.int k)) : opConv P s t (.int kk n) = some (.int k (k.wrap n)) := by simp [opConv, hs, ht]
/-- Nil or not. -/
def slNil : AV → Option AV
  | .nilsl => some (.bool true)
  | .osl _ _ len _ _ | .vsl _ len _ => some (if len = 0 then .anyb else .bool false)
  | _ => none
theorem slNil_nilsl : slNil .nilsl = some (.bool true) := rfl
theorem slNil_osl (n off len : Nat) (cap : Option Nat) (sz : Nat) : slNil (.osl n off len cap sz) = some (if len = 0 then .anyb else .bool false) := rfl
theorem slNil_vsl (cs : List AV) (len : Nat) (cap : Option Nat) : slNil (.vsl cs len cap) = some (if len = 0 then .anyb else .bool false) := rfl
theorem opBin_slNil {t el : TypeId} (h : P.underlying t = some (.slice el)) (x : AV) : opBin P .eql t x .nilsl = slNil x := by
  cases x <;> simp [opBin, opSlNil, h, slNil]
  · rename_i len _ _; cases len <;> simp
  · rename_i len _; cases len <;> simp

theorem opBin_boolEq {t : TypeId} (h : P.underlying t = some .bool) (a b : Bool) : opBin P .eql t (.bool a) (.bool b) = some (.bool (decide (a = b))) := by simp [opBin, h]
theorem opBin_boolNe {t : TypeId} (h : P.underlying t = some .bool) (a b : Bool) : opBin P .neq t (.bool a) (.bool b) = some (.bool (!decide (a = b))) := by simp [opBin, h]
theorem opAppend_eq {h : HF} {nx : Nat} {t t2 el : TypeId} {sz : Nat} {x y : AV} (hs : slEl P t = some el) (hz : tSize P el = sz) (hb : ((P.info? el).map (·.bytes)).getD 0 ≤ 4096) (h0 : 0 < sz) (hzz : (tZero P el).map (·.cells.size) = some sz) (hn : notInt P t2 = true) :
    opAppend P h nx t t2 x y = match dstA h sz x, srcA h sz y with
      | some (len, old, req, kill), some (k, new, req2) => if len + k ≤ 4294967296 then some { v := .osl nx 0 (len + k) none sz, req := req ++ req2, ups := kill ++ [(nx, some (old ++ new))], made := 1 } else none
      | _, _ => none := by
  simp only [opAppend, hs, hz, hb, h0, hzz, hn, and_true]
  cases dstA h sz x with
  | none => rfl
  | some p =>
    obtain ⟨_, _, _, _⟩ := p
    cases srcA h sz y with
    | none => rfl
    | some q => obtain ⟨_, _, _⟩ := q; rfl
theorem opBuildSlice_eq {nx : Nat} {t el : TypeId} {n sz : Nat} {parts : List (Nat × AV)} {z : Value} {zc : List AV} (hs : slEl P t = some el) (hz : tSize P el = sz) (hzz : tZero P el = some z) (hc : aCells (ofV z) = some zc) (hl : zc.length = sz) (h0 : 0 < sz) (hn : n * sz ≤ 16777216) :
    opBuildSlice P nx t n parts = (aFill (fun i => some (i * sz, sz)) (repL n zc) parts).map fun cs => { v := .osl nx 0 n (some n) sz, ups := [(nx, some cs)], made := 1 } := by
  simp only [opBuildSlice, hs, hz, hzz, Option.bind_some, hc, hl, h0, hn, or_true, and_true, if_true]
  by_cases hn0 : n = 0
  · subst hn0; simp [repL, h0]
  · simp [hn0, hl]
theorem opMakeSlice_eq {nx : Nat} {t el : TypeId} {sz : Nat} {k k' : IntKind} {l c : Int} {z : Value} {zc : List AV} (hs : slEl P t = some el) (hz : tSize P el = sz) (hzz : tZero P el = some z) (hc : aCells (ofV z) = some zc) (hl : zc.length = sz) (hb : ((P.info? el).map (·.bytes)).getD 0 ≤ 4096) :
    opMakeSlice P nx t (.int k l) (.int k' c) = if 0 ≤ l ∧ l ≤ c ∧ c ≤ 4294967296 then some { v := .osl nx 0 l.toNat (some c.toNat) sz, ups := [(nx, some (repL c.toNat zc))], made := 1 } else none := by
  simp only [opMakeSlice, hs, hz, hzz, Option.bind_some, hc, hl, hb, true_and, and_true]
theorem opIndex_str {t : TypeId} (hu : P.underlying t = some .string) (s : ByteArray) (kk : IntKind) (k : Int) : opIndex P t (.str s) (.int kk k) = if 0 ≤ k then (s[k.toNat]?).map fun b => .int .u8 b.toNat else none := by simp [opIndex, hu]
theorem opField_one {t : TypeId} {f o : Nat} {fs : Array Field} {fd : Field} {cs : List AV} (hu : P.underlying t = some (.struct fs)) (hf : fs[f]? = some fd) (h1 : (P.underlying fd.type).isSome) (h2 : (P.info? fd.type).isSome) (h3 : tAgg P fd.type = false) (h4 : fd.offset = o) :
    opField P t (.agg cs) f = cs[o]? := by simp [opField, hu, hf, h1, h2, h3, h4]
theorem opField_agg {t : TypeId} {f o sz : Nat} {fs : Array Field} {fd : Field} {cs : List AV} (hu : P.underlying t = some (.struct fs)) (hf : fs[f]? = some fd) (h1 : (P.underlying fd.type).isSome) (h2 : (P.info? fd.type).isSome) (h3 : tAgg P fd.type = true) (h4 : fd.offset = o) (h5 : tSize P fd.type = sz) :
    opField P t (.agg cs) f = if o + sz ≤ cs.length then some (.agg ((cs.drop o).take sz)) else none := by simp [opField, hu, hf, h1, h2, h3, h4, h5]
theorem opBuild_struct {t : TypeId} {fs : Array Field} {z : Value} {zc : List AV} {parts : List (Nat × AV)} {pl : List (Nat × Nat)} (hz : tZero P t = some z) (hu : P.underlying t = some (.struct fs)) (ha : fs.all (fun f => (P.info? f.type).isSome) = true) (hc : aCells (ofV z) = some zc)
    (hp : (fs.map fun f => (f.offset, tSize P f.type)).toList = pl) : opBuild P t parts = (aFill (fun i => pl[i]?) zc parts).map .agg := by
  subst hp
  simp only [opBuild, hz, hu, ha, hc, if_true]
  congr 2
  funext i
  simp
theorem opSlice_vsl {t el : TypeId} {sz : Nat} (hs : slEl P t = some el) (hz : tSize P el = sz) (cs : List AV) (len : Nat) (cap : Option Nat) (lo hi mx : Option AV) : opSlice P t (.vsl cs len cap) lo hi mx =
    match bdA lo 0, bdA hi len with
    | some l, some h => match mx with
      | none => if 0 ≤ l ∧ l ≤ h ∧ h ≤ len then some (.vsl ((cs.drop (l.toNat * sz)).take ((h.toNat - l.toNat) * sz)) (h.toNat - l.toNat) (cap.map (· - l.toNat))) else none
      | some (.int _ m) => if 0 ≤ l ∧ l ≤ h ∧ h ≤ m ∧ m ≤ len ∧ hi.isSome then some (.vsl ((cs.drop (l.toNat * sz)).take ((h.toNat - l.toNat) * sz)) (h.toNat - l.toNat) (some (m.toNat - l.toNat))) else none
      | some _ => none
    | _, _ => none := by
  subst hz
  simp only [opSlice, hs]
  cases bdA lo 0 <;> cases bdA hi len <;> rfl
theorem opSlice_osl {t el : TypeId} {sz : Nat} (hs : slEl P t = some el) (hz : tSize P el = sz) (n off len : Nat) (cap : Option Nat) (lo hi mx : Option AV) : opSlice P t (.osl n off len cap sz) lo hi mx =
    match bdA lo 0, bdA hi len with
    | some l, some h => match mx with
      | none => if 0 ≤ l ∧ l ≤ h ∧ h ≤ cap.getD len then some (.osl n (off + l.toNat * sz) (h.toNat - l.toNat) (cap.map (· - l.toNat)) sz) else none
      | some (.int _ m) => if 0 ≤ l ∧ l ≤ h ∧ h ≤ m ∧ m ≤ cap.getD len ∧ hi.isSome then some (.osl n (off + l.toNat * sz) (h.toNat - l.toNat) (some (m.toNat - l.toNat)) sz) else none
      | some _ => none
    | _, _ => none := by
  subst hz
  simp only [opSlice, hs]
  cases bdA lo 0 <;> cases bdA hi len <;> simp only [if_true] <;> rfl
theorem opSlice_str {t : TypeId} (hu : P.underlying t = some .string) (s : ByteArray) (lo hi : Option AV) : opSlice P t (.str s) lo hi none =
    match bdA lo 0, bdA hi s.size with
    | some l, some h => if 0 ≤ l ∧ l ≤ h ∧ h ≤ s.size then some (.str (s.extract l.toNat h.toNat)) else none
    | _, _ => none := by
  simp only [opSlice, hu]
  cases bdA lo 0 <;> cases bdA hi s.size <;> rfl
theorem bdA_none (d : Int) : bdA none d = some d := rfl
theorem bdA_some (k : IntKind) (i d : Int) : bdA (some (.int k i)) d = some i := rfl
theorem dstA_nilsl (h : HF) (sz : Nat) : dstA h sz .nilsl = some (0, [], [], []) := rfl
theorem dstA_vslz (h : HF) (sz : Nat) : dstA h sz (.vsl [] 0 (some 0)) = some (0, [], [], []) := rfl
theorem dstA_osln (h : HF) (sz n off len : Nat) : dstA h sz (.osl n off len none sz) = match h n with | some cs => if off + len * sz ≤ cs.length then some (len, (cs.drop off).take (len * sz), [(n, cs)], [(n, none)]) else none | none => none := by
  simp only [dstA]; simp only [reduceCtorEq, and_false, if_false, true_and]; cases h n <;> rfl
theorem dstA_osl0 (h : HF) (sz n off : Nat) (z : Nat) : dstA h sz (.osl n off 0 (some 0) z) = some (0, [], [], []) := by simp [dstA]
theorem dstA_oslc (h : HF) (sz n off len c : Nat) (hc : ¬ (len = 0 ∧ c = 0)) : dstA h sz (.osl n off len (some c) sz) = match h n with | some cs => if off + len * sz ≤ cs.length then some (len, (cs.drop off).take (len * sz), [(n, cs)], [(n, none)]) else none | none => none := by
  simp only [dstA]; simp only [Option.some.injEq, hc, if_false, true_and]; cases h n <;> rfl
theorem srcA_vsl (h : HF) (sz k : Nat) (cs : List AV) (c : Option Nat) : srcA h sz (.vsl cs k c) = if cs.length = k * sz then some (k, cs, []) else none := rfl
theorem srcA_nilsl (h : HF) (sz : Nat) : srcA h sz .nilsl = some (0, [], []) := rfl
theorem srcA_osl (h : HF) (sz n off k : Nat) (c : Option Nat) (z : Nat) : srcA h sz (.osl n off k c z) = match h n with | some cs => if off + k * sz ≤ cs.length then some (k, (cs.drop off).take (k * sz), [(n, cs)]) else none | none => none := rfl
theorem spl_one (cs : List AV) (off : Nat) (a : AV) : spl cs off [a] = cs.set off a := rfl
theorem opMin_int (k k' : IntKind) (a b : Int) : opMin (.int k a) (.int k' b) = some (.int k (if b < a then b else a)) := rfl
theorem opMax_int (k k' : IntKind) (a b : Int) : opMax (.int k a) (.int k' b) = some (.int k (if a < b then b else a)) := rfl
theorem opStr_eql (a b : ByteArray) : opStr .eql a b = some (.bool (decide (a = b))) := rfl
theorem opStr_neq (a b : ByteArray) : opStr .neq a b = some (.bool (!decide (a = b))) := rfl
theorem opLoad_iptrA {h : HF} {t : TypeId} {cs : List AV} {off : Nat} {sz : Nat} (hu : (P.underlying t).isSome) (hi : (P.info? t).isSome) (hg : tAgg P t = true) (hs : tSize P t = sz) :
    opLoad P h t (.iptr cs off) = if off + sz ≤ cs.length then some { v := .agg ((cs.drop off).take sz) } else none := by
  simp [opLoad, hu, hi, hg, hs]
end
theorem chk_U_nil (dn : List (Nat × List Nat × List Nat)) (i : Nat) (rq up : List Nat) : chk [] dn i rq up = True := by simp [chk]
/-! the facts of one type, as the programs print them -/
abbrev LdA (P : Program) (t sz : Nat) : Prop := ∀ (h : HF) (n off : Nat), opLoad P h t (.ptr n off) = match h n with | some cs => if off + sz ≤ cs.length then some { v := .agg ((cs.drop off).take sz), req := [(n, cs)] } else none | none => none
abbrev LdiA (P : Program) (t sz : Nat) : Prop := ∀ (h : HF) (cs : List AV) (off : Nat), opLoad P h t (.iptr cs off) = if off + sz ≤ cs.length then some { v := .agg ((cs.drop off).take sz) } else none
abbrev Ld1 (P : Program) (t : Nat) : Prop := ∀ (h : HF) (n off : Nat), opLoad P h t (.ptr n off) = match h n with | some cs => (cs[off]?).map fun a => { v := a, req := [(n, cs)] } | none => none
abbrev Ldi1 (P : Program) (t : Nat) : Prop := ∀ (h : HF) (cs : List AV) (off : Nat), opLoad P h t (.iptr cs off) = (cs[off]?).map fun a => { v := a }
abbrev StF (P : Program) (t sz : Nat) : Prop := ∀ (h : HF) (n off : Nat) (y : AV), opStore P h t (.ptr n off) y = match aCells y with
      | some vs => match h n with
        | some cs => if vs.length = sz ∧ off + vs.length ≤ cs.length ∧ 0 < vs.length then some { v := .any, req := [(n, cs)], ups := [(n, some (spl cs off vs))] } else none
        | none => none
      | none => none
abbrev FaP (P : Program) (t f k : Nat) : Prop := ∀ (n off : Nat), opFieldAddr P t (.ptr n off) f = some (.ptr n (off + k))
abbrev FaI (P : Program) (t f k : Nat) : Prop := ∀ (cs : List AV) (off : Nat), opFieldAddr P t (.iptr cs off) f = some (.iptr cs (off + k))
abbrev Fd1 (P : Program) (t f o : Nat) : Prop := ∀ (cs : List AV), opField P t (.agg cs) f = cs[o]?
abbrev FdA (P : Program) (t f o sz : Nat) : Prop := ∀ (cs : List AV), opField P t (.agg cs) f = if o + sz ≤ cs.length then some (.agg ((cs.drop o).take sz)) else none
abbrev IxV (P : Program) (t sz : Nat) : Prop := ∀ (cs : List AV) (len : Nat) (cap : Option Nat) (kk : IntKind) (k : Int), opIndexAddr P t (.vsl cs len cap) (.int kk k) = if 0 ≤ k ∧ k < len then some (.iptr cs (k.toNat * sz)) else none
abbrev IxO (P : Program) (t sz : Nat) : Prop := ∀ (n off len : Nat) (cap : Option Nat) (z : Nat) (kk : IntKind) (k : Int), opIndexAddr P t (.osl n off len cap z) (.int kk k) = if 0 ≤ k ∧ k < len then some (.ptr n (off + k.toNat * sz)) else none
abbrev IxA (P : Program) (t m sz : Nat) : Prop := ∀ (n off : Nat) (kk : IntKind) (k : Int), opIndexAddr P t (.ptr n off) (.int kk k) = if 0 ≤ k ∧ k < m then some (.ptr n (off + k.toNat * sz)) else none
abbrev IxB (P : Program) (t m sz : Nat) : Prop := ∀ (cs : List AV) (off : Nat) (kk : IntKind) (k : Int), opIndexAddr P t (.iptr cs off) (.int kk k) = if 0 ≤ k ∧ k < m then some (.iptr cs (off + k.toNat * sz)) else none
abbrev InS (P : Program) (t : Nat) : Prop := ∀ (s : ByteArray) (kk : IntKind) (k : Int), opIndex P t (.str s) (.int kk k) = if 0 ≤ k then (s[k.toNat]?).map fun b => .int .u8 b.toNat else none
abbrev AlF (P : Program) (t : Nat) (cs : List AV) : Prop := ∀ (nx : Nat), opAlloc P nx t = some { v := .ptr nx 0, ups := [(nx, some cs)], made := 1 }
abbrev CvF (P : Program) (s t : Nat) (k : IntKind) : Prop := ∀ (kk : IntKind) (n : Int), opConv P s t (.int kk n) = some (.int k (k.wrap n))
abbrev SnF (P : Program) (t : Nat) : Prop := ∀ (x : AV), opBin P .eql t x .nilsl = slNil x
abbrev BeF (P : Program) (t : Nat) : Prop := ∀ (a b : Bool), opBin P .eql t (.bool a) (.bool b) = some (.bool (decide (a = b)))
abbrev BnF (P : Program) (t : Nat) : Prop := ∀ (a b : Bool), opBin P .neq t (.bool a) (.bool b) = some (.bool (!decide (a = b)))
abbrev BuF (P : Program) (t : Nat) (pl : List (Nat × Nat)) (zc : List AV) : Prop := ∀ (parts : List (Nat × AV)), opBuild P t parts = (aFill (fun i => pl[i]?) zc parts).map .agg
abbrev BsF (P : Program) (t n sz : Nat) (zc : List AV) : Prop := ∀ (nx : Nat) (parts : List (Nat × AV)), opBuildSlice P nx t n parts = (aFill (fun i => some (i * sz, sz)) (repL n zc) parts).map fun cs => { v := .osl nx 0 n (some n) sz, ups := [(nx, some cs)], made := 1 }
abbrev MkF (P : Program) (t sz : Nat) (zc : List AV) : Prop := ∀ (nx : Nat) (k : IntKind) (l : Int) (k' : IntKind) (c : Int), opMakeSlice P nx t (.int k l) (.int k' c) = if 0 ≤ l ∧ l ≤ c ∧ c ≤ 4294967296 then some { v := .osl nx 0 l.toNat (some c.toNat) sz, ups := [(nx, some (repL c.toNat zc))], made := 1 } else none
abbrev SlV (P : Program) (t sz : Nat) : Prop := ∀ (cs : List AV) (len : Nat) (cap : Option Nat) (lo hi mx : Option AV), opSlice P t (.vsl cs len cap) lo hi mx = match bdA lo 0, bdA hi len with
    | some l, some h => match mx with
      | none => if 0 ≤ l ∧ l ≤ h ∧ h ≤ len then some (.vsl ((cs.drop (l.toNat * sz)).take ((h.toNat - l.toNat) * sz)) (h.toNat - l.toNat) (cap.map (· - l.toNat))) else none
      | some (.int _ m) => if 0 ≤ l ∧ l ≤ h ∧ h ≤ m ∧ m ≤ len ∧ hi.isSome then some (.vsl ((cs.drop (l.toNat * sz)).take ((h.toNat - l.toNat) * sz)) (h.toNat - l.toNat) (some (m.toNat - l.toNat))) else none
      | some _ => none
    | _, _ => none
abbrev SlO (P : Program) (t sz : Nat) : Prop := ∀ (n off len : Nat) (cap : Option Nat) (lo hi mx : Option AV), opSlice P t (.osl n off len cap sz) lo hi mx = match bdA lo 0, bdA hi len with
    | some l, some h => match mx with
      | none => if 0 ≤ l ∧ l ≤ h ∧ h ≤ cap.getD len then some (.osl n (off + l.toNat * sz) (h.toNat - l.toNat) (cap.map (· - l.toNat)) sz) else none
      | some (.int _ m) => if 0 ≤ l ∧ l ≤ h ∧ h ≤ m ∧ m ≤ cap.getD len ∧ hi.isSome then some (.osl n (off + l.toNat * sz) (h.toNat - l.toNat) (some (m.toNat - l.toNat)) sz) else none
      | some _ => none
    | _, _ => none
abbrev SlS (P : Program) (t : Nat) : Prop := ∀ (s : ByteArray) (lo hi : Option AV), opSlice P t (.str s) lo hi none = match bdA lo 0, bdA hi s.size with
    | some l, some h => if 0 ≤ l ∧ l ≤ h ∧ h ≤ s.size then some (.str (s.extract l.toNat h.toNat)) else none
    | _, _ => none
abbrev LnV (P : Program) (t : Nat) : Prop := ∀ (cs : List AV) (len : Nat) (cap : Option Nat), opLen P t (.vsl cs len cap) = some (.int .i64 len)
abbrev LnO (P : Program) (t : Nat) : Prop := ∀ (n off len : Nat) (cap : Option Nat) (z : Nat), opLen P t (.osl n off len cap z) = some (.int .i64 len)
abbrev LnN (P : Program) (t : Nat) : Prop := opLen P t .nilsl = some (.int .i64 0)
abbrev LnS (P : Program) (t : Nat) : Prop := ∀ (s : ByteArray), opLen P t (.str s) = some (.int .i64 s.size)
abbrev ApF (P : Program) (t t2 sz : Nat) : Prop := ∀ (h : HF) (nx : Nat) (x y : AV), opAppend P h nx t t2 x y = match dstA h sz x, srcA h sz y with
      | some (len, old, req, kill), some (k, new, req2) => if len + k ≤ 4294967296 then some { v := .osl nx 0 (len + k) none sz, req := req ++ req2, ups := kill ++ [(nx, some (old ++ new))], made := 1 } else none
      | _, _ => none
attribute [simp] chk_U_nil awb_seq awb_reg awb_cond awb_block awb_loop seqK_normal seqK_exit seqK_ret blockK_normal blockK_exit blockK_ret retK_normal retK_ret awb_skip awb_ret awb_exit condK_bool condK_anyb rget_cons rget_nil oev_T oev_int oev_bool oev_str oev_nilsl oev_nilptr oev_nilfn oev_func oev_agg
  regV_some regL_some regK_eq regG_bool regG_tup chk_empty regC_nil regC_guard pushD_nil rput_some rput_none opPick_bool r_move r_assign r_pick r_build r_nilCheck r_binOp r_unOp r_convert r_makeFunc r_slice r_fieldAddr r_field r_indexAddr r_index r_extract r_len r_min r_max r_alloc r_box r_buildSlice r_load r_store r_makeSlice r_append r_call argRegs
  opBin_add opBin_sub opBin_mul opBin_quo opBin_rem opBin_eql opBin_neq opBin_lss opBin_leq opBin_gtr opBin_geq opBin_str opUn_not opUn_neg opExtract_tup opNil_ptr opNil_iptr opNil_fn hget_cons hget_nil hset_nil hset_cons hdel_nil hdel_cons hups_nil hups_some hups_none slNil_nilsl slNil_osl slNil_vsl
  opBox_eq aCells_agg aCells_int aCells_bool aCells_str aCells_vsl aCells_osl aCells_nilsl aCells_ptr aCells_iptr aCells_nilptr aCells_fn bdA_none bdA_some dstA_nilsl dstA_vslz dstA_osln dstA_osl0 srcA_vsl srcA_nilsl srcA_osl spl_one opMin_int opMax_int opStr_eql opStr_neq
end Go.Av
