/- Lending: own blocks handed by value to a function that only reads them; results that are known. -/
import Derived.Test.YtojbfpfkkcdlhaaGreatAv18
namespace Go.Av
set_option linter.unusedVariables false
set_option linter.unusedSimpArgs false

mutual
/-- A value that speaks of no memory. -/
def AV.flat : AV → Bool
  | .int _ _ | .bool _ | .str _ | .anyb | .nilsl | .nilptr | .nilfn | .nilif | .any => true
  | .tup cs => flatL cs
  | .agg cs => flatL cs
  | _ => false
def flatL : List AV → Bool
  | [] => true
  | a :: l => a.flat && flatL l
end

theorem flatL_get {l : List AV} (h : flatL l = true) {j : Nat} {a : AV} (hj : l[j]? = some a) : a.flat = true := by
  induction l generalizing j with
  | nil => simp at hj
  | cons x l ih =>
    simp only [flatL, Bool.and_eq_true] at h
    cases j with
    | zero => simp at hj; subst hj; exact h.1
    | succ j => simp at hj; exact ih h.2 hj

/-- Such a value holds anywhere. -/
theorem VR.flat {e : Env} {w : World} {a : AV} {v : Value} (hv : VR e w a v) : a.flat = true → ∀ (e' : Env) (w' : World), VR e' w' a v := by
  induction hv with
  | any v => intro _ e' w'; exact .any v
  | int k n => intro _ e' w'; exact .int k n
  | bool b => intro _ e' w'; exact .bool b
  | anyb b => intro _ e' w'; exact .anyb b
  | str s => intro _ e' w'; exact .str s
  | nilsl => intro _ e' w'; exact .nilsl
  | nilptr => intro _ e' w'; exact .nilptr
  | nilfn => intro _ e' w'; exact .nilfn
  | nilif => intro _ e' w'; exact .nilif
  | agg hl h1 _ ih => intro hf e' w'; exact .agg hl h1 (fun j c v hj hv => ih j c v hj hv (flatL_get hf hj) e' w')
  | tup hl _ ih => intro hf e' w'; exact .tup hl (fun j c v hj hv => ih j c v hj hv (flatL_get hf hj) e' w')
  | _ => intro hf; cases hf

theorem nm_of_flat {S : Nat → Prop} : ∀ (a : AV), a.flat = true → a.nm S := by
  intro a
  induction a using AV.rec (motive_2 := fun l => flatL l = true → nmL S l) with
  | any => intro _; trivial
  | int k n => intro _; trivial
  | bool b => intro _; trivial
  | anyb => intro _; trivial
  | str s => intro _; trivial
  | nilsl => intro _; trivial
  | nilptr => intro _; trivial
  | nilfn => intro _; trivial
  | nilif => intro _; trivial
  | agg cs ih => intro h; exact ih h
  | tup cs ih => intro h; exact ih h
  | nil => trivial
  | cons a l ia il => rename_i h; simp only [flatL, Bool.and_eq_true] at h; exact ⟨ia h.1, il h.2⟩
  | _ => intro h; cases h

/-- The values by value: all blocks frozen. -/
def FrzAll (pre : Heap) (args args' : List AV) : Prop := SubL (hget pre) (fun _ => none) (fun n => hget pre n ≠ none) args args'

/-- Own blocks may be lent. -/
theorem Spec.lend {P : Program} {R made : Nat} {f : FuncId} {args args' : List AV} {pre : Heap} {r : AV} (h : Spec P R made f args' [] r []) (hz : FrzAll pre args args') (hpre : ∀ p ∈ pre, p.1 < R) (hr : r.flat = true) :
    Spec P R made f args pre r pre := by
  obtain ⟨h1, _, h3⟩ := h
  obtain ⟨hlen, hsub⟩ := SubL.spec hz
  refine ⟨h1, fun p hp => by have := hpre p hp; omega, fun e w vs hl hv H hβ => ?_⟩
  have V := vs_sub (R := R) (nx := R) (ρ := fun t => (args[t]?).getD .any) (ρ' := fun t => (args'[t]?).getD .any) (h := hget pre) (h' := hget []) (S' := fun _ => False) (fun _ => none) (fun n => hget pre n ≠ none)
    (fun _ _ h => by cases h) (fun _ _ _ h => by cases h) (fun _ _ => rfl) (fun t => by
      by_cases ht : t < args.length
      · have g1 : args[t]? = some args[t] := List.getElem?_eq_getElem ht
        have g2 : args'[t]? = some (args'[t]'(by omega)) := List.getElem?_eq_getElem (by omega)
        rw [g1, g2]; exact hsub t _ _ g1 g2
      · rw [List.getElem?_eq_none (by omega), List.getElem?_eq_none (by omega)]; exact .any _)
    (fun m b' hb => by simp [hget] at hb)
  obtain ⟨e1, q1, q2, q3, q4⟩ := V e w (fun t => (vs[t]?).getD undef) (fun t => by
    by_cases ht : t < args.length
    · have g1 : args[t]? = some args[t] := List.getElem?_eq_getElem ht
      have g2 : vs[t]? = some (vs[t]'(by omega)) := Array.getElem?_eq_getElem (by omega)
      simp only [g1, g2, Option.getD_some]
      exact hv t _ _ g1 g2
    · have g1 : args[t]? = none := List.getElem?_eq_none (by omega)
      simp only [g1, Option.getD_none]; exact .any _) H hβ
  have own0 : ∀ (e : Env) b, ¬ Owns e (hget []) b := fun e b ho => by obtain ⟨n, s, hn, _⟩ := ho; exact hn rfl
  refine Calls.mono (h3 e1 w vs (by omega) (fun j a v hj hjv => ?_) q2 (fun n hn => q4 n hn id)) ?_
  · have := q1 j
    simp only [hj, hjv, Option.getD_some] at this
    exact this
  · rintro en w' ⟨v, e2, he, r1, r2, r3, r4⟩
    have same : ∀ b, b < w.heap.size → w'.heap[b]? = w.heap[b]? := fun b hb => r3.keep b hb (own0 _ b)
    have hI : ∀ b, e.I b → e2.I b ∧ ¬ Owns e (hget pre) b := fun b hb => ⟨r3.I b (q3.I b hb), fun ho => H.notI ho hb⟩
    have ext : Ext e w { β := e.β, I := fun b => e2.I b ∧ ¬ Owns e (hget pre) b } w' := ⟨fun _ _ h => h, fun b hb => hI b hb, fun b hb => same b (H.Ib b hb), r3.shape⟩
    refine ⟨v, { β := e.β, I := fun b => e2.I b ∧ ¬ Owns e (hget pre) b }, he, r1.flat hr _ _, ⟨fun n cs hn => ?_, fun n m b s t hn hm h1 h2 => H.inj n m b s t hn hm h1 h2, fun b hb => r2.Ib b hb.1⟩, ⟨r3.size, fun b hb _ => same b hb, r3.shape, fun _ _ => rfl, fun b hb => hI b hb, fun b hb => ?_, fun b ho => ?_, r3.still⟩, fun n hn _ => hβ n hn⟩
    · rcases H.blk n cs hn with ⟨h0, hc⟩ | ⟨b, s, cells, el, k1, k2, k3, k4⟩
      · exact .inl ⟨h0, hc⟩
      · have ow : Owns e (hget pre) b := ⟨n, s, by rw [hn]; simp, k1⟩
        refine .inr ⟨b, s, cells, el, k1, fun hh => hh.2 ow, by rw [same b (H.lt ow)]; exact k3, fun j a hj => ?_⟩
        obtain ⟨u, l1, l2, l3⟩ := k4 j a hj
        exact ⟨u, l1, l2, l3.mono ext⟩
    · rcases r3.Inew b hb.1 with h | h | h
      · rcases q3.Inew b h with h | h | h
        · exact .inl h
        · exact .inr (.inl h)
        · exact .inr (.inr h)
      · exact absurd h (own0 _ b)
      · exact .inr (.inr h)
    · obtain ⟨n, s, hn, hb⟩ := ho; exact .inl ⟨n, s, hn, hb⟩

/-! freezing, computed -/
def mapO (f : AV → Option AV) : List AV → Option (List AV)
  | [] => some []
  | a :: l => match f a, mapO f l with
    | some b, some m => some (b :: m)
    | _, _ => none

theorem mapO_spec {f : AV → Option AV} : ∀ {l m : List AV}, mapO f l = some m → m.length = l.length ∧ ∀ (j : Nat) (a b : AV), l[j]? = some a → m[j]? = some b → f a = some b
  | [], m, h => by cases h; exact ⟨rfl, by simp⟩
  | x :: l, m, h => by
    simp only [mapO] at h
    split at h
    case h_2 => cases h
    rename_i b m' h1 h2
    cases h
    obtain ⟨i1, i2⟩ := mapO_spec h2
    refine ⟨by simp [i1], fun j a c ha hc => ?_⟩
    cases j with
    | zero => simp at ha hc; subst ha hc; exact h1
    | succ j => simp at ha hc; exact i2 j a c ha hc

def frz (H : Heap) : Nat → AV → Option AV
  | 0, _ => none
  | k + 1, a => match a with
    | .osl n off len cap sz => match hget H n with
      | some cs => if off + len * sz ≤ cs.length then (mapO (frz H k) ((cs.drop off).take (len * sz))).map fun c => .vsl c len cap else none
      | none => none
    | .ptr n off => match hget H n with
      | some cs => (mapO (frz H k) cs).map fun c => .iptr c off
      | none => none
    | .vsl cs len cap => (mapO (frz H k) cs).map fun c => .vsl c len cap
    | .iptr cs off => (mapO (frz H k) cs).map fun c => .iptr c off
    | .agg cs => (mapO (frz H k) cs).map .agg
    | .tup cs => (mapO (frz H k) cs).map .tup
    | .fn f cs => (mapO (frz H k) cs).map (.fn f)
    | a => some a

theorem frz_sub {H : Heap} : ∀ (k : Nat) (a b : AV), frz H k a = some b → Sub (hget H) (fun _ => none) (fun n => hget H n ≠ none) a b := by
  intro k
  induction k with
  | zero => intro a b h; cases h
  | succ k ih =>
    intro a b h
    cases a <;> simp only [frz] at h
    case osl n off len cap sz =>
      split at h
      case h_2 => cases h
      rename_i cs hn
      split at h
      case isFalse => cases h
      rename_i hle
      rw [Option.map_eq_some_iff] at h
      obtain ⟨c, hc, rfl⟩ := h
      obtain ⟨i1, i2⟩ := mapO_spec hc
      refine .oslf (by rw [hn]; simp) hn hle (by rw [i1]; simp; omega) (.inl rfl) (fun j x y hx hy => ih x y (i2 j x y ?_ hy))
      have hj := (List.getElem?_eq_some_iff.1 hy).1
      rw [i1] at hj
      rw [List.length_take] at hj
      rw [List.getElem?_take, if_pos (by omega), List.getElem?_drop]
      exact hx
    case ptr n off =>
      split at h
      case h_2 => cases h
      rename_i cs hn
      rw [Option.map_eq_some_iff] at h
      obtain ⟨c, hc, rfl⟩ := h
      obtain ⟨i1, i2⟩ := mapO_spec hc
      exact .ptrf (by rw [hn]; simp) hn i1 (fun j x y hx hy => ih x y (i2 j x y hx hy))
    case vsl cs len cap =>
      rw [Option.map_eq_some_iff] at h
      obtain ⟨c, hc, rfl⟩ := h
      obtain ⟨i1, i2⟩ := mapO_spec hc
      exact .vsl i1 (.inl rfl) (fun j x y hx hy => ih x y (i2 j x y hx hy))
    case iptr cs off =>
      rw [Option.map_eq_some_iff] at h
      obtain ⟨c, hc, rfl⟩ := h
      obtain ⟨i1, i2⟩ := mapO_spec hc
      exact .iptr i1 (fun j x y hx hy => ih x y (i2 j x y hx hy))
    case agg cs =>
      rw [Option.map_eq_some_iff] at h
      obtain ⟨c, hc, rfl⟩ := h
      obtain ⟨i1, i2⟩ := mapO_spec hc
      exact .agg i1 (fun j x y hx hy => ih x y (i2 j x y hx hy))
    case tup cs =>
      rw [Option.map_eq_some_iff] at h
      obtain ⟨c, hc, rfl⟩ := h
      obtain ⟨i1, i2⟩ := mapO_spec hc
      exact .tup i1 (fun j x y hx hy => ih x y (i2 j x y hx hy))
    case fn f cs =>
      rw [Option.map_eq_some_iff] at h
      obtain ⟨c, hc, rfl⟩ := h
      obtain ⟨i1, i2⟩ := mapO_spec hc
      exact .fn i1 (fun j x y hx hy => ih x y (i2 j x y hx hy))
    all_goals (cases h; exact .refl _ trivial)

theorem SubL.of {h : HF} {σ : Nat → Option Nat} {F : Nat → Prop} : ∀ {l m : List AV}, m.length = l.length → (∀ (j : Nat) (a b : AV), l[j]? = some a → m[j]? = some b → Sub h σ F a b) → SubL h σ F l m
  | [], [], _, _ => trivial
  | [], _ :: _, h, _ => by simp at h
  | _ :: _, [], h, _ => by simp at h
  | x :: l, y :: m, h, hj => ⟨hj 0 x y rfl rfl, SubL.of (by simpa using h) (fun j a b ha hb => hj (j + 1) a b ha hb)⟩

theorem frzL_all {pre : Heap} {k : Nat} {args args' : List AV} (h : mapO (frz pre k) args = some args') : FrzAll pre args args' := by
  obtain ⟨h1, h2⟩ := mapO_spec h
  exact SubL.of h1 (fun j a b ha hb => frz_sub k a b (h2 j a b ha hb))

/-! equality of values, computed -/
def eqO : Option Nat → Option Nat → Bool
  | none, none => true
  | some a, some b => Nat.beq a b
  | _, _ => false
def eqBytes (a b : ByteArray) : Bool := decide (a.data.toList = b.data.toList)

mutual
def AV.eqv : AV → AV → Bool
  | .any, .any | .anyb, .anyb | .nilsl, .nilsl | .nilptr, .nilptr | .nilfn, .nilfn | .nilif, .nilif => true
  | .int k a, .int k' b => decide (k = k') && decide (a = b)
  | .bool a, .bool b => a == b
  | .str a, .str b => eqBytes a b
  | .vsl cs len cap, .vsl cs' len' cap' => Nat.beq len len' && eqO cap cap' && eqvL cs cs'
  | .iptr cs off, .iptr cs' off' => Nat.beq off off' && eqvL cs cs'
  | .agg cs, .agg cs' => eqvL cs cs'
  | .tup cs, .tup cs' => eqvL cs cs'
  | .fn f cs, .fn f' cs' => Nat.beq f f' && eqvL cs cs'
  | _, _ => false
def eqvL : List AV → List AV → Bool
  | [], [] => true
  | a :: l, b :: m => a.eqv b && eqvL l m
  | _, _ => false
end

theorem eqO_ok : ∀ {a b : Option Nat}, eqO a b = true → a = b
  | none, none, _ => rfl
  | some a, some b, h => by simp [eqO, Nat.beq_eq] at h; rw [h]
  | none, some _, h => by cases h
  | some _, none, h => by cases h

theorem eqBytes_ok {a b : ByteArray} (h : eqBytes a b = true) : a = b := by
  have := of_decide_eq_true h
  exact ByteArray.ext (Array.ext' this)

theorem eqv_ok : ∀ (a b : AV), a.eqv b = true → a = b := by
  intro a
  induction a using AV.rec (motive_2 := fun l => ∀ m, eqvL l m = true → l = m) with
  | nil => rename_i m h; cases m <;> simp [eqvL] at h ⊢
  | cons a l ia il =>
    rename_i m h
    cases m with
    | nil => simp [eqvL] at h
    | cons b m =>
      simp only [eqvL, Bool.and_eq_true] at h
      rw [ia b h.1, il m h.2]
  | _ =>
    intro b h
    cases b <;> simp [AV.eqv, Nat.beq_eq] at h ⊢ <;> first
      | exact h
      | exact eqBytes_ok h
      | (rename_i ih _ ; exact ih _ h)
      | (rename_i ih _ _; exact ⟨h.1, ih _ h.2⟩)
      | (rename_i ih _ _; exact ⟨ih _ h.2, h.1⟩)
      | (rename_i ih _ _ _; exact ⟨ih _ h.2, h.1.1, eqO_ok h.1.2⟩)

/-- What is known of calls: function, values, result. -/
structure Memo where
  f : Nat
  args : List AV
  r : AV

def MemoOK (P : Program) (m : Memo) : Prop := (∃ made, Spec P 0 made m.f m.args [] m.r []) ∧ nmL (fun _ => False) m.args ∧ m.r.flat = true

def memoFind (args' : List AV) : List Memo → Option AV
  | [] => none
  | m :: l => if eqvL m.args args' then some m.r else memoFind args' l

def memo (ms : List Memo) : CallF := fun f args pre nx =>
  match ms.filter fun m => Nat.beq m.f f with
  | [] => none
  | ms' => match mapO (frz pre 20) args with
    | some args' => match memoFind args' ms' with
      | some r => if pre.all (fun p => Nat.blt p.1 nx) then some ⟨r, pre, 0⟩ else none
      | none => none
    | none => none

theorem eqvL_ok : ∀ {l m : List AV}, eqvL l m = true → l = m
  | [], [], _ => rfl
  | [], _ :: _, h => by simp [eqvL] at h
  | _ :: _, [], h => by simp [eqvL] at h
  | a :: l, b :: m, h => by
    simp only [eqvL, Bool.and_eq_true] at h
    rw [eqv_ok a b h.1, eqvL_ok h.2]

theorem memoFind_mem {args' : List AV} {r : AV} : ∀ {ms : List Memo}, memoFind args' ms = some r → ∃ m ∈ ms, m.args = args' ∧ m.r = r
  | [], h => by cases h
  | m :: l, h => by
    simp only [memoFind] at h
    split at h
    · rename_i he; cases h; exact ⟨m, by simp, eqvL_ok he, rfl⟩
    · obtain ⟨m', h1, h2⟩ := memoFind_mem h; exact ⟨m', by simp [h1], h2⟩

theorem memo_ok {P : Program} {ms : List Memo} (h : ∀ m ∈ ms, MemoOK P m) : CallOK P (memo ms) := by
  intro f args pre nx c hc
  unfold memo at hc
  split at hc
  · cases hc
  · split at hc
    case h_2 => cases hc
    rename_i args' hz
    split at hc
    case h_2 => cases hc
    rename_i r hr
    split at hc
    case isFalse => cases hc
    rename_i hall
    cases hc
    obtain ⟨m, hm, rfl, rfl⟩ := memoFind_mem hr
    rw [List.mem_filter] at hm
    have hf : m.f = f := Nat.eq_of_beq_eq_true hm.2
    subst hf
    obtain ⟨⟨made, hs⟩, h2, h3⟩ := h m hm.1
    refine Spec.lend (hs.any h2 (nm_of_flat _ h3)) (frzL_all hz) (fun p hp => ?_) h3
    have := List.all_eq_true.1 hall p hp
    simpa [Nat.blt_eq] using this

/-! the table as a list -/
def lookT (l : List (Nat × FE)) (f : Nat) : Option FE := match l with
  | [] => none
  | (a, b) :: l => if Nat.beq a f then some b else lookT l f

def EntryOK (P : Program) (p : Nat × FE) : Prop := ∃ fn : Func, P.funcs[p.1]? = some fn ∧ fn.body.bind (compile fn.ntmps) = some p.2.b ∧ fn.ntmps = p.2.nt ∧ fn.results = p.2.rv ∧
  ∀ vs w, (callFunc p.1 vs).run P w = .ok (.enter p.1 vs) w

theorem lookT_mem {f : Nat} {fe : FE} : ∀ {l : List (Nat × FE)}, lookT l f = some fe → (f, fe) ∈ l
  | [], h => by cases h
  | (a, b) :: l, h => by
    simp only [lookT] at h
    split at h
    · rename_i he; cases h; rw [Nat.eq_of_beq_eq_true he]; simp
    · exact List.mem_cons_of_mem _ (lookT_mem h)

theorem tab_ok {P : Program} {l : List (Nat × FE)} (h : ∀ p ∈ l, EntryOK P p) : TabOK P (lookT l) := fun f fe hf => h (f, fe) (lookT_mem hf)

/-- A run that ends with this flat value and with nothing left. -/
def ends (r : AV) : Option CallR → Bool
  | some c => c.r.eqv r && c.post.isEmpty
  | none => false

theorem spec_of_run {P : Program} (hm : P.follows .mixedOrders = true) {l : List (Nat × FE)} (hl : ∀ p ∈ l, EntryOK P p) {ms : List Memo} (hms : ∀ m ∈ ms, MemoOK P m) {fuel d f : Nat} {args : List AV} {r : AV}
    (h : ends r (runE P (lookT l) (memo ms) fuel d f args [] 0) = true) : ∃ made, Spec P 0 made f args [] r [] := by
  unfold ends at h
  split at h
  · rename_i c hc
    rw [Bool.and_eq_true] at h
    have := runE_ok hm (tab_ok hl) (memo_ok hms) fuel d f args [] 0 c hc
    rw [eqv_ok _ _ h.1, List.isEmpty_iff.1 h.2] at this
    exact ⟨c.made, this⟩
  · cases h
end Go.Av
