/- Abstract values and their relation to the model's values: the base of the proofs of this claim. -/
import Derived.Orders
import Derived.Laws.AppendOwn
import Derived.Laws.CopyRow
namespace Go.Av
set_option linter.unusedVariables false
set_option linter.unusedSimpArgs false

/-- Abstract values. -/
inductive AV where
  | any
  | int (k : IntKind) (n : Int)
  | bool (b : Bool)
  | anyb
  | str (s : ByteArray)
  | nilsl | nilptr | nilfn | nilif
  | ptr (n off : Nat)
  | iptr (cs : List AV) (off : Nat)
  | osl (n off len : Nat) (cap : Option Nat) (sz : Nat)
  | vsl (cs : List AV) (len : Nat) (cap : Option Nat)
  | agg (cs : List AV)
  | tup (vs : List AV)
  | fn (f : FuncId) (cs : List AV)
  deriving Inhabited

structure Env where
  β : Nat → Option (Nat × Nat)
  I : Nat → Prop

/-- Abstract value and value. -/
inductive VR (e : Env) (w : World) : AV → Value → Prop
  | any (v : Value) : VR e w .any v
  | int (k : IntKind) (n : Int) : VR e w (.int k n) (.int k n)
  | bool (b : Bool) : VR e w (.bool b) (.bool b)
  | anyb (b : Bool) : VR e w .anyb (.bool b)
  | str (s : ByteArray) : VR e w (.str s) (.string s)
  | nilsl : VR e w .nilsl (.slice none 0 0)
  | nilptr : VR e w .nilptr (.pointer none)
  | nilfn : VR e w .nilfn .nilFunc
  | nilif : VR e w .nilif .nilIface
  | ptr {n off b s : Nat} (h : e.β n = some (b, s)) : VR e w (.ptr n off) (.pointer (some ⟨b, s + off, none⟩))
  | iptr {cs : List AV} {off b s : Nat} (vs : Nat → Value) (hI : e.I b)
      (hc : ∀ (j : Nat) (c : AV), cs[j]? = some c → w.cell? ⟨b, s + j, none⟩ = some (vs j) ∧ (vs j).oneCell' = true)
      (hv : ∀ (j : Nat) (c : AV), cs[j]? = some c → VR e w c (vs j)) :
      VR e w (.iptr cs off) (.pointer (some ⟨b, s + off, none⟩))
  | osl {n off len sz b s c : Nat} {cap : Option Nat} (h : e.β n = some (b, s)) (hlen : len ≤ c) (hcap : ∀ k, cap = some k → c = k)
      (room : ∃ cells el fr, w.heap[b]? = some (.cells cells el fr) ∧ s + off + c * sz ≤ cells.size) :
      VR e w (.osl n off len cap sz) (.slice (some ⟨b, s + off, none⟩) len c)
  | oslz {n off sz : Nat} {cap : Option Nat} (a : Option Addr) (hcap : ∀ k, cap = some k → k = 0) : VR e w (.osl n off 0 cap sz) (.slice a 0 0)
  | vsl {cs : List AV} {len b s c : Nat} {cap : Option Nat} (vs : Nat → Value) (hI : e.I b) (hlen : len ≤ c) (hcap : ∀ k, cap = some k → c = k)
      (hc : ∀ (j : Nat) (x : AV), cs[j]? = some x → w.cell? ⟨b, s + j, none⟩ = some (vs j) ∧ (vs j).oneCell' = true)
      (hv : ∀ (j : Nat) (x : AV), cs[j]? = some x → VR e w x (vs j)) :
      VR e w (.vsl cs len cap) (.slice (some ⟨b, s, none⟩) len c)
  | vslz {c : Nat} {cap : Option Nat} (a : Option Addr) (hcap : ∀ k, cap = some k → c = k) : VR e w (.vsl [] 0 cap) (.slice a 0 c)
  | agg {cs : List AV} {vs : Array Value} (hl : vs.size = cs.length) (h1 : ∀ (j : Nat) (v : Value), vs[j]? = some v → v.oneCell' = true)
      (hv : ∀ (j : Nat) (c : AV) (v : Value), cs[j]? = some c → vs[j]? = some v → VR e w c v) : VR e w (.agg cs) (.agg vs)
  | tup {cs : List AV} {vs : Array Value} (hl : vs.size = cs.length)
      (hv : ∀ (j : Nat) (c : AV) (v : Value), cs[j]? = some c → vs[j]? = some v → VR e w c v) : VR e w (.tup cs) (.tuple vs)
  | fn {f : FuncId} {cs : List AV} {vs : Array Value} (hl : vs.size = cs.length)
      (hv : ∀ (j : Nat) (c : AV) (v : Value), cs[j]? = some c → vs[j]? = some v → VR e w c v) : VR e w (.fn f cs) (.func (.func f) #[] vs)

/-- Later states in which nothing that an abstract value speaks of has changed. -/
structure Ext (e : Env) (w : World) (e' : Env) (w' : World) : Prop where
  β : ∀ n p, e.β n = some p → e'.β n = some p
  I : ∀ b, e.I b → e'.I b
  keep : ∀ b, e.I b → w'.heap[b]? = w.heap[b]?
  shape : ∀ (b : Nat) (cs : Array Value) (el : TypeId) (fr : Nat × Nat), w.heap[b]? = some (Obj.cells cs el fr) → ∃ cs' : Array Value, w'.heap[b]? = some (Obj.cells cs' el fr) ∧ cs'.size = cs.size

theorem cell_congr {w w' : World} {b o : Nat} (h : w'.heap[b]? = w.heap[b]?) : w'.cell? ⟨b, o, none⟩ = w.cell? ⟨b, o, none⟩ := by
  simp [World.cell?, h]

theorem VR.mono {e : Env} {w : World} {e' : Env} {w' : World} (h : Ext e w e' w') {a : AV} {v : Value} (hv : VR e w a v) : VR e' w' a v := by
  induction hv with
  | any v => exact .any v
  | int k n => exact .int k n
  | bool b => exact .bool b
  | anyb b => exact .anyb b
  | str s => exact .str s
  | nilsl => exact .nilsl
  | nilptr => exact .nilptr
  | nilfn => exact .nilfn
  | nilif => exact .nilif
  | ptr hb => exact .ptr (h.β _ _ hb)
  | iptr vs hI hc _ ih => exact .iptr vs (h.I _ hI) (fun j c hj => by rw [cell_congr (h.keep _ hI)]; exact hc j c hj) ih
  | osl hb hlen hcap room =>
    obtain ⟨cs, el, fr, hr, hs⟩ := room
    obtain ⟨cs', hr', hs'⟩ := h.shape _ _ _ _ hr
    exact .osl (h.β _ _ hb) hlen hcap ⟨cs', el, fr, hr', by omega⟩
  | oslz a hcap => exact .oslz a hcap
  | vsl vs hI hlen hcap hc _ ih => exact .vsl vs (h.I _ hI) hlen hcap (fun j c hj => by rw [cell_congr (h.keep _ hI)]; exact hc j c hj) ih
  | vslz a hcap => exact .vslz a hcap
  | agg hl h1 _ ih => exact .agg hl h1 ih
  | tup hl _ ih => exact .tup hl ih
  | fn hl _ ih => exact .fn hl ih

theorem Ext.refl (e : Env) (w : World) : Ext e w e w := ⟨fun _ _ h => h, fun _ h => h, fun _ _ => rfl, fun _ cs el fr h => ⟨cs, h, rfl⟩⟩

abbrev Blk := List AV
abbrev HF := Nat → Option Blk

/-- A block of the abstract heap and the block of memory that it stands for. -/
def BR (e : Env) (w : World) (n : Nat) (cs : Blk) : Prop :=
  (e.β n = none ∧ cs = []) ∨
  ∃ b s cells el, e.β n = some (b, s) ∧ ¬ e.I b ∧ w.heap[b]? = some (.cells cells el (0, 0)) ∧
    ∀ j a, cs[j]? = some a → ∃ v, cells[s + j]? = some v ∧ v.oneCell' = true ∧ VR e w a v

def Owns (e : Env) (h : HF) (b : Nat) : Prop := ∃ n s, h n ≠ none ∧ e.β n = some (b, s)

structure HR (e : Env) (w : World) (h : HF) : Prop where
  blk : ∀ n cs, h n = some cs → BR e w n cs
  inj : ∀ n m b s t, h n ≠ none → h m ≠ none → e.β n = some (b, s) → e.β m = some (b, t) → n = m
  Ib : ∀ b, e.I b → b < w.heap.size

/-- What no action turns. -/
structure Still (w w' : World) : Prop where
  os : w'.os = w.os
  output : w'.output = w.output
  frozen : ∀ a, w'.frozen? a = w.frozen? a

theorem Still.refl (w : World) : Still w w := ⟨rfl, rfl, fun _ => rfl⟩
theorem Still.trans {a b c : World} (h : Still a b) (k : Still b c) : Still a c := ⟨k.os.trans h.os, k.output.trans h.output, fun x => (k.frozen x).trans (h.frozen x)⟩

/-- What an action that owned `h` may have done. -/
structure Step (e : Env) (w : World) (h : HF) (e' : Env) (w' : World) (h' : HF) (R : Nat) : Prop where
  size : w.heap.size ≤ w'.heap.size
  keep : ∀ b, b < w.heap.size → ¬ Owns e h b → w'.heap[b]? = w.heap[b]?
  shape : ∀ (b : Nat) (cs : Array Value) (el : TypeId) (fr : Nat × Nat), w.heap[b]? = some (Obj.cells cs el fr) → ∃ cs' : Array Value, w'.heap[b]? = some (Obj.cells cs' el fr) ∧ cs'.size = cs.size
  β : ∀ n, n < R → e'.β n = e.β n
  I : ∀ b, e.I b → e'.I b
  Inew : ∀ b, e'.I b → e.I b ∨ Owns e h b ∨ w.heap.size ≤ b
  own : ∀ b, Owns e' h' b → Owns e h b ∨ w.heap.size ≤ b
  still : Still w w'

theorem HR.notI {e : Env} {w : World} {h : HF} (H : HR e w h) {b : Nat} (ho : Owns e h b) : ¬ e.I b := by
  obtain ⟨n, s, hn, hb⟩ := ho
  cases hc : h n with
  | none => exact absurd hc hn
  | some cs =>
    rcases H.blk n cs hc with ⟨h0, _⟩ | ⟨b', s', _, _, h1, h2, _⟩
    · rw [hb] at h0; cases h0
    · rw [hb] at h1; cases h1; exact h2

theorem HR.lt {e : Env} {w : World} {h : HF} (H : HR e w h) {b : Nat} (ho : Owns e h b) : b < w.heap.size := by
  obtain ⟨n, s, hn, hb⟩ := ho
  cases hc : h n with
  | none => exact absurd hc hn
  | some cs =>
    rcases H.blk n cs hc with ⟨h0, _⟩ | ⟨b', s', cells, _, h1, _, h3, _⟩
    · rw [hb] at h0; cases h0
    · rw [hb] at h1; cases h1; exact (Array.getElem?_eq_some_iff.1 h3).1

theorem Step.refl (e : Env) (w : World) (h : HF) (R : Nat) : Step e w h e w h R :=
  ⟨Nat.le_refl _, fun _ _ _ => rfl, fun _ cs el fr hc => ⟨cs, hc, rfl⟩, fun _ _ => rfl, fun _ hI => hI, fun _ hI => .inl hI, fun _ ho => .inl ho, Still.refl w⟩

theorem Step.trans {e e1 e2 : Env} {w w1 w2 : World} {h h1 h2 : HF} {R : Nat} (a : Step e w h e1 w1 h1 R) (b : Step e1 w1 h1 e2 w2 h2 R) :
    Step e w h e2 w2 h2 R where
  size := Nat.le_trans a.size b.size
  keep := fun x hx ho => by
    rw [b.keep x (Nat.lt_of_lt_of_le hx a.size) (fun ho1 => by rcases a.own x ho1 with h' | h'; exact ho h'; omega)]
    exact a.keep x hx ho
  shape := fun x cs el fr hc => by
    obtain ⟨cs1, hc1, e1⟩ := a.shape x cs el fr hc
    obtain ⟨cs2, hc2, e2⟩ := b.shape x cs1 el fr hc1
    exact ⟨cs2, hc2, by omega⟩
  β := fun n hn => (b.β n hn).trans (a.β n hn)
  I := fun x hx => b.I x (a.I x hx)
  Inew := fun x hx => by
    rcases b.Inew x hx with h' | h' | h'
    · exact a.Inew x h'
    · rcases a.own x h' with h'' | h''
      · exact .inr (.inl h'')
      · exact .inr (.inr h'')
    · exact .inr (.inr (Nat.le_trans a.size h'))
  own := fun x hx => by
    rcases b.own x hx with h' | h'
    · exact a.own x h'
    · exact .inr (Nat.le_trans a.size h')
  still := a.still.trans b.still

/-- The related values stay related over a step that binds no name anew. -/
theorem Step.ext {e : Env} {w : World} {h : HF} {e' : Env} {w' : World} {h' : HF} {R : Nat} (a : Step e w h e' w' h' R) (H : HR e w h)
    (hβ : ∀ n p, e.β n = some p → e'.β n = some p) : Ext e w e' w' where
  β := hβ
  I := a.I
  keep := fun b hb => a.keep b (H.Ib b hb) (fun ho => H.notI ho hb)
  shape := a.shape

/-- Updates of heaps. -/
def upd (h : HF) (n : Nat) (b : Option Blk) : HF := fun m => if m = n then b else h m
def updL (h : HF) : List (Nat × Option Blk) → HF
  | [] => h
  | (n, b) :: l => updL (upd h n b) l

@[simp] theorem upd_same (h : HF) (n : Nat) (b : Option Blk) : upd h n b n = b := by simp [upd]
theorem upd_other (h : HF) {n m : Nat} (b : Option Blk) (hne : m ≠ n) : upd h n b m = h m := by simp [upd, hne]

end Go.Av
