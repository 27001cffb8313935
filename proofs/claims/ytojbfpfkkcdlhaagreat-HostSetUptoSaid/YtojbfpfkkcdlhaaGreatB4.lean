/- The plain functions that the program and the reference compute: names, type graphs, graphs, hosts. -/
import Derived.Test.YtojbfpfkkcdlhaaGreatAv22
import Derived.Test.YtojbfpfkkcdlhaaGreatAv21
import Derived.Test.YtojbfpfkkcdlhaaGreatTy1
import Derived.Test.YtojbfpfkkcdlhaaGreatCs0
import Derived.Test.YtojbfpfkkcdlhaaGreatCs1
import Derived.Test.YtojbfpfkkcdlhaaGreatCs2
import Derived.Test.YtojbfpfkkcdlhaaGreatAw30
namespace Go.Av
set_option linter.unusedVariables false
set_option linter.unusedSimpArgs false

/-- The first of a range. -/
def firstE {α : Type} (n : Nat) (f : Nat → Option α) : Option α := (List.range n).findSome? f

theorem firstE_none {α : Type} {n : Nat} {f : Nat → Option α} (h : ∀ j, j < n → f j = none) : firstE n f = none := by
  simp only [firstE, List.findSome?_eq_none_iff, List.mem_range]
  exact h

theorem firstE_some {α : Type} {n : Nat} {f : Nat → Option α} {k : Nat} {x : α} (hk : k < n) (h : ∀ j, j < k → f j = none) (hx : f k = some x) : firstE n f = some x := by
  obtain ⟨m, rfl⟩ : ∃ m, n = k + (m + 1) := ⟨n - k - 1, by omega⟩
  have h1 : (List.range k).findSome? f = none := by
    simp only [List.findSome?_eq_none_iff, List.mem_range]; exact h
  simp only [firstE, List.range_add, List.findSome?_append, h1, Option.none_or, List.range_succ_eq_map, List.map_cons, List.findSome?_cons, Nat.add_zero, hx]

theorem firstE_congr {α : Type} {n : Nat} {f g : Nat → Option α} (h : ∀ j, j < n → f j = g j) : firstE n f = firstE n g := by
  simp only [firstE]
  have : ∀ l : List Nat, (∀ x ∈ l, x < n) → l.findSome? f = l.findSome? g := by
    intro l
    induction l with
    | nil => simp
    | cons a l ih => intro hl; simp only [List.findSome?_cons, h a (hl a (by simp)), ih (fun x hx => hl x (by simp [hx]))]
  exact this _ (fun x hx => by simpa using hx)

/-- Bytes. -/
def letterN (c : Int) : Bool := (decide (97 ≤ c) && decide (c ≤ 122)) || (decide (65 ≤ c) && decide (c ≤ 90))
def digitN (c : Int) : Bool := decide (48 ≤ c) && decide (c ≤ 57)
def partN (c : Int) : Bool := letterN c || digitN c || decide (c = 95)

theorem bget (s : ByteArray) (k : Nat) (h : k < s.size) : s[k]? = some s[k] := getElem?_pos s k h

/-- Where the bytes that a predicate accepts end, from a place on. -/
def runFrom (p : Int → Bool) (s : ByteArray) (k : Nat) : Nat :=
  if h : k < s.size then if p s[k].toNat then runFrom p s (k + 1) else k else k
termination_by s.size - k

theorem runFrom_step {p : Int → Bool} {s : ByteArray} {k : Nat} (h : k < s.size) (hp : p s[k].toNat = true) : runFrom p s k = runFrom p s (k + 1) := by
  rw [runFrom]; simp [h, hp]
theorem runFrom_stop {p : Int → Bool} {s : ByteArray} {k : Nat} (h : k < s.size) (hp : p s[k].toNat = false) : runFrom p s k = k := by
  rw [runFrom]; simp [h, hp]
theorem runFrom_end {p : Int → Bool} {s : ByteArray} {k : Nat} (h : ¬ k < s.size) : runFrom p s k = k := by
  rw [runFrom]; simp [h]
theorem runFrom_le (p : Int → Bool) (s : ByteArray) (k : Nat) (hk : k ≤ s.size) : k ≤ runFrom p s k ∧ runFrom p s k ≤ s.size := by
  fun_induction runFrom p s k with
  | case1 k h hp ih => have := ih h; omega
  | case2 k h hp => omega
  | case3 k h => omega

/-- A name. -/
def isName (s : ByteArray) : Bool :=
  if h : 0 < s.size then letterN s[0].toNat && decide (runFrom partN s 0 = s.size) && decide (s.size ≤ 20) else false

/-- Attributes, types of nodes and of edges, type graphs. -/
structure AttrT where
  name : ByteArray
  low : Int
  high : Int
  names : List ByteArray
  deriving Inhabited
structure NodeT where
  name : ByteArray
  parent : Int
  abs : Bool
  attrs : List AttrT
  deriving Inhabited
structure EdgeT where
  name : ByteArray
  fr : Int
  to : Int
  ol : Int
  oh : Int
  il : Int
  ih : Int
  deriving Inhabited
structure TypesT where
  nodes : List NodeT
  edges : List EdgeT
  deriving Inhabited

def encStrs (l : List ByteArray) : AV := .vsl (l.map .str) l.length none
def attrC (a : AttrT) : List AV := [.str a.name, .int .i64 a.low, .int .i64 a.high, encStrs a.names]
def attrCs (l : List AttrT) : List AV := l.flatMap attrC
def encAttrs (l : List AttrT) : AV := .vsl (attrCs l) l.length none
def nodeTC (n : NodeT) : List AV := [.str n.name, .int .i64 n.parent, .bool n.abs, encAttrs n.attrs]
def nodeTCs (l : List NodeT) : List AV := l.flatMap nodeTC
def encNodes (l : List NodeT) : AV := .vsl (nodeTCs l) l.length none
def edgeTC (e : EdgeT) : List AV := [.str e.name, .int .i64 e.fr, .int .i64 e.to, .int .i64 e.ol, .int .i64 e.oh, .int .i64 e.il, .int .i64 e.ih]
def edgeTCs (l : List EdgeT) : List AV := l.flatMap edgeTC
def encETypes (l : List EdgeT) : AV := .vsl (edgeTCs l) l.length none
def typesC (t : TypesT) : List AV := [encNodes t.nodes, encETypes t.edges]

theorem attrC_len (a : AttrT) : (attrC a).length = 4 := rfl
theorem nodeTC_len (a : NodeT) : (nodeTC a).length = 4 := rfl
theorem edgeTC_len (a : EdgeT) : (edgeTC a).length = 7 := rfl
theorem typesC_len (t : TypesT) : (typesC t).length = 2 := rfl
theorem typesC_take (t : TypesT) : (typesC t).take 2 = typesC t := rfl
@[simp] theorem attrCs_len (l : List AttrT) : (attrCs l).length = l.length * 4 := flat_len attrC_len l
@[simp] theorem nodeTCs_len (l : List NodeT) : (nodeTCs l).length = l.length * 4 := flat_len nodeTC_len l
@[simp] theorem edgeTCs_len (l : List EdgeT) : (edgeTCs l).length = l.length * 7 := flat_len edgeTC_len l
theorem attrCs_at (l : List AttrT) (k : Nat) (h : k < l.length) : ((attrCs l).drop (k * 4)).take 4 = attrC l[k] := flat_at attrC_len l k h
theorem nodeTCs_at (l : List NodeT) (k : Nat) (h : k < l.length) : ((nodeTCs l).drop (k * 4)).take 4 = nodeTC l[k] := flat_at nodeTC_len l k h
theorem edgeTCs_at (l : List EdgeT) (k : Nat) (h : k < l.length) : ((edgeTCs l).drop (k * 7)).take 7 = edgeTC l[k] := flat_at edgeTC_len l k h
theorem attrCs_append (l m : List AttrT) : attrCs (l ++ m) = attrCs l ++ attrCs m := by simp [attrCs]

section nm
variable {S : Nat → Prop}
@[simp] theorem nmL_take {l : List AV} (h : nmL S l) (k : Nat) : nmL S (l.take k) := nmL_iff.2 fun a ha => nmL_iff.1 h a (List.mem_of_mem_take ha)
@[simp] theorem nmL_edgeC (a : Int × Int × Int) : nmL S (edgeC a) := by simp [edgeC]
@[simp] theorem nmL_strs (l : List ByteArray) : nmL S (l.map .str) := nmL_map (f := AV.str) (fun _ => trivial) l
@[simp] theorem nm_encStrs (l : List ByteArray) : (encStrs l).nm S := nmL_strs l
@[simp] theorem nmL_attrC (a : AttrT) : nmL S (attrC a) := by simp [attrC]
@[simp] theorem nmL_attrCs (l : List AttrT) : nmL S (attrCs l) := nmL_flatMap (f := attrC) (fun a => nmL_attrC a) l
@[simp] theorem nm_encAttrs (l : List AttrT) : (encAttrs l).nm S := nmL_attrCs l
@[simp] theorem nmL_nodeTC (a : NodeT) : nmL S (nodeTC a) := by simp [nodeTC]
@[simp] theorem nmL_nodeTCs (l : List NodeT) : nmL S (nodeTCs l) := nmL_flatMap (f := nodeTC) (fun a => nmL_nodeTC a) l
@[simp] theorem nm_encNodes (l : List NodeT) : (encNodes l).nm S := nmL_nodeTCs l
@[simp] theorem nmL_edgeTC (a : EdgeT) : nmL S (edgeTC a) := by simp [edgeTC]
@[simp] theorem nmL_edgeTCs (l : List EdgeT) : nmL S (edgeTCs l) := nmL_flatMap (f := edgeTC) (fun a => nmL_edgeTC a) l
@[simp] theorem nm_encETypes (l : List EdgeT) : (encETypes l).nm S := nmL_edgeTCs l
@[simp] theorem nmL_typesC (t : TypesT) : nmL S (typesC t) := by simp [typesC]
end nm

/-- What the law's bulk bounds. -/
def AttrT.ok (a : AttrT) : Prop := a.name.size ≤ 1048576 ∧ a.names.length ≤ 1048576 ∧ (∀ s ∈ a.names, s.size ≤ 1048576) ∧ I64 a.low ∧ I64 a.high
def NodeT.ok (n : NodeT) : Prop := n.name.size ≤ 1048576 ∧ n.attrs.length ≤ 1048576 ∧ (∀ a ∈ n.attrs, a.ok) ∧ I64 n.parent
def EdgeT.ok (e : EdgeT) : Prop := e.name.size ≤ 1048576 ∧ I64 e.fr ∧ I64 e.to ∧ I64 e.ol ∧ I64 e.oh ∧ I64 e.il ∧ I64 e.ih
structure TypesT.ok (t : TypesT) : Prop where
  nl : t.nodes.length ≤ 1048576
  el : t.edges.length ≤ 1048576
  n : ∀ x ∈ t.nodes, x.ok
  e : ∀ x ∈ t.edges, x.ok

/-- A string is in a list. -/
def hasS (l : List ByteArray) (s : ByteArray) : Bool := l.any fun y => decide (y = s)

/-- The error of the names of an enumeration. -/
def namesAt (l : List ByteArray) (i : Nat) : Option Int := match l[i]? with
  | some s => if isName s = false then some 2 else if hasS (l.take i) s = true then some 5 else none
  | none => none
theorem namesAt_eq {l : List ByteArray} {i : Nat} (h : i < l.length) : namesAt l i = if isName l[i] = false then some 2 else if hasS (l.take i) l[i] = true then some 5 else none := by
  simp only [namesAt, List.getElem?_eq_getElem h]
def namesE (l : List ByteArray) : Int := if l.length > 20 then 3 else (firstE l.length (namesAt l)).getD 0

def rangeOk (x : AttrT) : Bool :=
  if x.names.length > 0 then decide (x.low = 0) && decide (x.high = (x.names.length : Int) - 1)
  else decide (-1000000 ≤ x.low) && decide (x.low ≤ x.high) && decide (x.high ≤ 1000000)

/-- The error of an attribute behind some others. -/
def attributeE (x : AttrT) (before : List AttrT) : Int :=
  if isName x.name = false then 2 else if (before.any fun y => decide (y.name = x.name)) = true then 5 else
  if namesE x.names ≠ 0 then namesE x.names else if rangeOk x = true then 0 else 6

/-- The attributes of a type of nodes. -/
def attrsT (ns : List NodeT) (a : Nat) : List AttrT :=
  match ns[a]? with
  | none => []
  | some n => (if h : 0 ≤ n.parent ∧ n.parent.toNat < a then attrsT ns n.parent.toNat else []) ++ n.attrs
termination_by a

/-- The parents of the first types are in order. -/
def Par (ns : List NodeT) (a : Nat) : Prop := ∀ j n, j ≤ a → ns[j]? = some n → -1 ≤ n.parent ∧ n.parent < j

theorem attrsT_eq {ns : List NodeT} {a : Nat} (h : a < ns.length) (hp : Par ns a) : attrsT ns a = (if 0 ≤ ns[a].parent then attrsT ns ns[a].parent.toNat else []) ++ ns[a].attrs := by
  rw [attrsT]
  simp only [List.getElem?_eq_getElem h]
  have := hp a ns[a] (Nat.le_refl _) (List.getElem?_eq_getElem h)
  congr 1
  by_cases h0 : 0 ≤ ns[a].parent
  · rw [dif_pos ⟨h0, by omega⟩, if_pos h0]
  · rw [dif_neg (fun hh => h0 hh.1), if_neg h0]

/-- The error of an own attribute of a type of nodes, k counted among all. -/
def ownAt (all : List AttrT) (k : Nat) : Option Int := match all[k]? with
  | some x => if attributeE x (all.take k) ≠ 0 then some (attributeE x (all.take k)) else none
  | none => none
theorem ownAt_eq {all : List AttrT} {k : Nat} (h : k < all.length) : ownAt all k = if attributeE all[k] (all.take k) ≠ 0 then some (attributeE all[k] (all.take k)) else none := by
  simp only [ownAt, List.getElem?_eq_getElem h]
def ownE (all : List AttrT) (first : Nat) : Int := (firstE (all.length - first) fun i => ownAt all (first + i)).getD 0

/-- The error of a type of nodes. -/
def nodeE (t : TypesT) (i : Nat) : Int :=
  match t.nodes[i]? with
  | none => 0
  | some n =>
    if isName n.name = false then 2 else if ((t.nodes.take i).any fun m => decide (m.name = n.name)) = true then 5 else
    if n.parent < -1 ∨ n.parent ≥ i then 6 else if n.attrs.length > 4 then 3 else
    if (attrsT t.nodes i).length > 8 then 3 else ownE (attrsT t.nodes i) ((attrsT t.nodes i).length - n.attrs.length)

def boundedB (low high : Int) : Bool := decide (0 ≤ low) && decide (low ≤ 40) && (decide (high = -1) || (decide (low ≤ high) && decide (high ≤ 40)))
def insideB (t : TypesT) (n : Int) : Bool := decide (0 ≤ n) && decide (n < t.nodes.length)

/-- The error of a type of edges. -/
def edgeE (t : TypesT) (i : Nat) : Int :=
  match t.edges[i]? with
  | none => 0
  | some x =>
    if isName x.name = false then 2 else if ((t.edges.take i).any fun m => decide (m.name = x.name)) = true then 5 else
    if (insideB t x.fr && insideB t x.to && boundedB x.ol x.oh && boundedB x.il x.ih) = true then 0 else 6

/-- The error of a type graph, and the name that it is about. -/
def nodeAt (t : TypesT) (i : Nat) : Option (ByteArray × Int) := if nodeE t i ≠ 0 then some ((t.nodes.getD i default).name, nodeE t i) else none
def edgeAt (t : TypesT) (i : Nat) : Option (ByteArray × Int) := if edgeE t i ≠ 0 then some ((t.edges.getD i default).name, edgeE t i) else none
def validT (t : TypesT) : ByteArray × Int :=
  if t.nodes.length = 0 then (⟨#[]⟩, 7) else if t.nodes.length > 12 ∨ t.edges.length > 20 then (⟨#[]⟩, 3) else
  ((firstE t.nodes.length (nodeAt t)).or (firstE t.edges.length (edgeAt t))).getD (⟨#[]⟩, 0)

/-- A type graph without error has its parents in order. -/
theorem nodeE_parent {t : TypesT} {i : Nat} (h : nodeE t i = 0) (n : NodeT) (hn : t.nodes[i]? = some n) : -1 ≤ n.parent ∧ n.parent < i := by
  simp only [nodeE, hn] at h
  split at h
  · cases h
  split at h
  · cases h
  split at h
  · cases h
  omega

theorem firstE_of_none {α : Type} {n : Nat} {f : Nat → Option α} (h : firstE n f = none) (j : Nat) (hj : j < n) : f j = none :=
  (List.findSome?_eq_none_iff.1 h) j (by simpa using hj)

theorem validT_nodes {t : TypesT} (h : (validT t).2 = 0) : ∀ j, j < t.nodes.length → nodeE t j = 0 := by
  intro j hj
  unfold validT at h
  split at h
  · cases h
  split at h
  · cases h
  cases hx : firstE t.nodes.length (nodeAt t) with
  | some x =>
    rw [hx] at h
    obtain ⟨k, hk, hk2⟩ := List.exists_of_findSome?_eq_some hx
    unfold nodeAt at hk2
    split at hk2
    · cases hk2; exact absurd h (by assumption)
    · cases hk2
  | none =>
    have hh := firstE_of_none hx j hj
    unfold nodeAt at hh
    by_cases h0 : nodeE t j = 0
    · exact h0
    · simp [h0] at hh

theorem validT_par {t : TypesT} (h : (validT t).2 = 0) (a : Nat) : Par t.nodes a := by
  intro j n _ hn
  exact nodeE_parent (validT_nodes h j (List.getElem?_eq_some_iff.1 hn).1) n hn

theorem validT_len {t : TypesT} (h : (validT t).2 = 0) : 0 < t.nodes.length ∧ t.nodes.length ≤ 12 ∧ t.edges.length ≤ 20 := by
  unfold validT at h
  split at h
  · cases h
  split at h
  · cases h
  omega
end Go.Av
/- The plain functions that the program and the reference compute, second part: graphs and hosts. -/
namespace Go.Av
set_option linter.unusedVariables false
set_option linter.unusedSimpArgs false

/-- A type with all its supertypes, from the root on. -/
def lineT (ns : List NodeT) (a : Nat) : List Int :=
  match ns[a]? with
  | none => [(a : Int)]
  | some n => (if h : 0 ≤ n.parent ∧ n.parent.toNat < a then lineT ns n.parent.toNat else []) ++ [(a : Int)]
termination_by a

theorem lineT_eq {ns : List NodeT} {a : Nat} (h : a < ns.length) (hp : Par ns a) : lineT ns a = (if 0 ≤ ns[a].parent then lineT ns ns[a].parent.toNat else []) ++ [(a : Int)] := by
  rw [lineT]
  simp only [List.getElem?_eq_getElem h]
  have := hp a ns[a] (Nat.le_refl _) (List.getElem?_eq_getElem h)
  congr 1
  by_cases h0 : 0 ≤ ns[a].parent
  · rw [dif_pos ⟨h0, by omega⟩, if_pos h0]
  · rw [dif_neg (fun hh => h0 hh.1), if_neg h0]

theorem lineT_length {ns : List NodeT} {a : Nat} : (lineT ns a).length ≤ a + 1 := by
  induction a using Nat.strongRecOn with
  | ind a ih =>
  rw [lineT]
  split
  · simp
  · rename_i n hn
    split
    · rename_i h
      have := ih n.parent.toNat h.2
      simp only [List.length_append, List.length_cons, List.length_nil]
      omega
    · simp

def belowT (ns : List NodeT) (a : Nat) (b : Int) : Bool := decide (b ∈ lineT ns a)

theorem belowT_eq {ns : List NodeT} {a : Nat} (h : a < ns.length) (hp : Par ns a) (b : Int) :
    belowT ns a b = (decide ((a : Int) = b) || (decide (0 ≤ ns[a].parent) && belowT ns ns[a].parent.toNat b)) := by
  simp only [belowT]
  rw [lineT_eq h hp]
  by_cases h0 : 0 ≤ ns[a].parent
  · simp only [h0, if_true, decide_true, Bool.true_and, List.mem_append, List.mem_singleton, Bool.decide_or]
    rw [Bool.or_comm]
    simp only [eq_comm]
  · simp only [h0, if_false, decide_false, Bool.false_and, Bool.or_false, List.nil_append, List.mem_singleton, eq_comm]

def isT (t : TypesT) (a b : Int) : Bool := decide ((validT t).2 = 0) && insideB t a && insideB t b && belowT t.nodes a.toNat b

def attrsE (t : TypesT) (a : Int) : List AttrT × Int :=
  if (validT t).2 ≠ 0 then ([], (validT t).2) else if insideB t a = true then (attrsT t.nodes a.toNat, 0) else ([], 6)

def fitsT (t : TypesT) (k a b : Int) : Bool :=
  decide ((validT t).2 = 0) && insideB t a && insideB t b && decide (0 ≤ k) && decide (k < t.edges.length) &&
  belowT t.nodes a.toNat (t.edges.getD k.toNat default).fr && belowT t.nodes b.toNat (t.edges.getD k.toNat default).to

/-- Graphs. -/
def kindG (x : Int) : Bool := decide (0 ≤ x) && decide (x ≤ 99)
def rightG (e : Int × Int × Int) (n : Nat) : Bool := kindG e.1 && (decide (0 ≤ e.2.1) && decide (e.2.1 ≤ (n : Int) - 1)) && (decide (0 ≤ e.2.2) && decide (e.2.2 ≤ (n : Int) - 1))
def validG (n : List Int) (e : List (Int × Int × Int)) : Int :=
  if n.length > 40 ∨ e.length > 80 then 3 else if n.all kindG = false then 6 else if (e.all fun x => rightG x n.length) = false then 6 else 0

/-- The error of a node of a host. -/
def valAt (al : List AttrT) (vals : List Int) (k : Nat) : Option Int := match al[k]?, vals[k]? with
  | some a, some v => if v < a.low ∨ v > a.high then some 6 else none
  | _, _ => none
theorem valAt_eq {al : List AttrT} {vals : List Int} {k : Nat} (h : k < al.length) (h' : k < vals.length) : valAt al vals k = if vals[k] < al[k].low ∨ vals[k] > al[k].high then some 6 else none := by
  simp only [valAt, List.getElem?_eq_getElem h, List.getElem?_eq_getElem h']
def hnodeE (t : TypesT) (kind : Int) (vals : List Int) : Int :=
  if kind ≥ t.nodes.length then 6 else if (t.nodes.getD kind.toNat default).abs = true then 13 else
  if vals.length ≠ (attrsE t kind).1.length then 20 else
  (firstE (attrsE t kind).1.length (valAt (attrsE t kind).1 vals)).getD 0

def hedgeE (t : TypesT) (n : List Int) (x : Int × Int × Int) : Int :=
  if x.1 ≥ t.edges.length then 6 else if fitsT t x.1 (n.getD x.2.1.toNat 0) (n.getD x.2.2.toNat 0) = true then 0 else 13

def hnodeAt (t : TypesT) (n : List Int) (v : List (List Int)) (i : Nat) : Option (Int × Int) :=
  if hnodeE t (n.getD i 0) (v.getD i []) ≠ 0 then some ((i : Int), hnodeE t (n.getD i 0) (v.getD i [])) else none
def hedgeAt (t : TypesT) (n : List Int) (e : List (Int × Int × Int)) (i : Nat) : Option (Int × Int) :=
  if hedgeE t n (e.getD i (0, 0, 0)) ≠ 0 then some ((i : Int), hedgeE t n (e.getD i (0, 0, 0))) else none
def hostE (t : TypesT) (n : List Int) (e : List (Int × Int × Int)) (v : List (List Int)) : Int × Int :=
  if (validT t).2 ≠ 0 then (-1, (validT t).2) else if validG n e ≠ 0 then (-1, validG n e) else if v.length ≠ n.length then (-1, 20) else
  ((firstE n.length (hnodeAt t n v)).or (firstE e.length (hedgeAt t n e))).getD (-1, 0)

/-- Violated multiplicities. -/
structure ExcT where
  edge : Int
  node : Int
  count : Int
  out : Bool
  deriving DecidableEq
def excC (x : ExcT) : List AV := [.int .i64 x.edge, .int .i64 x.node, .int .i64 x.count, .bool x.out]
def excCs (l : List ExcT) : List AV := l.flatMap excC
def encExcs (l : List ExcT) : AV := .vsl (excCs l) l.length none
theorem excC_len (a : ExcT) : (excC a).length = 4 := rfl
@[simp] theorem excCs_len (l : List ExcT) : (excCs l).length = l.length * 4 := flat_len excC_len l
theorem excCs_at (l : List ExcT) (k : Nat) (h : k < l.length) : ((excCs l).drop (k * 4)).take 4 = excC l[k] := flat_at excC_len l k h
theorem excCs_append (l m : List ExcT) : excCs (l ++ m) = excCs l ++ excCs m := by simp [excCs]
section nm
variable {S : Nat → Prop}
@[simp] theorem nmL_excC (a : ExcT) : nmL S (excC a) := by simp [excC]
@[simp] theorem nmL_excCs (l : List ExcT) : nmL S (excCs l) := nmL_flatMap (f := excC) (fun a => nmL_excC a) l
@[simp] theorem nm_encExcs (l : List ExcT) : (encExcs l).nm S := nmL_excCs l
end nm

def hitB (k i : Int) (out : Bool) (x : Int × Int × Int) : Bool := decide (x.1 = k) && ((out && decide (x.2.1 = i)) || (!out && decide (x.2.2 = i)))
def countG (e : List (Int × Int × Int)) (k i : Int) (out : Bool) : Nat := e.countP (hitB k i out)

def excAt (t : TypesT) (n : List Int) (e : List (Int × Int × Int)) (k : Nat) (out : Bool) (kind low high : Int) (i : Nat) : List ExcT :=
  if belowT t.nodes (n.getD i 0).toNat kind = true then
    if (countG e k i out : Int) < low ∨ (0 ≤ high ∧ (countG e k i out : Int) > high) then [⟨k, i, countG e k i out, out⟩] else []
  else []
def excOne (t : TypesT) (n : List Int) (e : List (Int × Int × Int)) (k : Nat) (out : Bool) (kind low high : Int) : List ExcT :=
  (List.range n.length).flatMap (excAt t n e k out kind low high)
def excEdge (t : TypesT) (n : List Int) (e : List (Int × Int × Int)) (k : Nat) : List ExcT :=
  excOne t n e k true (t.edges.getD k default).fr (t.edges.getD k default).ol (t.edges.getD k default).oh ++
  excOne t n e k false (t.edges.getD k default).to (t.edges.getD k default).il (t.edges.getD k default).ih
def excsT (t : TypesT) (n : List Int) (e : List (Int × Int × Int)) (v : List (List Int)) : List ExcT × Int :=
  if (hostE t n e v).2 ≠ 0 then ([], (hostE t n e v).2) else ((List.range t.edges.length).flatMap (excEdge t n e), 0)
end Go.Av
/- What the functions of HostSameness compute. -/
namespace Go.Av
set_option linter.unusedVariables false
set_option linter.unusedSimpArgs false
open Go.Proofs

theorem neq84 (a b c a' b' c' : Int) : opBin Tryz.prog .neq 84 (.agg [.int .i64 a, .int .i64 b, .int .i64 c]) (.agg [.int .i64 a', .int .i64 b', .int .i64 c']) = some (.bool (!(decide (a = a') && (decide (b = b') && (decide (c = c') && true))))) := by kernel_rfl

theorem spec211 (R : Nat) (a b : List Int) (ha : a.length < 4611686018427387904) : Spec Tryz.prog R 0 211 [encInts a, encInts b] [] (.bool (decide (a = b))) [] := by
  refine spec_intro hmix Tryz.func211 c211 (fun vs w => Tryz.call211 vs w) (by simp) (by simp [Tryz.ntmps211]) ?_
  show awb _ _ _ (retK _ _ _ _ _) _
  by_cases hl : a.length = b.length
  case neg =>
    have : ¬ a = b := by rintro rfl; exact hl rfl
    simp [encInts, Int.ofNat_inj, hl]
    exact ret_pure (by simp [resA, resOne, this]) (by simp [AV.nm])
  simp [encInts, hl]
  rw [← hl]
  refine loop_sub (ι := { k : Nat // k ≤ a.length ∧ a.take k = b.take k }) (fun k => ⟨[(0, encInts a), (1, encInts b), (5, .int .i64 k.1)], [], R⟩) (fun k => a.length - k.1) ⟨0, by simp⟩ ?_ ?_ (Nat.le_refl _) ?_
  · simp [encInts, hl]
  · simp
  · rintro ⟨k, hk, hp⟩
    rcases Nat.lt_or_ge k a.length with hlt | hge
    · have hlt' := hl ▸ hlt
      by_cases hxy : a[k] = b[k]
      · simp [encInts, hlt, hlt', hxy, wrap_nat (show k < 4611686018427387904 by omega), -Subtype.exists]
        refine ⟨⟨k + 1, hlt, ?_⟩, ?_, shift_sub ?_ ?_ (Nat.le_refl _)⟩
        · rw [List.take_add_one, List.take_add_one, hp]; simp [hlt, hlt', hxy]
        · simp only; omega
        · simp
        · simp
      · have : ¬ a = b := by rintro rfl; exact hxy rfl
        simp [encInts, hlt, hlt', hxy]
        exact ret_pure (by simp [resA, resOne, this]) (by simp [AV.nm])
    · have : a = b := by
        have e : k = a.length := by omega
        rw [e, List.take_length, hl, List.take_length] at hp
        exact hp
      simp [encInts, Nat.not_lt.2 hge]
      exact ret_pure (by simp [resA, resOne, this]) (by simp [AV.nm])

theorem spec56 (R : Nat) (a b : List Int) (ha : a.length < 4611686018427387904) : Spec Tryz.prog R 0 56 [encInts a, encInts b] [] (.bool (decide (a = b))) [] := by
  refine spec_intro hmix Tryz.func56 c56 (fun vs w => Tryz.call56 vs w) (by simp) (by simp [Tryz.ntmps56]) ?_
  show awb _ _ _ (retK _ _ _ _ _) _
  by_cases hl : a.length = b.length
  case neg =>
    have : ¬ a = b := by rintro rfl; exact hl rfl
    simp [encInts, Int.ofNat_inj, hl]
    exact ret_pure (by simp [resA, resOne, this]) (by simp [AV.nm])
  simp [encInts, hl]
  rw [← hl]
  refine loop_sub (ι := { k : Nat // k ≤ a.length ∧ a.take k = b.take k }) (fun k => ⟨[(0, encInts a), (1, encInts b), (12, .int .i64 a.length), (13, .int .i64 k.1)], [], R⟩) (fun k => a.length - k.1) ⟨0, by simp⟩ ?_ ?_ (Nat.le_refl _) ?_
  · simp [encInts, hl]
  · simp
  · rintro ⟨k, hk, hp⟩
    rcases Nat.lt_or_ge k a.length with hlt | hge
    · have hlt' := hl ▸ hlt
      by_cases hxy : a[k] = b[k]
      · simp [encInts, hlt, hlt', hxy, wrap_nat (show k < 4611686018427387904 by omega), -Subtype.exists]
        refine ⟨⟨k + 1, hlt, ?_⟩, ?_, shift_sub ?_ ?_ (Nat.le_refl _)⟩
        · rw [List.take_add_one, List.take_add_one, hp]; simp [hlt, hlt', hxy]
        · simp only; omega
        · simp
        · simp
      · have : ¬ a = b := by rintro rfl; exact hxy rfl
        simp [encInts, hlt, hlt', hxy]
        exact ret_pure (by simp [resA, resOne, this]) (by simp [AV.nm])
    · have : a = b := by
        have e : k = a.length := by omega
        rw [e, List.take_length, hl, List.take_length] at hp
        exact hp
      simp [encInts, Nat.not_lt.2 hge]
      exact ret_pure (by simp [resA, resOne, this]) (by simp [AV.nm])

theorem spec133 (R : Nat) (a b : List (Int × Int × Int)) (ha : a.length < 4611686018427387904) : Spec Tryz.prog R 0 133 [encEdges a, encEdges b] [] (.bool (decide (a = b))) [] := by
  refine spec_intro hmix Tryz.func133 c133 (fun vs w => Tryz.call133 vs w) (by simp) (by simp [Tryz.ntmps133]) ?_
  show awb _ _ _ (retK _ _ _ _ _) _
  by_cases hl : a.length = b.length
  case neg =>
    have : ¬ a = b := by rintro rfl; exact hl rfl
    simp [encEdges, Int.ofNat_inj, hl]
    exact ret_pure (by simp [resA, resOne, this]) (by simp [AV.nm])
  simp [encEdges, hl]
  rw [← hl]
  refine loop_sub (ι := { k : Nat // k ≤ a.length ∧ a.take k = b.take k }) (fun k => ⟨[(0, encEdges a), (1, encEdges b), (12, .int .i64 a.length), (13, .int .i64 k.1)], [], R⟩) (fun k => a.length - k.1) ⟨0, by simp⟩ ?_ ?_ (Nat.le_refl _) ?_
  · simp [encEdges, hl]
  · simp
  · rintro ⟨k, hk, hp⟩
    rcases Nat.lt_or_ge k a.length with hlt | hge
    · have hlt' := hl ▸ hlt
      by_cases hxy : a[k] = b[k]
      · have h3 : k * 3 + 3 ≤ a.length * 3 := by omega
        have h3' : k * 3 + 3 ≤ b.length * 3 := by omega
        simp [encEdges, hlt, hlt', hxy, h3, h3', edgeCs_at _ _ hlt, edgeCs_at _ _ hlt', edgeC, neq84, wrap_nat (show k < 4611686018427387904 by omega), -Subtype.exists]
        refine ⟨⟨k + 1, hlt, ?_⟩, ?_, shift_sub ?_ ?_ (Nat.le_refl _)⟩
        · rw [List.take_add_one, List.take_add_one, hp]; simp [hlt, hlt', hxy]
        · simp only; omega
        · simp
        · simp
      · have : ¬ a = b := by rintro rfl; exact hxy rfl
        have h3 : k * 3 + 3 ≤ a.length * 3 := by omega
        have h3' : k * 3 + 3 ≤ b.length * 3 := by omega
        have hd : ¬ (a[k].1 = b[k].1 ∧ a[k].2.1 = b[k].2.1 ∧ a[k].2.2 = b[k].2.2) := fun h => hxy (Prod.ext h.1 (Prod.ext h.2.1 h.2.2))
        have hd2 : (decide (a[k].1 = b[k].1) && (decide (a[k].2.1 = b[k].2.1) && (decide (a[k].2.2 = b[k].2.2) && true))) = false := by simpa using hd
        simp [encEdges, hlt, hlt', h3, h3', edgeCs_at _ _ hlt, edgeCs_at _ _ hlt', edgeC, neq84, hd2, -Bool.and_true]
        exact ret_pure (by simp [resA, resOne, this]) (by simp [AV.nm])
    · have : a = b := by
        have e : k = a.length := by omega
        rw [e, List.take_length, hl, List.take_length] at hp
        exact hp
      simp [encEdges, Nat.not_lt.2 hge]
      exact ret_pure (by simp [resA, resOne, this]) (by simp [AV.nm])
end Go.Av
/- What the functions of HostSameness compute, second part. -/
namespace Go.Av
set_option linter.unusedVariables false
set_option linter.unusedSimpArgs false
open Go.Proofs

theorem spec134 (R : Nat) (a b : List (List Int)) (ha : a.length < 4611686018427387904) (hr : ∀ r ∈ a, r.length < 4611686018427387904) : Spec Tryz.prog R 0 134 [encIntss a, encIntss b, .fn 56 []] [] (.bool (decide (a = b))) [] := by
  refine spec_intro hmix Tryz.func134 c134 (fun vs w => Tryz.call134 vs w) (by simp) (by simp [Tryz.ntmps134]) ?_
  show awb _ _ _ (retK _ _ _ _ _) _
  by_cases hl : a.length = b.length
  case neg =>
    have : ¬ a = b := by rintro rfl; exact hl rfl
    simp [encIntss, Int.ofNat_inj, hl]
    exact ret_pure (by simp [resA, resOne, this]) (by simp [AV.nm])
  simp [encIntss, hl]
  rw [← hl]
  refine loop_sub (ι := { k : Nat // k ≤ a.length ∧ a.take k = b.take k }) (fun k => ⟨[(0, encIntss a), (1, encIntss b), (2, .fn 56 []), (15, encIntss a), (16, .int .i64 a.length), (17, .int .i64 k.1)], [], R⟩) (fun k => a.length - k.1) ⟨0, by simp⟩ ?_ ?_ (Nat.le_refl _) ?_
  · simp [encIntss, hl]
  · simp
  · rintro ⟨k, hk, hp⟩
    rcases Nat.lt_or_ge k a.length with hlt | hge
    · have hlt' := hl ▸ hlt
      simp [encIntss, hlt, hlt', -Subtype.exists]
      refine call_val (spec56 _ _ _ (hr _ (List.getElem_mem hlt))) (by simp [nmL, nm_encInts]) ?_
      by_cases hxy : a[k] = b[k]
      · simp [hxy, wrap_nat (show k < 4611686018427387904 by omega), -Subtype.exists]
        refine ⟨⟨k + 1, hlt, ?_⟩, ?_, shift_sub ?_ ?_ (Nat.le_refl _)⟩
        · rw [List.take_add_one, List.take_add_one, hp]; simp [hlt, hlt', hxy]
        · simp only; omega
        · simp
        · simp
      · have : ¬ a = b := by rintro rfl; exact hxy rfl
        simp [hxy]
        exact ret_pure (by simp [resA, resOne, this]) (by simp [AV.nm])
    · have : a = b := by
        have e : k = a.length := by omega
        rw [e, List.take_length, hl, List.take_length] at hp
        exact hp
      simp [encIntss, Nat.not_lt.2 hge]
      exact ret_pure (by simp [resA, resOne, this]) (by simp [AV.nm])

/-- The order of the reference: zero where they are equal. -/
def cmpI : List Int → List Int → Int
  | x :: a, y :: b => if x = y then cmpI a b else IntKind.i64.wrap (x - y)
  | a, b => IntKind.i64.wrap ((a.length : Int) - b.length)

theorem wrap_ne {x y : Int} (hx : I64 x) (hy : I64 y) (h : x ≠ y) : IntKind.i64.wrap (x - y) ≠ 0 := by
  obtain ⟨h1, h2⟩ := hx
  obtain ⟨h3, h4⟩ := hy
  simp [IntKind.wrap, IntKind.bits, IntKind.signed]
  omega

theorem cmpI_zero : ∀ (a b : List Int), (∀ x ∈ a, I64 x) → (∀ x ∈ b, I64 x) → a.length < 4611686018427387904 → b.length < 4611686018427387904 → (cmpI a b = 0 ↔ a = b)
  | [], [], _, _, _, _ => by simp [cmpI, wrap_id]
  | [], y :: b, _, _, _, hb => by
    simp only [List.length_cons] at hb
    have : IntKind.i64.wrap (((([] : List Int).length : Nat) : Int) - ((y :: b).length : Nat)) ≠ 0 := by
      rw [wrap_id (by simp; omega) (by simp; omega)]; simp; omega
    simp [cmpI]; simpa using this
  | x :: a, [], _, _, ha, _ => by
    simp only [List.length_cons] at ha
    have : IntKind.i64.wrap ((((x :: a).length : Nat) : Int) - ((([] : List Int).length : Nat) : Int)) ≠ 0 := by
      rw [wrap_id (by simp; omega) (by simp; omega)]; simp; omega
    simp [cmpI]; simpa using this
  | x :: a, y :: b, hx, hy, ha, hb => by
    simp only [cmpI]
    by_cases h : x = y
    · subst h
      simp only [if_true]
      rw [cmpI_zero a b (fun z hz => hx z (by simp [hz])) (fun z hz => hy z (by simp [hz])) (by simp at ha; omega) (by simp at hb; omega)]
      simp
    · simp only [h, if_false]
      have := wrap_ne (hx x (by simp)) (hy y (by simp)) h
      simp [this, h]

theorem cmpI_step (a b : List Int) (k : Nat) (h1 : k < a.length) (h2 : k < b.length) : cmpI (a.drop k) (b.drop k) = if a[k] = b[k] then cmpI (a.drop (k + 1)) (b.drop (k + 1)) else IntKind.i64.wrap (a[k] - b[k]) := by
  rw [List.drop_eq_getElem_cons h1, List.drop_eq_getElem_cons h2]
  simp [cmpI]

theorem cmpI_end (a b : List Int) (k : Nat) (hk : k ≤ a.length) (hk' : k ≤ b.length) (h : k = a.length ∨ k = b.length) : cmpI (a.drop k) (b.drop k) = IntKind.i64.wrap ((a.length : Int) - b.length) := by
  rcases h with h | h
  · subst h
    rw [List.drop_length]
    unfold cmpI
    simp
    congr 1; omega
  · subst h
    rw [List.drop_length]
    cases hd : a.drop b.length with
    | nil =>
      have := congrArg List.length hd
      simp at this
      unfold cmpI
      congr 1; simp; omega
    | cons x l =>
      have := congrArg List.length hd
      simp at this
      unfold cmpI
      congr 1; simp; omega

theorem spec127 (R : Nat) (a b : List Int) (ha : a.length < 4611686018427387904) : Spec Tryz.prog R 0 127 [encInts a, encInts b] [] (.int .i64 (cmpI a b)) [] := by
  refine spec_intro hmix Tryz.func127 c127 (fun vs w => Tryz.call127 vs w) (by simp) (by simp [Tryz.ntmps127]) ?_
  show awb _ _ _ (retK _ _ _ _ _) _
  simp [encInts]
  refine loop_sub (ι := { k : Nat // k ≤ a.length ∧ k ≤ b.length ∧ cmpI a b = cmpI (a.drop k) (b.drop k) }) (fun k => ⟨[(0, encInts a), (1, encInts b), (5, .int .i64 k.1)], [], R⟩) (fun k => a.length - k.1) ⟨0, by simp⟩ ?_ ?_ (Nat.le_refl _) ?_
  · simp [encInts]
  · simp
  · rintro ⟨k, hk, hk', hp⟩
    rcases Nat.lt_or_ge k a.length with hlt | hge
    · rcases Nat.lt_or_ge k b.length with hlt' | hge'
      · by_cases hxy : a[k] = b[k]
        · simp [encInts, hlt, hlt', hxy, wrap_nat (show k < 4611686018427387904 by omega), -Subtype.exists]
          refine ⟨⟨k + 1, hlt, hlt', ?_⟩, ?_, shift_sub ?_ ?_ (Nat.le_refl _)⟩
          · rw [hp, cmpI_step a b k hlt hlt', if_pos hxy]
          · simp only; omega
          · simp
          · simp
        · simp [encInts, hlt, hlt', hxy]
          exact ret_pure (by simp [resA, resOne]; rw [hp, cmpI_step a b k hlt hlt', if_neg hxy]) (by simp [AV.nm])
      · simp [encInts, hlt, Nat.not_lt.2 hge']
        exact ret_pure (by simp [resA, resOne]; rw [hp, cmpI_end a b k hk hk' (.inr (by omega))]) (by simp [AV.nm])
    · simp [encInts, Nat.not_lt.2 hge]
      exact ret_pure (by simp [resA, resOne]; rw [hp, cmpI_end a b k hk hk' (.inl (by omega))]) (by simp [AV.nm])
end Go.Av
/- What the functions of HostSameness compute, third part. -/
namespace Go.Av
set_option linter.unusedVariables false
set_option linter.unusedSimpArgs false
open Go.Proofs

/-- A graph, a host, as cells. -/
def graphC (n : List Int) (e : List (Int × Int × Int)) : List AV := [encInts n, encEdges e]
def hostC (n : List Int) (e : List (Int × Int × Int)) (v : List (List Int)) : List AV := [encInts n, encEdges e, encIntss v]

theorem spec110 (R : Nat) (n m : List Int) (e f : List (Int × Int × Int)) (hn : n.length < 4611686018427387904) (he : e.length < 4611686018427387904) :
    Spec Tryz.prog R 0 110 [.agg (graphC n e), .agg (graphC m f)] [] (.bool (decide (n = m) && decide (e = f))) [] := by
  refine spec_intro hmix Tryz.func110 c110 (fun vs w => Tryz.call110 vs w) (by simp) (by simp [Tryz.ntmps110]) ?_
  show awb _ _ _ (retK _ _ _ _ _) _
  simp [graphC]
  refine call_val (spec211 _ _ _ hn) (by simp [nmL, nm_encInts]) ?_
  by_cases hnm : n = m
  case neg =>
    simp [hnm, encEdges]
    exact ret_pure (by simp [resA, resOne]) (by simp [AV.nm])
  subst hnm
  by_cases hl : e.length = f.length
  case neg =>
    have : ¬ e = f := by rintro rfl; exact hl rfl
    simp [encEdges, Int.ofNat_inj, hl]
    exact ret_pure (by simp [resA, resOne, this]) (by simp [AV.nm])
  simp [encEdges, hl]
  rw [← hl]
  refine loop_sub (ι := { k : Nat // k ≤ e.length ∧ e.take k = f.take k }) (fun k => ⟨[(2, .ptr R 0), (3, .ptr (R + 1) 0), (5, .int .i64 k.1)], [(R, graphC n e), (R + 1, graphC n f)], R + 2⟩) (fun k => e.length - k.1) ⟨0, by simp⟩ ?_ ?_ (Nat.le_refl _) ?_
  · simp
  · simp [graphC, encEdges, hl]
  · rintro ⟨k, hk, hp⟩
    rcases Nat.lt_or_ge k e.length with hlt | hge
    · have hlt' := hl ▸ hlt
      have h3 : k * 3 + 3 ≤ e.length * 3 := by omega
      have h3' : k * 3 + 3 ≤ f.length * 3 := by omega
      by_cases hxy : e[k] = f[k]
      · simp [graphC, encEdges, hlt, hlt', hxy, h3, h3', edgeCs_at _ _ hlt, edgeCs_at _ _ hlt', edgeC, neq84, wrap_nat (show k < 4611686018427387904 by omega), -Subtype.exists]
        refine ⟨⟨k + 1, hlt, ?_⟩, ?_, shift_sub ?_ ?_ (Nat.le_refl _)⟩
        · rw [List.take_add_one, List.take_add_one, hp]; simp [hlt, hlt', hxy]
        · simp only; omega
        · simp
        · simp
      · have : ¬ e = f := by rintro rfl; exact hxy rfl
        have hd : ¬ (e[k].1 = f[k].1 ∧ e[k].2.1 = f[k].2.1 ∧ e[k].2.2 = f[k].2.2) := fun h => hxy (Prod.ext h.1 (Prod.ext h.2.1 h.2.2))
        have hd2 : (decide (e[k].1 = f[k].1) && (decide (e[k].2.1 = f[k].2.1) && (decide (e[k].2.2 = f[k].2.2) && true))) = false := by simpa using hd
        simp [graphC, encEdges, hlt, hlt', h3, h3', edgeCs_at _ _ hlt, edgeCs_at _ _ hlt', edgeC, neq84, hd2, -Bool.and_true]
        exact ret_pure (by simp [resA, resOne, this]) (by simp [AV.nm])
    · have : e = f := by
        have ek : k = e.length := by omega
        rw [ek, List.take_length, hl, List.take_length] at hp
        exact hp
      simp [graphC, encEdges, Nat.not_lt.2 hge]
      exact ret_pure (by simp [resA, resOne, this]) (by simp [AV.nm])

theorem spec83 (R : Nat) (n : List Int) (e : List (Int × Int × Int)) : Spec Tryz.prog R 0 83 [.agg (graphC n e)] [] (.bool (decide (n.length ≤ 45) && decide (e.length ≤ 90))) [] := by
  refine spec_intro hmix Tryz.func83 c83 (fun vs w => Tryz.call83 vs w) (by simp) (by simp [Tryz.ntmps83]) ?_
  show awb _ _ _ (retK _ _ _ _ _) _
  have h1 : (decide ((n.length : Int) ≤ 45)) = decide (n.length ≤ 45) := by simp; omega
  have h2 : (decide ((e.length : Int) ≤ 90)) = decide (e.length ≤ 90) := by simp; omega
  by_cases hn : n.length ≤ 45
  · simp [graphC, encInts, encEdges, h1, h2, hn, -decide_eq_true_eq, -decide_eq_false_iff_not]
    exact ret_pure (by simp [resA, resOne]) (by simp [AV.nm])
  · simp [graphC, encInts, encEdges, h1, h2, hn, -decide_eq_true_eq, -decide_eq_false_iff_not]
    exact ret_pure (by simp [resA, resOne]) (by simp [AV.nm])

theorem spec48 (R : Nat) (n m : List Int) (e f : List (Int × Int × Int)) (v u : List (List Int)) (hn : n.length < 4611686018427387904) (he : e.length < 4611686018427387904) (hv : v.length < 4611686018427387904) (hr : ∀ r ∈ v, r.length < 4611686018427387904) :
    Spec Tryz.prog R 0 48 [.agg (hostC n e v), .agg (hostC m f u)] [] (.bool (decide (n = m ∧ e = f ∧ v = u))) [] := by
  refine spec_intro hmix Tryz.func48 c48 (fun vs w => Tryz.call48 vs w) (by simp) (by simp [Tryz.ntmps48]) ?_
  show awb _ _ _ (retK _ _ _ _ _) _
  simp [hostC]
  refine call_val (spec56 _ _ _ hn) (by simp [nmL, nm_encInts]) ?_
  by_cases hnm : n = m
  case neg =>
    simp [hnm]
    exact ret_pure (by simp [resA, resOne, hnm]) (by simp [AV.nm])
  subst hnm
  simp
  refine call_val (spec133 _ _ _ he) (by simp [nmL, nm_encEdges]) ?_
  by_cases hef : e = f
  case neg =>
    simp [hef]
    exact ret_pure (by simp [resA, resOne, hef]) (by simp [AV.nm])
  subst hef
  simp
  refine call_val (spec134 _ _ _ hv hr) (by simp [nmL, nm_encIntss, AV.nm]) ?_
  simp
  exact ret_pure (by simp [resA, resOne]) (by simp [AV.nm])
end Go.Av
/- What the functions of HostSameness compute, fourth part. -/
namespace Go.Av
set_option linter.unusedVariables false
set_option linter.unusedSimpArgs false
open Go.Proofs

theorem spec41 (R : Nat) (n m : List Int) (e f : List (Int × Int × Int)) (v u : List (List Int)) (hn : n.length < 4611686018427387904) (he : e.length < 4611686018427387904) (hv : v.length < 4611686018427387904)
    (hr : ∀ r ∈ v, r.length < 4611686018427387904 ∧ ∀ x ∈ r, I64 x) (hr' : ∀ r ∈ u, r.length < 4611686018427387904 ∧ ∀ x ∈ r, I64 x) :
    Spec Tryz.prog R 0 41 [.agg (hostC n e v), .agg (hostC m f u)] [] (.bool (decide (n = m ∧ e = f ∧ v = u))) [] := by
  refine spec_intro hmix Tryz.func41 c41 (fun vs w => Tryz.call41 vs w) (by simp) (by simp [Tryz.ntmps41]) ?_
  show awb _ _ _ (retK _ _ _ _ _) _
  simp [hostC]
  refine call_val (spec110 _ n m e f hn he) (by simp [nmL, AV.nm, nm_encInts, nm_encEdges, graphC]) ?_
  by_cases hnm : n = m ∧ e = f
  case neg =>
    have h1 : (decide (n = m) && decide (e = f)) = false := by simpa using hnm
    have h2 : ¬ (n = m ∧ e = f ∧ v = u) := fun h => hnm ⟨h.1, h.2.1⟩
    simp [h1, -Bool.and_eq_false_imp]
    exact ret_pure (by simp [resA, resOne, -not_and]; simpa using h2) (by simp [AV.nm])
  obtain ⟨rfl, rfl⟩ := hnm
  by_cases hl : v.length = u.length
  case neg =>
    have : ¬ v = u := by rintro rfl; exact hl rfl
    simp [encIntss, Int.ofNat_inj, hl]
    exact ret_pure (by simp [resA, resOne, this]) (by simp [AV.nm])
  simp [encIntss, hl]
  rw [← hl]
  refine loop_sub (ι := { k : Nat // k ≤ v.length ∧ v.take k = u.take k }) (fun k => ⟨[(2, .ptr R 0), (3, .ptr (R + 1) 0), (5, .int .i64 k.1)], [(R, hostC n e v), (R + 1, hostC n e u)], R + 2⟩) (fun k => v.length - k.1) ⟨0, by simp⟩ ?_ ?_ (Nat.le_refl _) ?_
  · simp
  · simp [hostC, encIntss, hl]
  · rintro ⟨k, hk, hp⟩
    rcases Nat.lt_or_ge k v.length with hlt | hge
    · have hlt' := hl ▸ hlt
      simp [hostC, encIntss, hlt, hlt', -Subtype.exists]
      refine call_val (spec127 _ _ _ (hr _ (List.getElem_mem hlt)).1) (by simp [nmL, nm_encInts]) ?_
      have hz := cmpI_zero v[k] u[k] (hr _ (List.getElem_mem hlt)).2 (hr' _ (List.getElem_mem hlt')).2 (hr _ (List.getElem_mem hlt)).1 (hr' _ (List.getElem_mem hlt')).1
      by_cases hxy : v[k] = u[k]
      · have hz0 : cmpI u[k] u[k] = 0 := by have := hz.2 hxy; rwa [hxy] at this
        simp [hz0, hxy, wrap_nat (show k < 4611686018427387904 by omega), -Subtype.exists]
        refine ⟨⟨k + 1, hlt, ?_⟩, ?_, shift_sub ?_ ?_ (Nat.le_refl _)⟩
        · rw [List.take_add_one, List.take_add_one, hp]; simp [hlt, hlt', hxy]
        · simp only; omega
        · simp
        · simp
      · have : ¬ v = u := by rintro rfl; exact hxy rfl
        have hz' : ¬ cmpI v[k] u[k] = 0 := fun h => hxy (hz.1 h)
        simp [hz']
        exact ret_pure (by simp [resA, resOne, this]) (by simp [AV.nm])
    · have : v = u := by
        have ek : k = v.length := by omega
        rw [ek, List.take_length, hl, List.take_length] at hp
        exact hp
      simp [hostC, encIntss, Nat.not_lt.2 hge]
      exact ret_pure (by simp [resA, resOne, this]) (by simp [AV.nm])

/-- Hosts that are taken. -/
def fewH (n : List Int) (e : List (Int × Int × Int)) (v : List (List Int)) : Bool := decide (n.length ≤ 45) && decide (e.length ≤ 90) && decide (v.length ≤ 45) && v.all fun r => decide (r.length ≤ 12)

theorem spec47 (R : Nat) (n : List Int) (e : List (Int × Int × Int)) (v : List (List Int)) : Spec Tryz.prog R 0 47 [.agg (hostC n e v)] [] (.bool (fewH n e v)) [] := by
  refine spec_intro hmix Tryz.func47 c47 (fun vs w => Tryz.call47 vs w) (by simp) (by simp [Tryz.ntmps47]) ?_
  show awb _ _ _ (retK _ _ _ _ _) _
  simp [hostC]
  refine call_val (spec83 _ n e) (by simp [nmL, AV.nm, nm_encInts, nm_encEdges, graphC]) ?_
  cases h1 : (decide (n.length ≤ 45) && decide (e.length ≤ 90)) with
  | false =>
    simp [-Bool.and_eq_false_imp]
    exact ret_pure (by simp [resA, resOne, fewH, h1]) (by simp [AV.nm])
  | true =>
  have h2 : (decide ((45 : Int) < (v.length : Int))) = !decide (v.length ≤ 45) := by
    by_cases h : v.length ≤ 45
    · simp [h]; omega
    · simp [h]; omega
  by_cases hv : v.length ≤ 45
  case neg =>
    simp [encIntss, h2, hv, -decide_eq_true_eq, -decide_eq_false_iff_not]
    exact ret_pure (by simp [resA, resOne, fewH, hv]) (by simp [AV.nm])
  simp [encIntss, h2, hv, -decide_eq_true_eq, -decide_eq_false_iff_not]
  refine loop_sub (ι := { k : Nat // k ≤ v.length ∧ ∀ r ∈ v.take k, r.length ≤ 12 }) (fun k => ⟨[(1, .ptr R 0), (3, .int .i64 k.1)], [(R, hostC n e v)], R + 1⟩) (fun k => v.length - k.1) ⟨0, by simp⟩ ?_ ?_ (Nat.le_refl _) ?_
  · simp
  · simp [hostC, encIntss]
  · rintro ⟨k, hk, hp⟩
    rcases Nat.lt_or_ge k v.length with hlt | hge
    · by_cases hxy : v[k].length ≤ 12
      · have h3 : ¬ ((12 : Int) < (v[k].length : Int)) := by omega
        simp [hostC, encIntss, encInts, hlt, h3, wrap_nat (show k < 4611686018427387904 by omega), -Subtype.exists]
        refine ⟨⟨k + 1, hlt, ?_⟩, ?_, shift_sub ?_ ?_ (Nat.le_refl _)⟩
        · intro r hr
          rw [List.take_add_one, List.mem_append] at hr
          rcases hr with hr | hr
          · exact hp r hr
          · rw [List.getElem?_eq_getElem hlt] at hr
            have hr2 : r = v[k] := by simpa using hr
            rw [hr2]; exact hxy
        · simp only; omega
        · simp
        · simp
      · have h3 : ((12 : Int) < (v[k].length : Int)) := by omega
        have h4 : (v.all fun r => decide (r.length ≤ 12)) = false := by
          rw [List.all_eq_false]
          exact ⟨v[k], List.getElem_mem hlt, by simpa using hxy⟩
        simp [hostC, encIntss, encInts, hlt, h3]
        exact ret_pure (by simp [resA, resOne, fewH, h4, -List.all_eq_false]) (by simp [AV.nm])
    · have h4 : (v.all fun r => decide (r.length ≤ 12)) = true := by
        rw [List.all_eq_true]
        intro r hr
        have ek : k = v.length := by omega
        rw [ek, List.take_length] at hp
        simpa using hp r hr
      simp [hostC, encIntss, Nat.not_lt.2 hge]
      exact ret_pure (by simp [resA, resOne, fewH, h4, h1, hv, -List.all_eq_true]) (by simp [AV.nm])
end Go.Av
/- What the functions of HostSameness compute, fifth part: copies. -/
namespace Go.Av
set_option linter.unusedVariables false
set_option linter.unusedSimpArgs false
open Go.Proofs

theorem spec86 (R : Nat) (n : List Int) (e : List (Int × Int × Int)) (hn : n.length ≤ 1000000) (he : e.length ≤ 1000000) : Spec Tryz.prog R 0 86 [.agg (graphC n e)] [] (.agg (graphC n e)) [] := by
  refine spec_intro hmix Tryz.func86 c86 (fun vs w => Tryz.call86 vs w) (by simp) (by simp [Tryz.ntmps86]) ?_
  show awb _ _ _ (retK _ _ _ _ _) _
  have h1 : n.length ≤ 4294967296 := by omega
  have h2 : e.length ≤ 4294967296 := by omega
  simp [graphC, encInts, encEdges, h1, h2, aFill, repL, Nat.add_assoc, spl]
  refine ret_to (v := .agg [.osl (R + 3) 0 n.length none 1, .osl (R + 5) 0 e.length none 3]) ?_ [] [(R + 3, n.map (.int .i64)), (R + 5, edgeCs e)] ?_ ?_ ?_ ?_
  · simp [resA, resOne]
  · simp [NsOK]
  · have := nm_edgeCs (S := fun _ => False) e
    have := nmL_map (f := AV.int .i64) (S := fun _ => False) (fun _ => trivial) n
    simp [FzL, look, *]
  · simp [lookF]
    exact ⟨(List.take_of_length_le (by simp)).symm, (List.take_of_length_le (by simp)).symm⟩
  · simp

theorem spec33 (R : Nat) (n : List Int) (e : List (Int × Int × Int)) (v : List (List Int)) (hn : n.length ≤ 1000000) (he : e.length ≤ 1000000) (hv : v.length ≤ 1000000) (hr : ∀ r ∈ v, r.length ≤ 1000000) :
    Spec Tryz.prog R 0 33 [.agg (hostC n e v)] [] (.agg (hostC n e v)) [] := by
  refine spec_intro hmix Tryz.func33 c33 (fun vs w => Tryz.call33 vs w) (by simp) (by simp [Tryz.ntmps33]) ?_
  show awb _ _ _ (retK _ _ _ _ _) _
  simp [hostC, Nat.add_assoc]
  refine call_val (spec86 _ n e hn he) (by simp [nmL, nm_encInts, nm_encEdges]) ?_
  simp [graphC, aFill, spl, Nat.add_assoc]
  refine loop_intro (ι := { k : Nat // k ≤ v.length }) (fun k => ⟨[(1, .ptr R 0), (2, .ptr (R + 1) 0), (3, .ptr (R + 2) 0), (4, .int .i64 k.1)], [(R, hostC n e v), (R + 1, [.nilsl, .nilsl, .nilsl]), (R + 2, [encInts n, encEdges e, .osl (R + 3) 0 k.1 none 1]), (R + 3, (v.take k.1).map encInts)], R + 4⟩) (fun k => v.length - k.1) ⟨0, by simp⟩ ?_ ?_
  · refine shift_phantom.trans ?_
    simp [hset]
    refine shift_ren [(R, R), (R + 1, R + 1), (R + 2, R + 2), (R + 3, R + 3)] [] [R, R + 1, R + 2, R + 3] (by omega) ?_ ?_ ?_ ?_
    · simp [NsOK]
    · simp [FzL]
    · simp [look]
    · simp [HpTo_cons, HpTo_nil, look, hostC, toL_cons, toL_nil]
  · rintro ⟨k, hk⟩
    rcases Nat.lt_or_ge k v.length with hlt | hge
    · have hr' := hr _ (List.getElem_mem hlt)
      have h1 : v[k].length ≤ 4294967296 := by omega
      have h2 : k + 1 ≤ 4294967296 := by omega
      have h3 : k ≤ v.length := by omega
      simp [hostC, encIntss, encInts, hlt, h1, h2, h3, aFill, repL, spl, Nat.add_assoc, wrap_nat (show k < 4611686018427387904 by omega), -Subtype.exists]
      refine ⟨⟨k + 1, hlt⟩, by simp only; omega, shift_ren [(R, R), (R + 1, R + 1), (R + 2, R + 2), (R + 7, R + 3)] [(R + 5, v[k].map (.int .i64))] [R, R + 1, R + 2, R + 7] (by omega) ?_ ?_ ?_ ?_⟩
      · simp [NsOK]
      · simp [FzL, look]
      · simp [look]
      · simp [HpTo_cons, HpTo_nil, look, toL_cons, toL_nil, -List.map_take]
        have e1 : (v.map encInts).take (k + 1) = (v.take k).map encInts ++ [encInts v[k]] := by
          rw [List.take_add_one]; simp [hlt]
        rw [List.take_take, Nat.min_self, show min (k + 1) v.length = k + 1 by omega, ← List.map_take, e1, List.take_of_length_le (by simp; omega)]
        refine toL_append (toL_refl (nmL_intss _)) ?_
        simp [toL_cons, toL_nil, lookF, encInts]
        exact (List.take_of_length_le (by simp)).symm
    · have ek : k = v.length := by omega
      subst ek
      simp [hostC, encIntss, spl, List.take_of_length_le]
      refine ret_ren (v := .agg [encInts n, encEdges e, .osl (R + 3) 0 v.length none 1]) ?_ [] [(R + 3, v.map encInts)] [] ?_ ?_ ?_ ?_
      · simp [resA, resOne]
      · simp [NsOK]
      · simp [FzL, look, List.take_of_length_le]
      · simp [lookF, List.take_of_length_le]
      · simp [HpTo_nil]
end Go.Av
