/- Values of a slice's elements as cells. -/
import Derived.Test.YtojbfpfkkcdlhaaGreatAv20
namespace Go.Av
set_option linter.unusedVariables false
set_option linter.unusedSimpArgs false

section
variable {α : Type} {f : α → List AV} {n : Nat} (hf : ∀ a, (f a).length = n)
include hf
theorem flat_len (l : List α) : (l.flatMap f).length = l.length * n := by
  induction l with
  | nil => simp
  | cons a l ih => simp [ih, hf, Nat.add_mul]; omega
theorem flat_drop (l : List α) (k : Nat) : (l.flatMap f).drop (k * n) = (l.drop k).flatMap f := by
  induction k generalizing l with
  | zero => simp
  | succ k ih =>
    cases l with
    | nil => simp
    | cons a l =>
      have : (k + 1) * n = (f a).length + k * n := by rw [hf, Nat.add_mul]; omega
      rw [List.flatMap_cons, this, List.drop_length_add_append, ih]
      rfl
theorem flat_take (l : List α) (k : Nat) : (l.flatMap f).take (k * n) = (l.take k).flatMap f := by
  induction k generalizing l with
  | zero => simp
  | succ k ih =>
    cases l with
    | nil => simp
    | cons a l =>
      have : (k + 1) * n = (f a).length + k * n := by rw [hf, Nat.add_mul]; omega
      rw [List.flatMap_cons, this, List.take_length_add_append, ih]
      rfl
theorem flat_at (l : List α) (k : Nat) (h : k < l.length) : ((l.flatMap f).drop (k * n)).take n = f l[k] := by
  rw [flat_drop hf, List.drop_eq_getElem_cons h, List.flatMap_cons, List.take_append_of_le_length (by rw [hf]; exact Nat.le_refl _), List.take_of_length_le (by rw [hf]; exact Nat.le_refl _)]
theorem flat_get (l : List α) (k j : Nat) (h : k < l.length) (hj : j < n) : (l.flatMap f)[k * n + j]? = (f l[k])[j]? := by
  rw [← flat_at hf l k h, List.getElem?_take, if_pos hj, List.getElem?_drop]
end

theorem nmL_append {S : Nat → Prop} {l m : List AV} (h : nmL S l) (h' : nmL S m) : nmL S (l ++ m) := by
  induction l with
  | nil => exact h'
  | cons a l ih => exact ⟨h.1, ih h.2⟩

theorem nmL_map {α : Type} {S : Nat → Prop} {f : α → AV} (h : ∀ a, (f a).nm S) (l : List α) : nmL S (l.map f) := by
  induction l with
  | nil => trivial
  | cons a l ih => exact ⟨h a, ih⟩

theorem nmL_flatMap {α : Type} {S : Nat → Prop} {f : α → List AV} (h : ∀ a, nmL S (f a)) (l : List α) : nmL S (l.flatMap f) := by
  induction l with
  | nil => trivial
  | cons a l ih => rw [List.flatMap_cons]; exact nmL_append (h a) ih

/-- Slices of integers, of rows of integers. -/
def encInts (l : List Int) : AV := .vsl (l.map (.int .i64)) l.length none
def encIntss (l : List (List Int)) : AV := .vsl (l.map encInts) l.length none
/-- Edges. -/
def edgeC (e : Int × Int × Int) : List AV := [.int .i64 e.1, .int .i64 e.2.1, .int .i64 e.2.2]
def edgeCs (l : List (Int × Int × Int)) : List AV := l.flatMap edgeC
def encEdges (l : List (Int × Int × Int)) : AV := .vsl (edgeCs l) l.length none

theorem nm_encInts {S : Nat → Prop} (l : List Int) : (encInts l).nm S := nmL_map (f := AV.int .i64) (fun _ => trivial) l
theorem nm_encIntss {S : Nat → Prop} (l : List (List Int)) : (encIntss l).nm S := nmL_map (fun a => nm_encInts a) l
theorem nm_edgeCs {S : Nat → Prop} (l : List (Int × Int × Int)) : nmL S (edgeCs l) := nmL_flatMap (f := edgeC) (fun _ => ⟨trivial, trivial, trivial, trivial⟩) l
theorem nm_encEdges {S : Nat → Prop} (l : List (Int × Int × Int)) : (encEdges l).nm S := nm_edgeCs l
theorem edgeC_len (e : Int × Int × Int) : (edgeC e).length = 3 := rfl
@[simp] theorem edgeCs_len (l : List (Int × Int × Int)) : (edgeCs l).length = l.length * 3 := flat_len edgeC_len l
theorem edgeCs_at (l : List (Int × Int × Int)) (k : Nat) (h : k < l.length) : ((edgeCs l).drop (k * 3)).take 3 = edgeC l[k] := flat_at edgeC_len l k h
theorem edgeCs_append (l m : List (Int × Int × Int)) : edgeCs (l ++ m) = edgeCs l ++ edgeCs m := by simp [edgeCs]

theorem wrap_id {n : Int} (h1 : -9223372036854775808 ≤ n) (h2 : n ≤ 9223372036854775807) : IntKind.i64.wrap n = n := by
  simp [IntKind.wrap, IntKind.bits, IntKind.signed]; omega
theorem wrap_nat {n : Nat} (h : n < 4611686018427387904) : IntKind.i64.wrap ((n : Int) + 1) = ((n + 1 : Nat) : Int) := by
  rw [wrap_id (by omega) (by omega)]; omega

theorem nmL_ints {S : Nat → Prop} (l : List Int) : nmL S (l.map (.int .i64)) := nm_encInts l
theorem nmL_intss {S : Nat → Prop} (l : List (List Int)) : nmL S (l.map encInts) := nm_encIntss l
attribute [simp] nmL_ints nmL_intss nm_encInts nm_encIntss nm_edgeCs nm_encEdges

/-- In the range of an int. -/
def I64 (n : Int) : Prop := -9223372036854775808 ≤ n ∧ n ≤ 9223372036854775807
end Go.Av
