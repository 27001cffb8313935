/- Shifts that forget. -/
import Derived.Test.YtojbfpfkkcdlhaaGreatAv19
namespace Go.Av
set_option linter.unusedVariables false
set_option linter.unusedSimpArgs false

/-- Registers and blocks may be forgotten, names may be left out. -/
theorem shift_sub {R : Nat} {rs rs' : List (Nat × AV)} {H H' : Heap} {nx nx' : Nat} (hr : ∀ p ∈ rs', rget rs p.1 = p.2) (hh : ∀ p ∈ H', hget H p.1 = some p.2) (hnx : nx ≤ nx') :
    St.shift R ⟨rs, H, nx⟩ ⟨rs', H', nx'⟩ := by
  intro hR
  refine ⟨Nat.le_trans hR hnx, fun e w f hf hH hβ => ?_⟩
  have hs : ∀ n cs, hget H' n = some cs → hget H n = some cs := fun n cs hn => hh (n, cs) (hget_mem hn)
  refine ⟨e, fun t => rget_to (ρ := rget rs) (T := fun a b => VR e w a (f t) → VR e w b (f t)) (fun a _ => .any _) (fun p hp => by rw [hr p hp]; exact id) t (hf t), hH.drop hs, ?_, fun n _ hS => hβ n (by simp only at hS ⊢; omega)⟩
  exact ⟨Nat.le_refl _, fun _ _ _ => rfl, fun _ cs _ _ hc => ⟨cs, hc, rfl⟩, fun _ _ => rfl, fun _ h => h, fun _ h => .inl h, fun b ho => .inl (Owns.drop hs ho), Still.refl w⟩

/-- A loop whose state needs no change of names. -/
theorem loop_sub {P : Program} {R : Nat} {b : BC} {Q : AX → St → Prop} {rs : List (Nat × AV)} {H : Heap} {nx : Nat} {ι : Type} (J : ι → St) (μ : ι → Nat) (i0 : ι)
    (h1 : ∀ p ∈ (J i0).rs, rget rs p.1 = p.2) (h2 : ∀ p ∈ (J i0).hp, hget H p.1 = some p.2) (h3 : nx ≤ (J i0).nx) (hr : ∀ i, awb P R b (loopQ R J μ i Q) (J i)) : loopK P R b Q ⟨rs, H, nx⟩ :=
  loop_intro J μ i0 (shift_sub h1 h2 h3) hr

/-- The next round. -/
theorem next_sub {R : Nat} {ι : Type} {J : ι → St} {μ : ι → Nat} {i : ι} (j : ι) {rs : List (Nat × AV)} {H : Heap} {nx : Nat} (hμ : μ j < μ i)
    (h1 : ∀ p ∈ (J j).rs, rget rs p.1 = p.2) (h2 : ∀ p ∈ (J j).hp, hget H p.1 = some p.2) (h3 : nx ≤ (J j).nx) : ∃ j, μ j < μ i ∧ St.shift R ⟨rs, H, nx⟩ (J j) :=
  ⟨j, hμ, shift_sub h1 h2 h3⟩

theorem SubL.refl_of {h : HF} {σ : Nat → Option Nat} {F : Nat → Prop} : ∀ {l : List AV}, nmL (fun _ => False) l → SubL h σ F l l
  | [], _ => trivial
  | _ :: _, hl => ⟨.refl _ hl.1, SubL.refl_of hl.2⟩
theorem SubL.append {h : HF} {σ : Nat → Option Nat} {F : Nat → Prop} : ∀ {l l' m m' : List AV}, SubL h σ F l l' → SubL h σ F m m' → SubL h σ F (l ++ m) (l' ++ m')
  | [], [], _, _, _, hm => hm
  | [], _ :: _, _, _, hl, _ => hl.elim
  | _ :: _, [], _, _, hl, _ => hl.elim
  | _ :: _, _ :: _, _, _, hl, hm => ⟨hl.1, SubL.append hl.2 hm⟩
theorem SubL_nil (h : HF) (σ : Nat → Option Nat) (F : Nat → Prop) : SubL h σ F [] [] = True := rfl
theorem SubL_cons (h : HF) (σ : Nat → Option Nat) (F : Nat → Prop) (a b : AV) (l m : List AV) : SubL h σ F (a :: l) (b :: m) = (Sub h σ F a b ∧ SubL h σ F l m) := rfl

/-- A new name for an empty block. -/
theorem shift_phantom {R : Nat} {rs : List (Nat × AV)} {H : Heap} {nx : Nat} : St.shift R ⟨rs, H, nx⟩ ⟨rs, hset H nx [], nx + 1⟩ := by
  intro hR
  refine ⟨Nat.le_succ_of_le hR, fun e w f hf hH hβ => ?_⟩
  have o := out_phantom (nx := nx) hH (hβ nx (Nat.le_refl _))
  simp only [hget_hset]
  exact ⟨e, hf, o.hr, o.step.weaken hR, fun n _ hn => hβ n (Nat.le_of_lt (Nat.lt_of_lt_of_le (Nat.lt_succ_self _) (Nat.le_of_not_lt hn)))⟩

theorem toB_refl {σ : Nat → Option Nat} {fz : Nat → Option (List AV)} {a : AV} (h : a.nm (fun _ => False)) : toB σ fz a a := by
  cases a <;> first
    | exact h.elim
    | exact ⟨rfl, h⟩

theorem toA_refl {σ : Nat → Option Nat} {fz : Nat → Option (List AV)} {a : AV} (h : a.nm (fun _ => False)) : toA σ fz a a := by
  have tl : ∀ l : List AV, nmL (fun _ => False) l → toA σ fz (.tup l) (.tup l) := by
    intro l
    induction l with
    | nil => intro _; simp only [toA]
    | cons a l ih => intro hl; simp only [toA]; exact ⟨toB_refl hl.1, ih hl.2⟩
  have al : ∀ l : List AV, nmL (fun _ => False) l → toA σ fz (.agg l) (.agg l) := by
    intro l
    induction l with
    | nil => intro _; simp only [toA]
    | cons a l ih => intro hl; simp only [toA]; exact ⟨toB_refl hl.1, ih hl.2⟩
  have fl : ∀ (f : FuncId) (l : List AV), nmL (fun _ => False) l → toA σ fz (.fn f l) (.fn f l) := by
    intro f l
    induction l with
    | nil => intro _; simp only [toA]
    | cons a l ih => intro hl; simp only [toA]; exact ⟨toB_refl hl.1, ih hl.2⟩
  cases a with
  | tup l => exact tl l h
  | agg l => exact al l h
  | fn f l => exact fl f l h
  | any => simp only [toA]
  | ptr => exact h.elim
  | osl => exact h.elim
  | _ => simp only [toA]; exact toB_refl h

theorem toA_self {σ : Nat → Option Nat} {fz : Nat → Option (List AV)} {a : AV} (h : a.nm (fun _ => False)) : toA σ fz a a = True := eq_true (toA_refl h)

section
variable (S : Nat → Prop)
theorem nm_any : AV.nm S .any = True := by simp [AV.nm]
theorem nm_int (k : IntKind) (n : Int) : AV.nm S (.int k n) = True := by simp [AV.nm]
theorem nm_bool (b : Bool) : AV.nm S (.bool b) = True := by simp [AV.nm]
theorem nm_anyb : AV.nm S .anyb = True := by simp [AV.nm]
theorem nm_str (s : ByteArray) : AV.nm S (.str s) = True := by simp [AV.nm]
theorem nm_nilsl : AV.nm S .nilsl = True := by simp [AV.nm]
theorem nm_nilptr : AV.nm S .nilptr = True := by simp [AV.nm]
theorem nm_nilfn : AV.nm S .nilfn = True := by simp [AV.nm]
theorem nm_nilif : AV.nm S .nilif = True := by simp [AV.nm]
theorem nm_ptr (n o : Nat) : AV.nm S (.ptr n o) = S n := by simp [AV.nm]
theorem nm_iptr (cs : List AV) (o : Nat) : AV.nm S (.iptr cs o) = nmL S cs := by simp [AV.nm]
theorem nm_osl (n o l : Nat) (c : Option Nat) (z : Nat) : AV.nm S (.osl n o l c z) = S n := by simp [AV.nm]
theorem nm_vsl (cs : List AV) (l : Nat) (c : Option Nat) : AV.nm S (.vsl cs l c) = nmL S cs := by simp [AV.nm]
theorem nm_agg (cs : List AV) : AV.nm S (.agg cs) = nmL S cs := by simp [AV.nm]
theorem nm_tup (cs : List AV) : AV.nm S (.tup cs) = nmL S cs := by simp [AV.nm]
theorem nm_fn (f : FuncId) (cs : List AV) : AV.nm S (.fn f cs) = nmL S cs := by simp [AV.nm]
theorem nmL_nil : nmL S [] = True := by simp [nmL]
theorem nmL_cons (a : AV) (l : List AV) : nmL S (a :: l) = (a.nm S ∧ nmL S l) := by simp [nmL]
theorem nmL_app (l m : List AV) : nmL S (l ++ m) = (nmL S l ∧ nmL S m) := by
  induction l with
  | nil => simp [nmL]
  | cons a l ih => simp [nmL, ih, and_assoc]
end
attribute [simp] nm_any nm_int nm_bool nm_anyb nm_str nm_nilsl nm_nilptr nm_nilfn nm_nilif nm_ptr nm_iptr nm_osl nm_vsl nm_agg nm_tup nm_fn nmL_nil nmL_cons nmL_app

theorem toB_self {σ : Nat → Option Nat} {fz : Nat → Option (List AV)} {a : AV} (h : a.nm (fun _ => False)) : toB σ fz a a = True := eq_true (toB_refl h)
section
variable (σ : Nat → Option Nat) (fz : Nat → Option (List AV))
theorem toB_pp (n o m p : Nat) : toB σ fz (.ptr n o) (.ptr m p) = (σ n = some m ∧ p = o) := rfl
theorem toB_pi (n o p : Nat) (cs : List AV) : toB σ fz (.ptr n o) (.iptr cs p) = (fz n = some cs ∧ p = o) := rfl
theorem toB_oo (n off len sz m off' len' sz' : Nat) (cap cap' : Option Nat) : toB σ fz (.osl n off len cap sz) (.osl m off' len' cap' sz') = (σ n = some m ∧ off' = off ∧ len' = len ∧ sz' = sz ∧ (cap' = cap ∨ cap' = none)) := rfl
theorem toB_ov (n off len sz len' : Nat) (cap cap' : Option Nat) (cs : List AV) : toB σ fz (.osl n off len cap sz) (.vsl cs len' cap') = ((∃ c, fz n = some c ∧ off + len * sz ≤ c.length ∧ cs = (c.drop off).take (len * sz)) ∧ len' = len ∧ (cap' = cap ∨ cap' = none)) := rfl
theorem toB_no (m off len sz : Nat) (cap : Option Nat) : toB σ fz .nilsl (.osl m off len cap sz) = (len = 0 ∧ cap = none) := rfl
theorem toB_nv (cs : List AV) (len : Nat) (cap : Option Nat) : toB σ fz .nilsl (.vsl cs len cap) = (cs = [] ∧ len = 0 ∧ (cap = none ∨ cap = some 0)) := rfl
theorem toA_pp (n o m p : Nat) : toA σ fz (.ptr n o) (.ptr m p) = (σ n = some m ∧ p = o) := by simp only [toA, toB_pp]
theorem toA_pi (n o p : Nat) (cs : List AV) : toA σ fz (.ptr n o) (.iptr cs p) = (fz n = some cs ∧ p = o) := by simp only [toA, toB_pi]
theorem toA_oo (n off len sz m off' len' sz' : Nat) (cap cap' : Option Nat) : toA σ fz (.osl n off len cap sz) (.osl m off' len' cap' sz') = (σ n = some m ∧ off' = off ∧ len' = len ∧ sz' = sz ∧ (cap' = cap ∨ cap' = none)) := by simp only [toA, toB_oo]
theorem toA_ov (n off len sz len' : Nat) (cap cap' : Option Nat) (cs : List AV) : toA σ fz (.osl n off len cap sz) (.vsl cs len' cap') = ((∃ c, fz n = some c ∧ off + len * sz ≤ c.length ∧ cs = (c.drop off).take (len * sz)) ∧ len' = len ∧ (cap' = cap ∨ cap' = none)) := by simp only [toA, toB_ov]
theorem toA_no (m off len sz : Nat) (cap : Option Nat) : toA σ fz .nilsl (.osl m off len cap sz) = (len = 0 ∧ cap = none) := by simp only [toA, toB_no]
theorem toA_nv (cs : List AV) (len : Nat) (cap : Option Nat) : toA σ fz .nilsl (.vsl cs len cap) = (cs = [] ∧ len = 0 ∧ (cap = none ∨ cap = some 0)) := by simp only [toA, toB_nv]
theorem toA_any (a : AV) : toA σ fz a .any = True := by simp only [toA]
theorem toA_tn : toA σ fz (.tup []) (.tup []) = True := by simp only [toA]
theorem toA_tc (a b : AV) (l m : List AV) : toA σ fz (.tup (a :: l)) (.tup (b :: m)) = (toB σ fz a b ∧ toA σ fz (.tup l) (.tup m)) := by simp only [toA]
theorem toA_an : toA σ fz (.agg []) (.agg []) = True := by simp only [toA]
theorem toA_ac (a b : AV) (l m : List AV) : toA σ fz (.agg (a :: l)) (.agg (b :: m)) = (toB σ fz a b ∧ toA σ fz (.agg l) (.agg m)) := by simp only [toA]
theorem toA_fnn (f g : FuncId) : toA σ fz (.fn f []) (.fn g []) = (g = f) := by simp only [toA]
theorem toA_fnc (f g : FuncId) (a b : AV) (l m : List AV) : toA σ fz (.fn f (a :: l)) (.fn g (b :: m)) = (toB σ fz a b ∧ toA σ fz (.fn f l) (.fn g m)) := by simp only [toA]
end
attribute [simp] toB_pp toB_pi toB_oo toB_ov toB_no toB_nv toA_pp toA_pi toA_oo toA_ov toA_no toA_nv toA_any toA_tn toA_tc toA_an toA_ac toA_fnn toA_fnc toA_self toB_self

def toL (σ : Nat → Option Nat) (fz : Nat → Option (List AV)) : List AV → List AV → Prop
  | [], [] => True
  | a :: l, b :: m => toA σ fz a b ∧ toL σ fz l m
  | _, _ => False

theorem toL_refl {σ : Nat → Option Nat} {fz : Nat → Option (List AV)} : ∀ {l : List AV}, nmL (fun _ => False) l → toL σ fz l l
  | [], _ => trivial
  | _ :: _, hl => ⟨toA_refl hl.1, toL_refl hl.2⟩
theorem toL_append {σ : Nat → Option Nat} {fz : Nat → Option (List AV)} : ∀ {l l' m m' : List AV}, toL σ fz l l' → toL σ fz m m' → toL σ fz (l ++ m) (l' ++ m')
  | [], [], _, _, _, hm => hm
  | [], _ :: _, _, _, hl, _ => hl.elim
  | _ :: _, [], _, _, hl, _ => hl.elim
  | _ :: _, _ :: _, _, _, hl, hm => ⟨hl.1, toL_append hl.2 hm⟩
theorem toL_nil (σ : Nat → Option Nat) (fz : Nat → Option (List AV)) : toL σ fz [] [] = True := rfl
theorem toL_cons (σ : Nat → Option Nat) (fz : Nat → Option (List AV)) (a b : AV) (l m : List AV) : toL σ fz (a :: l) (b :: m) = (toA σ fz a b ∧ toL σ fz l m) := rfl
theorem toL_sub {h : HF} {σ : Nat → Option Nat} {fz : Nat → Option (List AV)} (hf : FzOK h σ fz) : ∀ {l m : List AV}, toL σ fz l m → SubL h σ (fun n => (fz n).isSome) l m
  | [], [], _ => trivial
  | [], _ :: _, hl => hl.elim
  | _ :: _, [], hl => hl.elim
  | _ :: _, _ :: _, hl => ⟨toA_sub hf hl.1, toL_sub hf hl.2⟩

/-- The blocks that are kept, each with the name that it had. -/
def HpTo (H : Heap) (ns : List (Nat × Nat)) (fz : List (Nat × List AV)) : List Nat → Heap → Prop
  | [], [] => True
  | n :: l, (m, c) :: H' => look ns n = some m ∧ (match hget H n with | some b => toL (look ns) (lookF fz) (b.take c.length) c | none => False) ∧ HpTo H ns fz l H'
  | _, _ => False
theorem HpTo_nil (H : Heap) (ns : List (Nat × Nat)) (fz : List (Nat × List AV)) : HpTo H ns fz [] [] = True := rfl
theorem HpTo_cons (H : Heap) (ns : List (Nat × Nat)) (fz : List (Nat × List AV)) (n : Nat) (l : List Nat) (m : Nat) (c : List AV) (H' : Heap) :
    HpTo H ns fz (n :: l) ((m, c) :: H') = (look ns n = some m ∧ (match hget H n with | some b => toL (look ns) (lookF fz) (b.take c.length) c | none => False) ∧ HpTo H ns fz l H') := rfl
theorem HpTo_get {H : Heap} {ns : List (Nat × Nat)} {fz : List (Nat × List AV)} : ∀ {l : List Nat} {H' : Heap}, HpTo H ns fz l H' → ∀ p ∈ H', ∃ n b, look ns n = some p.1 ∧ hget H n = some b ∧ toL (look ns) (lookF fz) (b.take p.2.length) p.2
  | [], [], _, p, hp => by cases hp
  | [], _ :: _, h, _, _ => h.elim
  | _ :: _, [], h, _, _ => h.elim
  | n :: l, (m, c) :: H', h, p, hp => by
    obtain ⟨h1, h2, h3⟩ := h
    rcases List.mem_cons.1 hp with rfl | hp
    · cases hg : hget H n with
      | none => rw [hg] at h2; exact h2.elim
      | some b => rw [hg] at h2; exact ⟨n, b, h1, hg, h2⟩
    · exact HpTo_get h3 p hp

/-- A shift: the blocks' sources by name. -/
theorem shift_ren {R : Nat} {rs rs' : List (Nat × AV)} {H H' : Heap} {nx nx' : Nat} (ns : List (Nat × Nat)) (fz : List (Nat × List AV)) (src : List Nat) (hR : R ≤ nx') (hn : NsOK R ns (· < nx')) (hf : FzL H ns fz)
    (hr : ∀ p ∈ rs', toA (look ns) (lookF fz) (rget rs p.1) p.2) (hh : HpTo H ns fz src H') : St.shift R ⟨rs, H, nx⟩ ⟨rs', H', nx'⟩ :=
  shift_to ns fz hR hn hf hr (fun p hp => by
    obtain ⟨n, b, h1, h2, h3⟩ := HpTo_get hh p hp
    exact ⟨(n, p.1), look_mem h1, rfl, h1, b, h2, toL_sub (fzL_ok hf) h3⟩)

/-- Results with blocks. -/
theorem ret_ren {P : Program} {R : Nat} {rv : Array ResultVar} {s : St} {v r : AV} {post : Heap} (hv : resA P rv s = some v) (ns : List (Nat × Nat)) (fz : List (Nat × List AV)) (src : List Nat)
    (hn : NsOK R ns (fun n => hget post n ≠ none)) (hf : FzL s.hp ns fz) (hr : toA (look ns) (lookF fz) v r) (hh : HpTo s.hp ns fz src post) : RetOK P R rv s r post :=
  ret_to hv ns fz hn hf hr (fun p hp => by
    obtain ⟨n, b, h1, h2, h3⟩ := HpTo_get hh p hp
    exact ⟨(n, p.1), look_mem h1, rfl, h1, b, h2, toL_sub (fzL_ok hf) h3⟩)

theorem chk_dn_nil (U : List (Nat × Nat)) (i : Nat) (rq up : List Nat) : chk U [] i rq up = True := by simp [chk]
theorem chk_cons_nil (U : List (Nat × Nat)) (j : Nat) (rq' : List Nat) (dn : List (Nat × List Nat × List Nat)) (i : Nat) (rq : List Nat) : chk U ((j, rq', []) :: dn) i rq [] = chk U dn i rq [] := by
  simp [chk]
theorem chk_cons (U : List (Nat × Nat)) (j : Nat) (rq' up' : List Nat) (dn : List (Nat × List Nat × List Nat)) (i : Nat) (rq up : List Nat) :
    chk U ((j, rq', up') :: dn) i rq up = (((j, i) ∈ U → (∀ n ∈ up', n ∉ rq ∧ n ∉ up) ∧ ∀ n ∈ up, n ∉ rq') ∧ chk U dn i rq up) := by
  simp [chk]
theorem pushD_rq (i a : Nat) (l up : List Nat) (dn : List (Nat × List Nat × List Nat)) : pushD i (a :: l) up dn = (i, a :: l, up) :: dn := by unfold pushD; rfl
theorem pushD_up (i a : Nat) (l : List Nat) (dn : List (Nat × List Nat × List Nat)) : pushD i [] (a :: l) dn = (i, [], a :: l) :: dn := by unfold pushD; rfl
attribute [simp] chk_dn_nil chk_cons_nil pushD_rq pushD_up
attribute [simp low] chk_cons
end Go.Av
