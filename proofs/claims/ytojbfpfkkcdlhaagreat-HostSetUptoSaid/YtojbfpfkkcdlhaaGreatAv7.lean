/- The operations on abstract values, fifth part: slicing, lengths, append. -/
import Derived.Test.YtojbfpfkkcdlhaaGreatAv6
namespace Go.Av
set_option linter.unusedVariables false
set_option linter.unusedSimpArgs false

/-- A bound of a slice expression. -/
def Bd (o : Option Value) (d n : Nat) : Prop := match o with
  | none => d = n
  | some v => ∃ k, v = .int k (n : Int)

theorem run_sliceBounds {P : Program} (isS : Bool) (len cap : Nat) (lo hi mx : Option Value) (l h m : Nat) (hlo : Bd lo 0 l) (hhi : Bd hi len h) (hmx : Bd mx cap m)
    (h1 : l ≤ h) (h2 : h ≤ m) (h3 : m ≤ cap) (h4 : mx.isSome → hi.isSome) (w : World) :
    (Instr.sliceBounds isS len cap lo hi mx).run P w = .ok (l, h, m) w := by
  unfold Bd at hlo hhi hmx
  cases lo <;> cases hi <;> cases mx <;> simp only at hlo hhi hmx <;>
    (try obtain ⟨kl, rfl⟩ := hlo) <;> (try obtain ⟨kh, rfl⟩ := hhi) <;> (try obtain ⟨km, rfl⟩ := hmx) <;> (try subst hlo) <;> (try subst hhi) <;> (try subst hmx) <;>
    (try simp at h4) <;>
    simp [Instr.sliceBounds, Instr.sliceBound, asIntOf, h1, h2, h3]

def bdA (o : Option AV) (d : Int) : Option Int := match o with
  | none => some d
  | some (.int _ i) => some i
  | some _ => none

theorem bdA_spec {e : Env} {w : World} {o : Option AV} {v : Option Value} {d : Nat} {i : Int} (h : bdA o d = some i) (h0 : 0 ≤ i) (hn : o.isSome = v.isSome)
    (hv : ∀ a x, o = some a → v = some x → VR e w a x) : Bd v d i.toNat := by
  unfold bdA at h
  unfold Bd
  split at h
  · cases h
    cases v with
    | none => simp
    | some x => simp at hn
  · cases h
    cases v with
    | none => simp at hn
    | some x =>
      have := hv _ _ rfl rfl
      cases this
      exact ⟨_, by rw [Int.toNat_of_nonneg h0]⟩
  · cases h

def opSlice (P : Program) (t : TypeId) (x : AV) (lo hi mx : Option AV) : Option AV :=
  match x with
  | .str s =>
    match P.underlying t, bdA lo 0, bdA hi s.size, mx with
    | some .string, some l, some h, none => if 0 ≤ l ∧ l ≤ h ∧ h ≤ s.size then some (.str (s.extract l.toNat h.toNat)) else none
    | _, _, _, _ => none
  | .osl n off len cap sz =>
    match slEl P t, bdA lo 0, bdA hi len with
    | some el, some l, some h =>
      if tSize P el = sz then
        match mx with
        | none => if 0 ≤ l ∧ l ≤ h ∧ h ≤ cap.getD len then some (.osl n (off + l.toNat * sz) (h.toNat - l.toNat) (cap.map (· - l.toNat)) sz) else none
        | some (.int _ m) => if 0 ≤ l ∧ l ≤ h ∧ h ≤ m ∧ m ≤ cap.getD len ∧ hi.isSome then some (.osl n (off + l.toNat * sz) (h.toNat - l.toNat) (some (m.toNat - l.toNat)) sz) else none
        | some _ => none
      else none
    | _, _, _ => none
  | .vsl cs len cap =>
    match slEl P t, bdA lo 0, bdA hi len with
    | some el, some l, some h =>
      match mx with
      | none => if 0 ≤ l ∧ l ≤ h ∧ h ≤ len then some (.vsl ((cs.drop (l.toNat * tSize P el)).take ((h.toNat - l.toNat) * tSize P el)) (h.toNat - l.toNat) (cap.map (· - l.toNat))) else none
      | some (.int _ m) => if 0 ≤ l ∧ l ≤ h ∧ h ≤ m ∧ m ≤ len ∧ hi.isSome then some (.vsl ((cs.drop (l.toNat * tSize P el)).take ((h.toNat - l.toNat) * tSize P el)) (h.toNat - l.toNat) (some (m.toNat - l.toNat))) else none
      | some _ => none
    | _, _, _ => none
  | .nilsl =>
    match slEl P t, bdA lo 0, bdA hi 0, bdA mx 0 with
    | some _, some 0, some 0, some 0 => if mx.isSome → hi.isSome then some .nilsl else none
    | _, _, _, _ => none
  | _ => none

theorem run_slice_any {P : Program} {t el : TypeId} {i : TypeInfo} (hu : P.underlying t = some (.slice el)) (hi' : P.info? el = some i) (a : Option Addr) (len cap : Nat) (lo hi mx : Option Value) (l h m : Nat)
    (hlo : Bd lo 0 l) (hhi : Bd hi len h) (hmx : Bd mx cap m) (h1 : l ≤ h) (h2 : h ≤ m) (h3 : m ≤ cap) (h4 : mx.isSome → hi.isSome) (w : World) :
    (Instr.sliceAt t (.slice a len cap) lo hi mx).run P w = .ok (.slice (if m = l then a else a.map (·.add (l * tSize P el))) (h - l) (m - l)) w := by
  simp [Instr.sliceAt, Instr.slice, run_underlying hu, run_sliceBounds true len cap lo hi mx l h m hlo hhi hmx h1 h2 h3 h4, run_sizeOf hi']

theorem run_slice_str {P : Program} {t : TypeId} (hu : P.underlying t = some .string) (s : ByteArray) (lo hi : Option Value) (l h : Nat)
    (hlo : Bd lo 0 l) (hhi : Bd hi s.size h) (h1 : l ≤ h) (h2 : h ≤ s.size) (w : World) :
    (Instr.sliceAt t (.string s) lo hi none).run P w = .ok (.string (s.extract l h)) w := by
  simp [Instr.sliceAt, Instr.slice, run_underlying hu, run_sliceBounds false s.size s.size lo hi none l h s.size hlo hhi rfl h1 h2 (Nat.le_refl _) (by simp)]

/-- The sliced value of an own slice. -/
theorem osl_sliced {e : Env} {w : World} {n off len sz : Nat} {cap cap' : Option Nat} {v : Value} (hv : VR e w (.osl n off len cap sz) v) {l h : Nat} (hm' : Nat → Nat) (h1 : l ≤ h)
    (hb : ∀ c, len ≤ c → (∀ k, cap = some k → c = k) → h ≤ hm' c ∧ hm' c ≤ c ∧ (∀ k, cap' = some k → hm' c - l = k)) :
    ∃ a c, v = .slice a len c ∧ h ≤ hm' c ∧ hm' c ≤ c ∧ VR e w (.osl n (off + l * sz) (h - l) cap' sz) (.slice (if hm' c = l then a else a.map (·.add (l * sz))) (h - l) (hm' c - l)) := by
  cases hv with
  | osl hβ hlen hcap room =>
    rename_i b s c
    obtain ⟨q1, q2, q3⟩ := hb c hlen hcap
    refine ⟨_, c, rfl, q1, q2, ?_⟩
    by_cases hm : hm' c = l
    · rw [if_pos hm]
      have e1 : h - l = 0 := by omega
      have e2 : hm' c - l = 0 := by omega
      rw [e1, e2]
      exact .oslz _ (fun k hk => by have := q3 k hk; omega)
    · rw [if_neg hm]
      simp only [Option.map_some, addr_add]
      rw [show s + off + l * sz = s + (off + l * sz) by omega]
      refine .osl hβ (by omega) (fun k hk => q3 k hk) ?_
      obtain ⟨cells, el, fr, hc, hr⟩ := room
      refine ⟨cells, el, fr, hc, ?_⟩
      have : l * sz + (hm' c - l) * sz = hm' c * sz := by rw [← Nat.add_mul]; congr 1; omega
      have : hm' c * sz ≤ c * sz := Nat.mul_le_mul_right _ q2
      omega
  | oslz a hcap =>
    obtain ⟨q1, q2, q3⟩ := hb 0 (Nat.le_refl _) (fun k hk => (hcap k hk).symm)
    refine ⟨a, 0, rfl, q1, q2, ?_⟩
    have e0 : hm' 0 = 0 := by omega
    have e1 : l = 0 := by omega
    have e2 : h = 0 := by omega
    subst e1 e2
    rw [e0]
    simp only [if_true, Nat.zero_mul, Nat.add_zero, Nat.sub_zero]
    exact .oslz a (fun k hk => by have := q3 k hk; omega)

theorem vsl_sliced {e : Env} {w : World} {len sz : Nat} {cs : List AV} {cap cap' : Option Nat} {v : Value} (hv : VR e w (.vsl cs len cap) v) {l h : Nat} (hm' : Nat → Nat) (h1 : l ≤ h) (hh : h ≤ len)
    (hb : ∀ c, len ≤ c → (∀ k, cap = some k → c = k) → h ≤ hm' c ∧ hm' c ≤ c ∧ (∀ k, cap' = some k → hm' c - l = k)) :
    ∃ a c, v = .slice a len c ∧ h ≤ hm' c ∧ hm' c ≤ c ∧ VR e w (.vsl ((cs.drop (l * sz)).take ((h - l) * sz)) (h - l) cap') (.slice (if hm' c = l then a else a.map (·.add (l * sz))) (h - l) (hm' c - l)) := by
  cases hv with
  | vsl vs hI hlen hcap hc hv =>
    rename_i b s c
    obtain ⟨q1, q2, q3⟩ := hb c hlen hcap
    refine ⟨_, c, rfl, q1, q2, ?_⟩
    by_cases hm : hm' c = l
    · rw [if_pos hm]
      have e1 : h - l = 0 := by omega
      rw [e1]
      simp only [Nat.zero_mul, List.take_zero]
      exact .vslz _ (fun k hk => q3 k hk)
    · rw [if_neg hm]
      simp only [Option.map_some, addr_add]
      have key : ∀ (j : Nat) (x : AV), ((cs.drop (l * sz)).take ((h - l) * sz))[j]? = some x → cs[l * sz + j]? = some x := fun j x hj => by
        rw [List.getElem?_take] at hj
        split at hj
        · rwa [List.getElem?_drop] at hj
        · cases hj
      refine .vsl (fun j => vs (l * sz + j)) hI (by omega) (fun k hk => q3 k hk) (fun j x hj => ?_) (fun j x hj => hv _ _ (key j x hj))
      rw [show s + l * sz + j = s + (l * sz + j) by omega]
      exact hc _ _ (key j x hj)
  | vslz a hcap =>
    rename_i c
    obtain ⟨q1, q2, q3⟩ := hb c (Nat.zero_le _) hcap
    refine ⟨a, c, rfl, q1, q2, ?_⟩
    simp only [List.drop_nil, List.take_nil]
    have e0 : h - l = 0 := by omega
    rw [e0]
    exact .vslz _ (fun k hk => q3 k hk)

theorem opSlice_ok {P : Program} {o : Oper} {ev : Operand → Value} {e : Env} {w : World} {h : HF} {nx : Nat} {t : TypeId} {x : Operand} {lo hi mx : Option Operand} {av r : AV} {la ha ma : Option AV}
    (ho : o.op = .slice t x lo hi mx) (hL : opSlice P t av la ha ma = some r) (hx : VR e w av (ev x))
    (hl1 : la.isSome = lo.isSome) (hl2 : ∀ a y, la = some a → lo = some y → VR e w a (ev y))
    (hh1 : ha.isSome = hi.isSome) (hh2 : ∀ a y, ha = some a → hi = some y → VR e w a (ev y))
    (hm1 : ma.isSome = mx.isSome) (hm2 : ∀ a y, ma = some a → mx = some y → VR e w a (ev y)) (H : HR e w h) : OkRun P o ev e w h nx { v := r } := by
  have bd : ∀ (oa : Option AV) (oo : Option Operand) (d : Nat) (i : Int), bdA oa d = some i → 0 ≤ i → oa.isSome = oo.isSome → (∀ a y, oa = some a → oo = some y → VR e w a (ev y)) → Bd (oo.map ev) d i.toNat := by
    intro oa oo d i h1 h2 h3 h4
    exact bdA_spec (e := e) (w := w) h1 h2 (by simpa using h3) (fun a y ha hy => by
      rw [Option.map_eq_some_iff] at hy
      obtain ⟨z, hz, rfl⟩ := hy
      exact h4 a z ha hz)
  have fin : ∀ v, (Instr.sliceAt t (ev x) (lo.map ev) (hi.map ev) (mx.map ev)).run P w = .ok v w → VR e w r v → OkRun P o ev e w h nx { v := r } := fun v h1 h2 =>
    OkRun.pure H (by simp only [execOp, ho]; exact run_v h1) h2 rfl rfl
  cases av with
  | str s =>
    simp only [opSlice] at hL
    split at hL
    case h_2 => cases hL
    rename_i l h' hu hl hh
    split at hL
    case isFalse => cases hL
    rename_i hc
    cases hL
    have hmn : mx = none := by cases mx with | none => rfl | some _ => simp at hm1
    subst hmn
    generalize hx' : ev x = vx at hx
    cases hx
    rw [hx'] at fin
    exact fin _ (run_slice_str hu s _ _ l.toNat h'.toNat (bd la lo 0 l hl hc.1 hl1 hl2) (bd ha hi s.size h' hh (by omega) hh1 hh2) (by omega) (by omega) w) (.str _)
  | osl n off len cap sz =>
    simp only [opSlice] at hL
    split at hL
    case h_2 => cases hL
    rename_i el l h' hel hl hh
    obtain ⟨hu, i, hi'⟩ := slEl_spec hel
    split at hL
    case isFalse => cases hL
    rename_i hsz
    split at hL
    · split at hL
      case isFalse => cases hL
      rename_i hc
      cases hL
      have hmn : mx = none := by cases mx with | none => rfl | some _ => simp at hm1
      subst hmn
      obtain ⟨a, c, hv, q1, q2, q3⟩ := osl_sliced (cap' := cap.map (· - l.toNat)) hx (l := l.toNat) (h := h'.toNat) (fun c => c) (by omega) (fun c hc1 hc2 => by
        refine ⟨?_, Nat.le_refl _, fun k hk => ?_⟩
        · cases cap with
          | none => simp at hc; omega
          | some k => have := hc2 k rfl; simp at hc; omega
        · rw [Option.map_eq_some_iff] at hk
          obtain ⟨k', rfl, rfl⟩ := hk
          rw [hc2 k' rfl])
      rw [hv] at fin
      exact fin _ (run_slice_any hu hi' a len c _ _ _ l.toNat h'.toNat c (bd la lo 0 l hl hc.1 hl1 hl2) (bd ha hi len h' hh (by omega) hh1 hh2) (show Bd none c c from rfl) (by omega) q1 q2 (by simp) w) (by rw [hsz]; exact q3)
    · rename_i km m
      split at hL
      case isFalse => cases hL
      rename_i hc
      cases hL
      obtain ⟨y, hy⟩ : ∃ y, mx = some y := by cases mx with | none => simp at hm1 | some y => exact ⟨y, rfl⟩
      subst hy
      have hmv := hm2 _ _ rfl rfl
      obtain ⟨a, c, hv, q1, q2, q3⟩ := osl_sliced (cap' := some (m.toNat - l.toNat)) hx (l := l.toNat) (h := h'.toNat) (fun _ => m.toNat) (by omega) (fun c hc1 hc2 => by
        refine ⟨by omega, ?_, fun k hk => by cases hk; rfl⟩
        cases cap with
          | none => simp at hc; omega
          | some k => have := hc2 k rfl; simp at hc; omega)
      rw [hv] at fin
      refine fin _ (run_slice_any hu hi' a len c _ _ _ l.toNat h'.toNat m.toNat (bd la lo 0 l hl hc.1 hl1 hl2) (bd ha hi len h' hh (by omega) hh1 hh2) ?_ (by omega) q1 q2 (fun _ => by have := hc.2.2.2.2; rw [hh1] at this; simpa using this) w) (by rw [hsz]; exact q3)
      cases hmv' : ev y <;> rw [hmv'] at hmv <;> cases hmv
      exact ⟨_, by rw [hmv', Int.toNat_of_nonneg (by omega)]⟩
    · cases hL
  | vsl cs len cap =>
    simp only [opSlice] at hL
    split at hL
    case h_2 => cases hL
    rename_i el l h' hel hl hh
    obtain ⟨hu, i, hi'⟩ := slEl_spec hel
    split at hL
    · split at hL
      case isFalse => cases hL
      rename_i hc
      cases hL
      have hmn : mx = none := by cases mx with | none => rfl | some _ => simp at hm1
      subst hmn
      obtain ⟨a, c, hv, q1, q2, q3⟩ := vsl_sliced (sz := tSize P el) (cap' := cap.map (· - l.toNat)) hx (l := l.toNat) (h := h'.toNat) (fun c => c) (by omega) (by omega) (fun c hc1 hc2 => by
        refine ⟨by omega, Nat.le_refl _, fun k hk => ?_⟩
        rw [Option.map_eq_some_iff] at hk
        obtain ⟨k', rfl, rfl⟩ := hk
        rw [hc2 k' rfl])
      rw [hv] at fin
      exact fin _ (run_slice_any hu hi' a len c _ _ _ l.toNat h'.toNat c (bd la lo 0 l hl hc.1 hl1 hl2) (bd ha hi len h' hh (by omega) hh1 hh2) (show Bd none c c from rfl) (by omega) q1 q2 (by simp) w) q3
    · rename_i km m
      split at hL
      case isFalse => cases hL
      rename_i hc
      cases hL
      obtain ⟨y, hy⟩ : ∃ y, mx = some y := by cases mx with | none => simp at hm1 | some y => exact ⟨y, rfl⟩
      subst hy
      have hmv := hm2 _ _ rfl rfl
      obtain ⟨a, c, hv, q1, q2, q3⟩ := vsl_sliced (sz := tSize P el) (cap' := some (m.toNat - l.toNat)) hx (l := l.toNat) (h := h'.toNat) (fun _ => m.toNat) (by omega) (by omega) (fun c hc1 hc2 =>
        ⟨by omega, by omega, fun k hk => by cases hk; rfl⟩)
      rw [hv] at fin
      refine fin _ (run_slice_any hu hi' a len c _ _ _ l.toNat h'.toNat m.toNat (bd la lo 0 l hl hc.1 hl1 hl2) (bd ha hi len h' hh (by omega) hh1 hh2) ?_ (by omega) q1 q2 (fun _ => by have := hc.2.2.2.2; rw [hh1] at this; simpa using this) w) q3
      cases hmv' : ev y <;> rw [hmv'] at hmv <;> cases hmv
      exact ⟨_, by rw [hmv', Int.toNat_of_nonneg (by omega)]⟩
    · cases hL
  | nilsl =>
    simp only [opSlice] at hL
    split at hL
    case h_2 => cases hL
    rename_i el hel hl hh hm
    obtain ⟨hu, i, hi'⟩ := slEl_spec hel
    split at hL
    case isFalse => cases hL
    rename_i hc
    cases hL
    generalize hx' : ev x = vx at hx
    cases hx
    rw [hx'] at fin
    exact fin _ (run_slice_any hu hi' none 0 0 _ _ _ 0 0 0 (bd la lo 0 0 hl (by omega) hl1 hl2) (bd ha hi 0 0 hh (by omega) hh1 hh2) (bd ma mx 0 0 hm (by omega) hm1 hm2) (by omega) (by omega) (by omega) (by rw [hm1, hh1] at hc; simpa using hc) w) .nilsl
  | _ => simp [opSlice] at hL

end Go.Av
