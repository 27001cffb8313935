/- Abstract heaps: making a block, writing a block, moving a block. -/
import Derived.Test.YtojbfpfkkcdlhaaGreatAv1
import Derived.RowKit3
namespace Go.Av
set_option linter.unusedVariables false
set_option linter.unusedSimpArgs false

theorem BR.keep {e : Env} {w : World} {e' : Env} {w' : World} {n : Nat} {cs : Blk} (hx : Ext e w e' w') (hβ : e'.β n = e.β n)
    (hI : ∀ b s, e.β n = some (b, s) → ¬ e.I b → ¬ e'.I b)
    (hh : ∀ b s, e.β n = some (b, s) → w'.heap[b]? = w.heap[b]?) (H : BR e w n cs) : BR e' w' n cs := by
  rcases H with ⟨h0, h1⟩ | ⟨b, s, cells, el, h1, h2, h3, h4⟩
  · exact .inl ⟨hβ.trans h0, h1⟩
  · refine .inr ⟨b, s, cells, el, hβ.trans h1, hI b s h1 h2, (hh b s h1).trans h3, fun j a hj => ?_⟩
    obtain ⟨v, hv1, hv2, hv3⟩ := h4 j a hj
    exact ⟨v, hv1, hv2, hv3.mono hx⟩

/-- Binding a new name. -/
def Env.bind (e : Env) (n : Nat) (p : Option (Nat × Nat)) : Env := { e with β := fun m => if m = n then p else e.β m }

@[simp] theorem bind_I (e : Env) (n : Nat) (p : Option (Nat × Nat)) : (e.bind n p).I = e.I := rfl
@[simp] theorem bind_same (e : Env) (n : Nat) (p : Option (Nat × Nat)) : (e.bind n p).β n = p := by simp [Env.bind]
theorem bind_other (e : Env) {n m : Nat} (p : Option (Nat × Nat)) (h : m ≠ n) : (e.bind n p).β m = e.β m := by simp [Env.bind, h]
theorem bind_mono {e : Env} {n : Nat} {p : Option (Nat × Nat)} (h0 : e.β n = none) (m : Nat) (q : Nat × Nat) (h : e.β m = some q) : (e.bind n p).β m = some q := by
  rw [bind_other e p (by rintro rfl; rw [h0] at h; cases h), h]

/-- The outcome of an action: values, heaps and the frame. -/
structure Out (e : Env) (w : World) (h : HF) (nx made : Nat) (e' : Env) (w' : World) (h' : HF) : Prop where
  hr : HR e' w' h'
  step : Step e w h e' w' h' nx
  ext : Ext e w e' w'
  β : ∀ n, (n < nx ∨ nx + made ≤ n) → e'.β n = e.β n

theorem still_alloc (w : World) (cells : Array Value) (el : TypeId) : Still w (w.alloc (.cells cells el)) := ⟨rfl, rfl, fun a => Go.RowKit.frozen?_alloc_cells w cells el a⟩
theorem still_setRow (w : World) (b : Nat) (cells : Array Value) : Still w (w.setRow b cells) := ⟨rfl, rfl, fun a => by
  simp only [World.frozen?, World.setRow, Array.getElem?_modify]
  by_cases h : b = a.block
  · subst h
    simp only [if_true]
    cases w.heap[a.block]? with
    | none => rfl
    | some o => cases o <;> rfl
  · rw [if_neg h]⟩
theorem still_heap {w w0 : World} (h : w0.heap = w.heap) (h1 : w0.os = w.os) (h2 : w0.output = w.output) : Still w w0 := ⟨h1, h2, fun a => by simp only [World.frozen?, h]⟩

/-- A new block. -/
theorem out_alloc {e : Env} {w : World} {h : HF} {nx : Nat} (H : HR e w h) (hβ : e.β nx = none) {cells : Array Value} {el : TypeId} {blk : Blk}
    (hc : ∀ (j : Nat) (a : AV), blk[j]? = some a → ∃ v, cells[j]? = some v ∧ v.oneCell' = true ∧ VR e w a v) :
    Out e w h nx 1 (e.bind nx (some (w.heap.size, 0))) (w.alloc (.cells cells el)) (upd h nx (some blk)) := by
  have hold : ∀ b, b < w.heap.size → (w.alloc (.cells cells el)).heap[b]? = w.heap[b]? := fun b hb => heap_alloc_old w _ b hb
  have hnew : (w.alloc (.cells cells el)).heap[w.heap.size]? = some (.cells cells el (0, 0)) := heap_alloc_new w _
  have hsz : (w.alloc (.cells cells el)).heap.size = w.heap.size + 1 := Array.size_push ..
  have hx : Ext e w (e.bind nx (some (w.heap.size, 0))) (w.alloc (.cells cells el)) :=
    ⟨bind_mono hβ, fun _ h => h, fun b hb => hold b (H.Ib b hb),
      fun b cs el' fr hc => ⟨cs, by rw [hold b (Array.getElem?_eq_some_iff.1 hc).1]; exact hc, rfl⟩⟩
  have hown : ∀ n b s, h n ≠ none → e.β n = some (b, s) → b < w.heap.size := fun n b s hn hb => H.lt ⟨n, s, hn, hb⟩
  refine ⟨⟨?_, ?_, ?_⟩, ⟨by omega, fun b hb _ => hold b hb, hx.shape, fun n hn => bind_other e _ (by omega), fun _ h => h, fun _ h => .inl h, ?_, still_alloc _ _ _⟩, hx, fun n hn => bind_other e _ (by omega)⟩
  · intro n cs hn
    by_cases hnx : n = nx
    · subst hnx
      rw [upd_same] at hn
      cases hn
      refine .inr ⟨w.heap.size, 0, cells, el, by simp, fun hI => Nat.lt_irrefl _ (H.Ib _ hI), hnew, fun j a hj => ?_⟩
      obtain ⟨v, h1, h2, h3⟩ := hc j a hj
      exact ⟨v, by simpa using h1, h2, h3.mono hx⟩
    · rw [upd_other h _ hnx] at hn
      exact (H.blk n cs hn).keep hx (bind_other e _ hnx) (fun _ _ _ hI => hI) (fun b s hb => hold b (hown n b s (by rw [hn]; simp) hb))
  · intro n m b s t hn hm hbn hbm
    by_cases h1 : n = nx <;> by_cases h2 : m = nx
    · exact h1.trans h2.symm
    · subst h1
      rw [upd_other h _ h2] at hm
      rw [bind_other e _ h2] at hbm
      simp at hbn
      have := hown m b t hm hbm
      omega
    · subst h2
      rw [upd_other h _ h1] at hn
      rw [bind_other e _ h1] at hbn
      simp at hbm
      have := hown n b s hn hbn
      omega
    · rw [upd_other h _ h1] at hn
      rw [upd_other h _ h2] at hm
      rw [bind_other e _ h1] at hbn
      rw [bind_other e _ h2] at hbm
      exact H.inj n m b s t hn hm hbn hbm
  · intro b hb
    have := H.Ib b hb
    omega
  · rintro b ⟨n, s, hn, hb⟩
    by_cases h1 : n = nx
    · subst h1
      simp at hb
      exact .inr (by omega)
    · rw [upd_other h _ h1] at hn
      rw [bind_other e _ h1] at hb
      exact .inl ⟨n, s, hn, hb⟩

/-- A phantom: a new name for the empty slice. -/
theorem out_phantom {e : Env} {w : World} {h : HF} {nx : Nat} (H : HR e w h) (hβ : e.β nx = none) : Out e w h nx 1 e w (upd h nx (some [])) := by
  refine ⟨⟨?_, ?_, H.Ib⟩, ⟨Nat.le_refl _, fun _ _ _ => rfl, (Ext.refl e w).shape, fun _ _ => rfl, fun _ h => h, fun _ h => .inl h, ?_, Still.refl w⟩, Ext.refl e w, fun _ _ => rfl⟩
  · intro n cs hn
    by_cases hnx : n = nx
    · subst hnx
      rw [upd_same] at hn
      cases hn
      exact .inl ⟨hβ, rfl⟩
    · rw [upd_other h _ hnx] at hn
      exact H.blk n cs hn
  · intro n m b s t hn hm hbn hbm
    have h1 : n ≠ nx := by rintro rfl; rw [hβ] at hbn; cases hbn
    have h2 : m ≠ nx := by rintro rfl; rw [hβ] at hbm; cases hbm
    rw [upd_other h _ h1] at hn
    rw [upd_other h _ h2] at hm
    exact H.inj n m b s t hn hm hbn hbm
  · rintro b ⟨n, s, hn, hb⟩
    have h1 : n ≠ nx := by rintro rfl; rw [hβ] at hb; cases hb
    rw [upd_other h _ h1] at hn
    exact .inl ⟨n, s, hn, hb⟩

/-- Forgetting a block. -/
theorem HR.drop {e : Env} {w : World} {h h' : HF} (H : HR e w h) (hs : ∀ n cs, h' n = some cs → h n = some cs) : HR e w h' :=
  ⟨fun n cs hn => H.blk n cs (hs n cs hn),
   fun n m b s t hn hm => H.inj n m b s t (by cases hc : h' n with | none => exact absurd hc hn | some c => rw [hs n c hc]; simp) (by cases hc : h' m with | none => exact absurd hc hm | some c => rw [hs m c hc]; simp),
   H.Ib⟩

theorem Owns.drop {e : Env} {h h' : HF} (hs : ∀ n cs, h' n = some cs → h n = some cs) {b : Nat} (ho : Owns e h' b) : Owns e h b := by
  obtain ⟨n, s, hn, hb⟩ := ho
  exact ⟨n, s, by cases hc : h' n with | none => exact absurd hc hn | some c => rw [hs n c hc]; simp, hb⟩

/-- Writing into an own block. -/
theorem out_write {e : Env} {w : World} {h : HF} (H : HR e w h) (nx : Nat) {n b s : Nat} (hn : h n ≠ none) (hb : e.β n = some (b, s)) {cells cells' : Array Value} {el : TypeId}
    (hw : w.heap[b]? = some (.cells cells el (0, 0))) (hsz : cells'.size = cells.size) {blk : Blk}
    (hc : ∀ (j : Nat) (a : AV), blk[j]? = some a → ∃ v, cells'[s + j]? = some v ∧ v.oneCell' = true ∧ VR e w a v) :
    Out e w h nx 0 e (w.setRow b cells') (upd h n (some blk)) := by
  have hown : Owns e h b := ⟨n, s, hn, hb⟩
  have hnI := H.notI hown
  have hother : ∀ b', b' ≠ b → (w.setRow b cells').heap[b']? = w.heap[b']? := fun b' hb' => setRow_other w b b' cells' hb'
  have hself : (w.setRow b cells').heap[b]? = some (.cells cells' el (0, 0)) := setRow_heap w b cells cells' el (0, 0) hw
  have hsize : (w.setRow b cells').heap.size = w.heap.size := setRow_size w b cells'
  have hx : Ext e w e (w.setRow b cells') := by
    refine ⟨fun _ _ h => h, fun _ h => h, fun b' hb' => hother b' (by rintro rfl; exact hnI hb'), fun b' cs el' fr hc' => ?_⟩
    by_cases hbb : b' = b
    · subst hbb
      rw [hw] at hc'
      cases hc'
      exact ⟨cells', hself, hsz⟩
    · exact ⟨cs, by rw [hother b' hbb]; exact hc', rfl⟩
  refine ⟨⟨?_, ?_, fun b' hb' => by rw [hsize]; exact H.Ib b' hb'⟩, ⟨by omega, fun b' _ ho => hother b' (by rintro rfl; exact ho hown), hx.shape, fun _ _ => rfl, fun _ h => h, fun _ h => .inl h, ?_, still_setRow _ _ _⟩, hx, fun _ _ => rfl⟩
  · intro m cs hm
    by_cases hmn : m = n
    · subst hmn
      rw [upd_same] at hm
      cases hm
      refine .inr ⟨b, s, cells', el, hb, hnI, hself, fun j a hj => ?_⟩
      obtain ⟨v, h1, h2, h3⟩ := hc j a hj
      exact ⟨v, h1, h2, h3.mono hx⟩
    · rw [upd_other h _ hmn] at hm
      exact (H.blk m cs hm).keep hx rfl (fun _ _ _ hI => hI) (fun b' s' hb' => hother b' (by rintro rfl; exact hmn (H.inj m n b' s' s (by rw [hm]; simp) hn hb' hb)))
  · intro m m' b' s' t' hm hm' h1 h2
    have fix : ∀ k, upd h n (some blk) k ≠ none → h k ≠ none := fun k hk => by
      by_cases hkn : k = n
      · subst hkn; exact hn
      · rwa [upd_other h _ hkn] at hk
    exact H.inj m m' b' s' t' (fix m hm) (fix m' hm') h1 h2
  · rintro b' ⟨m, s', hm, hb'⟩
    by_cases hkn : m = n
    · subst hkn; exact .inl ⟨m, s', hn, hb'⟩
    · rw [upd_other h _ hkn] at hm; exact .inl ⟨m, s', hm, hb'⟩

/-- Writing into an own block, which gets a new name (append in place). -/
theorem out_move {e : Env} {w : World} {h : HF} (H : HR e w h) {nx : Nat} (hβ : e.β nx = none) {n b s s' : Nat} (hn : h n ≠ none) (hb : e.β n = some (b, s)) {cells cells' : Array Value} {el : TypeId}
    (hw : w.heap[b]? = some (.cells cells el (0, 0))) (hsz : cells'.size = cells.size) {blk : Blk}
    (hc : ∀ (j : Nat) (a : AV), blk[j]? = some a → ∃ v, cells'[s' + j]? = some v ∧ v.oneCell' = true ∧ VR e w a v) :
    Out e w h nx 1 (e.bind nx (some (b, s'))) (w.setRow b cells') (upd (upd h n none) nx (some blk)) := by
  have hown : Owns e h b := ⟨n, s, hn, hb⟩
  have hnI := H.notI hown
  have hnnx : n ≠ nx := by rintro rfl; rw [hβ] at hb; cases hb
  have hother : ∀ b', b' ≠ b → (w.setRow b cells').heap[b']? = w.heap[b']? := fun b' hb' => setRow_other w b b' cells' hb'
  have hself : (w.setRow b cells').heap[b]? = some (.cells cells' el (0, 0)) := setRow_heap w b cells cells' el (0, 0) hw
  have hsize : (w.setRow b cells').heap.size = w.heap.size := setRow_size w b cells'
  have hx : Ext e w (e.bind nx (some (b, s'))) (w.setRow b cells') := by
    refine ⟨bind_mono hβ, fun _ h => h, fun b' hb' => hother b' (by rintro rfl; exact hnI hb'), fun b' cs el' fr hc' => ?_⟩
    by_cases hbb : b' = b
    · subst hbb
      rw [hw] at hc'
      cases hc'
      exact ⟨cells', hself, hsz⟩
    · exact ⟨cs, by rw [hother b' hbb]; exact hc', rfl⟩
  have val : ∀ m, m ≠ nx → upd (upd h n none) nx (some blk) m = if m = n then none else h m := fun m hm => by simp [upd, hm]
  refine ⟨⟨?_, ?_, fun b' hb' => by rw [hsize]; exact H.Ib b' hb'⟩, ⟨by omega, fun b' _ ho => hother b' (by rintro rfl; exact ho hown), hx.shape, fun n hn => bind_other e _ (by omega), fun _ h => h, fun _ h => .inl h, ?_, still_setRow _ _ _⟩, hx, fun n hn => bind_other e _ (by omega)⟩
  · intro m cs hm
    by_cases hmx : m = nx
    · subst hmx
      rw [upd_same] at hm
      cases hm
      refine .inr ⟨b, s', cells', el, by simp, hnI, hself, fun j a hj => ?_⟩
      obtain ⟨v, h1, h2, h3⟩ := hc j a hj
      exact ⟨v, h1, h2, h3.mono hx⟩
    · rw [val m hmx] at hm
      by_cases hmn : m = n
      · simp [hmn] at hm
      · rw [if_neg hmn] at hm
        exact (H.blk m cs hm).keep hx (bind_other e _ hmx) (fun _ _ _ hI => hI) (fun b' s' hb' => hother b' (by rintro rfl; exact hmn (H.inj m n b' s' s (by rw [hm]; simp) hn hb' hb)))
  · intro m m' b' t t' hm hm' h1 h2
    by_cases hmx : m = nx <;> by_cases hmx' : m' = nx
    · exact hmx.trans hmx'.symm
    · subst hmx
      rw [val m' hmx'] at hm'
      rw [bind_other e _ hmx'] at h2
      simp at h1
      obtain ⟨rfl, rfl⟩ := h1
      by_cases hmn : m' = n
      · simp [hmn] at hm'
      · rw [if_neg hmn] at hm'
        exact absurd (H.inj m' n b t' s hm' hn h2 hb) hmn
    · subst hmx'
      rw [val m hmx] at hm
      rw [bind_other e _ hmx] at h1
      simp at h2
      obtain ⟨rfl, rfl⟩ := h2
      by_cases hmn : m = n
      · simp [hmn] at hm
      · rw [if_neg hmn] at hm
        exact absurd (H.inj m n b t s hm hn h1 hb) hmn
    · rw [val m hmx] at hm
      rw [val m' hmx'] at hm'
      rw [bind_other e _ hmx] at h1
      rw [bind_other e _ hmx'] at h2
      by_cases hmn : m = n
      · simp [hmn] at hm
      · by_cases hmn' : m' = n
        · simp [hmn'] at hm'
        · rw [if_neg hmn] at hm
          rw [if_neg hmn'] at hm'
          exact H.inj m m' b' t t' hm hm' h1 h2
  · rintro b' ⟨m, t, hm, hb'⟩
    by_cases hmx : m = nx
    · subst hmx
      simp at hb'
      obtain ⟨rfl, rfl⟩ := hb'
      exact .inl hown
    · rw [val m hmx] at hm
      rw [bind_other e _ hmx] at hb'
      by_cases hmn : m = n
      · simp [hmn] at hm
      · rw [if_neg hmn] at hm
        exact .inl ⟨m, t, hm, hb'⟩

/-- The world may have drawn. -/
theorem Out.of_heap {e : Env} {w w0 : World} {h : HF} {nx made : Nat} {e' : Env} {w' : World} {h' : HF} (hw : w0.heap = w.heap) (hs1 : w0.os = w.os) (hs2 : w0.output = w.output) (o : Out e w0 h nx made e' w' h') :
    Out e w h nx made e' w' h' := by
  refine ⟨o.hr, ⟨by rw [← hw]; exact o.step.size, fun b hb ho => ?_, fun b cs el fr hc => ?_, o.step.β, o.step.I, fun b hb => ?_, fun b hb => ?_, (still_heap hw hs1 hs2).trans o.step.still⟩, ⟨o.ext.β, o.ext.I, fun b hb => ?_, fun b cs el fr hc => ?_⟩, o.β⟩
  · rw [← hw] at hb ⊢; exact o.step.keep b hb ho
  · rw [← hw] at hc; exact o.step.shape b cs el fr hc
  · rw [← hw]; exact o.step.Inew b hb
  · rw [← hw]; exact o.step.own b hb
  · rw [← hw]; exact o.ext.keep b hb
  · rw [← hw] at hc; exact o.ext.shape b cs el fr hc

theorem Out.refl {e : Env} {w : World} {h : HF} (H : HR e w h) (nx : Nat) : Out e w h nx 0 e w h := ⟨H, Step.refl e w h nx, Ext.refl e w, fun _ _ => rfl⟩

theorem HR.of_heap {e : Env} {w w' : World} {h : HF} (hw : w'.heap = w.heap) (H : HR e w h) : HR e w' h := by
  have hx : Ext e w e w' := ⟨fun _ _ h => h, fun _ h => h, fun b _ => by rw [hw], fun b cs el fr hc => ⟨cs, by rw [hw]; exact hc, rfl⟩⟩
  exact ⟨fun n cs hn => (H.blk n cs hn).keep hx rfl (fun _ _ _ hI => hI) (fun _ _ _ => by rw [hw]), H.inj, fun b hb => by rw [hw]; exact H.Ib b hb⟩

theorem VR.of_heap {e : Env} {w w' : World} (hw : w'.heap = w.heap) {a : AV} {v : Value} (h : VR e w a v) : VR e w' a v :=
  h.mono ⟨fun _ _ h => h, fun _ h => h, fun b _ => by rw [hw], fun b cs el fr hc => ⟨cs, by rw [hw]; exact hc, rfl⟩⟩

end Go.Av
