/- Cells and rows of related values, and the steps that an allocation, a store, a drop of blocks and a freeze make. -/
import Derived.Test.YtjfpggiglgkfeaaDI0
set_option linter.unusedVariables false
set_option linter.unusedSimpArgs false
namespace Go.Ideal

theorem VRs.iff {F : Frz} {ρ : Lay} : ∀ {vs : List IV} {us : List Value}, VRs F ρ vs us ↔ vs.length = us.length ∧ ∀ (j : Nat) (v : IV) (u : Value), vs[j]? = some v → us[j]? = some u → VR F ρ v u
  | [], us => by cases us <;> simp [VRs]
  | v :: vs, us => by
    simp only [VRs]
    constructor
    · rintro ⟨u, us', rfl, h1, h2⟩
      obtain ⟨hl, hp⟩ := VRs.iff.1 h2
      refine ⟨by simp [hl], fun j v' u' hv hu => ?_⟩
      cases j with
      | zero => simp at hv hu; subst hv; subst hu; exact h1
      | succ j => exact hp j v' u' (by simpa using hv) (by simpa using hu)
    · rintro ⟨hl, hp⟩
      cases us with
      | nil => simp at hl
      | cons u us' =>
        exact ⟨u, us', rfl, hp 0 v u rfl rfl, VRs.iff.2 ⟨by simpa using hl, fun j v' u' hv hu => hp (j + 1) v' u' (by simpa using hv) (by simpa using hu)⟩⟩

theorem VRs.length {F : Frz} {ρ : Lay} {vs : List IV} {us : List Value} (h : VRs F ρ vs us) : vs.length = us.length := (VRs.iff.1 h).1
theorem VRs.get {F : Frz} {ρ : Lay} {vs : List IV} {us : List Value} (h : VRs F ρ vs us) {j : Nat} {v : IV} (hv : vs[j]? = some v) : ∃ u, us[j]? = some u ∧ VR F ρ v u := by
  obtain ⟨hl, hp⟩ := VRs.iff.1 h
  have hj : j < us.length := by rw [← hl]; exact (List.getElem?_eq_some_iff.1 hv).1
  exact ⟨us[j], List.getElem?_eq_getElem hj, hp j v _ hv (List.getElem?_eq_getElem hj)⟩
theorem VRs.getI {F : Frz} {ρ : Lay} {vs : List IV} {us : List Value} (h : VRs F ρ vs us) {j : Nat} {u : Value} (hv : us[j]? = some u) : ∃ v, vs[j]? = some v ∧ VR F ρ v u := by
  obtain ⟨hl, hp⟩ := VRs.iff.1 h
  have hj : j < vs.length := by rw [hl]; exact (List.getElem?_eq_some_iff.1 hv).1
  exact ⟨vs[j], List.getElem?_eq_getElem hj, hp j _ u (List.getElem?_eq_getElem hj) hv⟩
theorem VRs.append {F : Frz} {ρ : Lay} {vs vs' : List IV} {us us' : List Value} (h : VRs F ρ vs us) (h' : VRs F ρ vs' us') : VRs F ρ (vs ++ vs') (us ++ us') := by
  induction vs generalizing us with
  | nil => simp only [VRs] at h; subst h; simpa using h'
  | cons v vs ih =>
    simp only [VRs] at h
    obtain ⟨u, us1, rfl, h1, h2⟩ := h
    exact ⟨u, us1 ++ us', by simp, h1, ih h2⟩
theorem VRs.take {F : Frz} {ρ : Lay} {vs : List IV} {us : List Value} (h : VRs F ρ vs us) (n : Nat) : VRs F ρ (vs.take n) (us.take n) := by
  rw [VRs.iff] at *
  refine ⟨by simp [h.1], fun j v u hv hu => ?_⟩
  rw [List.getElem?_take] at hv hu
  split at hv
  · rename_i hj; rw [if_pos hj] at hu; exact h.2 j v u hv hu
  · cases hv
theorem VRs.drop {F : Frz} {ρ : Lay} {vs : List IV} {us : List Value} (h : VRs F ρ vs us) (n : Nat) : VRs F ρ (vs.drop n) (us.drop n) := by
  rw [VRs.iff] at *
  refine ⟨by simp [h.1], fun j v u hv hu => ?_⟩
  rw [List.getElem?_drop] at hv hu
  exact h.2 _ v u hv hu

theorem CellsAt.get {F : Frz} {ρ : Lay} {g : Nat → Option Value} : ∀ {cs : List IV} {off : Nat}, CellsAt F ρ cs g off → ∃ us : List Value, VRs F ρ cs us ∧ ∀ j u, us[j]? = some u → g (off + j) = some u
  | [], _, _ => ⟨[], by simp [VRs], by simp⟩
  | v :: vs, off, h => by
    simp only [CellsAt] at h
    obtain ⟨⟨u, hu, h1⟩, h2⟩ := h
    obtain ⟨us, hr, hg⟩ := CellsAt.get h2
    refine ⟨u :: us, ⟨u, us, rfl, h1, hr⟩, fun j u' hj => ?_⟩
    cases j with
    | zero => simp at hj; subst hj; simpa using hu
    | succ j => rw [← hg j u' (by simpa using hj)]; congr 1; omega
theorem CellsAt.mk {F : Frz} {ρ : Lay} {g : Nat → Option Value} : ∀ {cs : List IV} {us : List Value} {off : Nat}, VRs F ρ cs us → (∀ j u, us[j]? = some u → g (off + j) = some u) → CellsAt F ρ cs g off
  | [], _, _, _, _ => by simp [CellsAt]
  | v :: vs, us, off, h, hg => by
    simp only [VRs] at h
    obtain ⟨u, us', rfl, h1, h2⟩ := h
    exact ⟨⟨u, by simpa using hg 0 u rfl, h1⟩, CellsAt.mk h2 fun j u' hj => by rw [← hg (j + 1) u' (by simpa using hj)]; congr 1; omega⟩
theorem CellsAt.drop {F : Frz} {ρ : Lay} {g : Nat → Option Value} : ∀ {cs : List IV} {off : Nat} (n : Nat), CellsAt F ρ cs g off → CellsAt F ρ (cs.drop n) g (off + n)
  | cs, off, 0, h => by simpa using h
  | [], off, n + 1, _ => by simp [CellsAt]
  | v :: vs, off, n + 1, h => by
    simp only [CellsAt] at h
    have := CellsAt.drop n h.2
    simpa [show off + 1 + n = off + (n + 1) by omega] using this
theorem CellsAt.take {F : Frz} {ρ : Lay} {g : Nat → Option Value} : ∀ {cs : List IV} {off : Nat} (n : Nat), CellsAt F ρ cs g off → CellsAt F ρ (cs.take n) g off
  | cs, off, 0, h => by simp [CellsAt]
  | [], off, n + 1, _ => by simp [CellsAt]
  | v :: vs, off, n + 1, h => by
    simp only [CellsAt] at h
    simpa [CellsAt] using ⟨h.1, CellsAt.take n h.2⟩
theorem CellsAt.append {F : Frz} {ρ : Lay} {g : Nat → Option Value} : ∀ {cs ds : List IV} {off : Nat}, CellsAt F ρ cs g off → CellsAt F ρ ds g (off + cs.length) → CellsAt F ρ (cs ++ ds) g off
  | [], ds, off, _, h => by simpa using h
  | v :: vs, ds, off, h, h' => by
    simp only [CellsAt, List.cons_append] at *
    exact ⟨h.1, CellsAt.append h.2 (by simpa [show off + 1 + vs.length = off + (vs.length + 1) by omega] using h')⟩
theorem CellsAt.sub {F : Frz} {ρ : Lay} {g g' : Nat → Option Value} : ∀ {cs : List IV} {off : Nat}, CellsAt F ρ cs g off → (∀ j u, off ≤ j → j < off + cs.length → g j = some u → g' j = some u) → CellsAt F ρ cs g' off
  | [], _, _, _ => by simp [CellsAt]
  | v :: vs, off, h, hg => by
    simp only [CellsAt] at *
    obtain ⟨⟨u, hu, h1⟩, h2⟩ := h
    exact ⟨⟨u, hg off u (Nat.le_refl _) (by simp) hu, h1⟩, CellsAt.sub h2 fun j u' h1 h2 h3 => hg j u' (by omega) (by simp at h2 ⊢; omega) h3⟩
theorem CellsAt.shift {F : Frz} {ρ : Lay} {g g' : Nat → Option Value} : ∀ {cs : List IV} {off off' : Nat}, CellsAt F ρ cs g off → (∀ j u, j < cs.length → g (off + j) = some u → g' (off' + j) = some u) → CellsAt F ρ cs g' off'
  | [], _, _, _, _ => by simp [CellsAt]
  | v :: vs, off, off', h, hg => by
    simp only [CellsAt] at *
    obtain ⟨⟨u, hu, h1⟩, h2⟩ := h
    exact ⟨⟨u, by simpa using hg 0 u (by simp) (by simpa using hu), h1⟩, CellsAt.shift h2 fun j u' hj h3 => by
      have := hg (j + 1) u' (by simp; omega) (by rw [← h3]; congr 1; omega)
      rw [← this]; congr 1; omega⟩

theorem RowsAt.get {F : Frz} {ρ : Lay} {s : Nat} {g : Nat → Option Value} : ∀ {es : List (List IV)} {off i : Nat} {e : List IV}, RowsAt F ρ s es g off → es[i]? = some e → e.length = s ∧ CellsAt F ρ e g (off + i * s)
  | [], _, _, _, _, h => by simp at h
  | e0 :: es, off, i, e, h, he => by
    simp only [RowsAt] at h
    cases i with
    | zero => simp at he; subst he; simpa using ⟨h.1, h.2.1⟩
    | succ i =>
      have := RowsAt.get h.2.2 (by simpa using he : es[i]? = some e)
      rw [show off + (i + 1) * s = off + s + i * s by rw [Nat.add_mul]; omega]
      exact this
theorem RowsAt.drop {F : Frz} {ρ : Lay} {s : Nat} {g : Nat → Option Value} : ∀ {es : List (List IV)} {off : Nat} (n : Nat), RowsAt F ρ s es g off → RowsAt F ρ s (es.drop n) g (off + n * s)
  | es, off, 0, h => by simpa using h
  | [], off, n + 1, _ => by simp [RowsAt]
  | e :: es, off, n + 1, h => by
    simp only [RowsAt] at h
    have := RowsAt.drop n h.2.2
    rw [show off + (n + 1) * s = off + s + n * s by rw [Nat.add_mul]; omega]
    simpa using this
theorem RowsAt.take {F : Frz} {ρ : Lay} {s : Nat} {g : Nat → Option Value} : ∀ {es : List (List IV)} {off : Nat} (n : Nat), RowsAt F ρ s es g off → RowsAt F ρ s (es.take n) g off
  | es, off, 0, h => by simp [RowsAt]
  | [], off, n + 1, _ => by simp [RowsAt]
  | e :: es, off, n + 1, h => by
    simp only [RowsAt, List.take_succ_cons] at *
    exact ⟨h.1, h.2.1, RowsAt.take n h.2.2⟩
theorem RowsAt.append {F : Frz} {ρ : Lay} {s : Nat} {g : Nat → Option Value} : ∀ {es fs : List (List IV)} {off : Nat}, RowsAt F ρ s es g off → RowsAt F ρ s fs g (off + es.length * s) → RowsAt F ρ s (es ++ fs) g off
  | [], fs, off, _, h => by simpa using h
  | e :: es, fs, off, h, h' => by
    simp only [RowsAt, List.cons_append] at *
    refine ⟨h.1, h.2.1, RowsAt.append h.2.2 ?_⟩
    rw [show off + s + es.length * s = off + (e :: es).length * s by rw [List.length_cons, Nat.add_mul]; omega]
    exact h'
theorem RowsAt.shift {F : Frz} {ρ : Lay} {s : Nat} {g g' : Nat → Option Value} : ∀ {es : List (List IV)} {off off' : Nat}, RowsAt F ρ s es g off → (∀ j u, j < es.length * s → g (off + j) = some u → g' (off' + j) = some u) → RowsAt F ρ s es g' off'
  | [], _, _, _, _ => by simp [RowsAt]
  | e :: es, off, off', h, hg => by
    simp only [RowsAt] at *
    have hle : (e :: es).length * s = s + es.length * s := by rw [List.length_cons, Nat.add_mul]; omega
    refine ⟨h.1, CellsAt.shift h.2.1 fun j u hj k => hg j u (by omega) k, RowsAt.shift h.2.2 fun j u hj k => ?_⟩
    have := hg (s + j) u (by omega) (by rw [← k]; congr 1; omega)
    rw [← this]; congr 1; omega
/-- All cells of rows, one after the other. -/
theorem RowsAt.flat {F : Frz} {ρ : Lay} {s : Nat} {g : Nat → Option Value} : ∀ {es : List (List IV)} {off : Nat}, RowsAt F ρ s es g off → CellsAt F ρ es.flatten g off ∧ es.flatten.length = es.length * s
  | [], off, _ => by simp [CellsAt]
  | e :: es, off, h => by
    simp only [RowsAt] at h
    obtain ⟨h1, h2⟩ := RowsAt.flat h.2.2
    refine ⟨?_, ?_⟩
    · rw [List.flatten_cons]
      exact CellsAt.append h.2.1 (by rw [h.1]; exact h1)
    · rw [List.flatten_cons, List.length_append, h2, h.1, List.length_cons, Nat.add_mul]; omega
/-- Rows from their cells. -/
theorem RowsAt.of_flat {F : Frz} {ρ : Lay} {s : Nat} {g : Nat → Option Value} : ∀ {es : List (List IV)} {off : Nat}, (∀ e ∈ es, e.length = s) → CellsAt F ρ es.flatten g off → RowsAt F ρ s es g off
  | [], off, _, _ => by simp [RowsAt]
  | e :: es, off, hs, h => by
    rw [List.flatten_cons] at h
    have he := hs e (by simp)
    refine ⟨he, by simpa using CellsAt.take e.length h, RowsAt.of_flat (fun e' h' => hs e' (by simp [h'])) ?_⟩
    have := CellsAt.drop e.length h
    simpa [he] using this
theorem RowsAt.uniform {F : Frz} {ρ : Lay} {s : Nat} {g : Nat → Option Value} : ∀ {es : List (List IV)} {off : Nat}, RowsAt F ρ s es g off → ∀ e ∈ es, e.length = s
  | [], _, _ => by simp
  | e :: es, off, h => by
    simp only [RowsAt] at h
    intro e' he'
    rcases List.mem_cons.1 he' with rfl | he'
    · exact h.1
    · exact RowsAt.uniform h.2.2 e' he'

/-! ### the ideal memory grows by a block -/
def Lay.upd (ρ : Lay) (b : Nat) (l : Loc) : Lay := fun b' => if b' = b then some l else ρ b'
theorem Lay.upd_same (ρ : Lay) (b : Nat) (l : Loc) : ρ.upd b l b = some l := by simp [Lay.upd]
theorem Lay.upd_other (ρ : Lay) {b b' : Nat} (l : Loc) (h : b' ≠ b) : ρ.upd b l b' = ρ b' := by simp [Lay.upd, h]
theorem Lay.upd_ext {ρ : Lay} {n : Nat} (hn : ∀ b l, ρ b = some l → b < n) (l : Loc) : ∀ b l', ρ b = some l' → ρ.upd n l b = some l' := by
  intro b l' h
  rw [Lay.upd_other]
  · exact h
  · exact Nat.ne_of_lt (hn b l' h)

theorem getElem?_app {h : Heap} {k : Option Blk} {b : Nat} {x : Option Blk} (e : (h ++ [k])[b]? = some x) : h[b]? = some x ∧ b < h.length ∨ b = h.length ∧ x = k := by
  rcases Nat.lt_trichotomy b h.length with hb | hb | hb
  · rw [List.getElem?_append_left hb] at e; exact .inl ⟨e, hb⟩
  · subst hb; simp at e; exact .inr ⟨rfl, e.symm⟩
  · rw [List.getElem?_eq_none (by simp; omega)] at e; cases e

/-- A new real block becomes a new live block. 'W' is the world with it: nothing else has changed. -/
theorem Step.push {F : Frz} {ρ : Lay} {h : Heap} {w W : World} (hr : Rel F ρ h w) (cs : Array Value) (k : Blk) (hnew : W.heap[w.heap.size]? = some (.cells cs k.ty (0, 0)))
    (hold : ∀ i, i < w.heap.size → W.heap[i]? = w.heap[i]?) (hsz : w.heap.size ≤ W.heap.size) (hos : W.os = w.os) (htape : W.tape = w.tape) (hout : W.output = w.output)
    (hfit : k.es.length * k.size ≤ cs.size) (hrows : RowsAt F ρ k.size k.es (cs[·]?) 0) :
    Step F ρ h w F (ρ.upd h.length ⟨w.heap.size, 0, k.size, cs.size⟩) (h ++ [some k]) W := by
  have hlt : ∀ i o, w.heap[i]? = some o → i < w.heap.size := fun i o e => (Array.getElem?_eq_some_iff.1 e).1
  have hold' : ∀ i o, w.heap[i]? = some o → W.heap[i]? = some o := fun i o e => (hold i (hlt i o e)).trans e
  have hext := Lay.upd_ext hr.low ⟨w.heap.size, 0, k.size, cs.size⟩
  refine ⟨FLe.refl F, hext, ⟨fun R o e => hold' R o (hr.frz R o e), ?_, ?_, ?_⟩, fun i hi _ => hold i hi, ?_, fun R o e => .inl e, by simp, fun b l' hb e => by rw [Lay.upd_other _ _ (Nat.ne_of_lt hb)] at e; exact e, hsz, hos, htape, hout⟩
  · intro b k' hb
    rcases getElem?_app hb with ⟨hb, hlt'⟩ | ⟨rfl, hk⟩
    · obtain ⟨l, hl, hF, cs', hc, h1, h2, h3, h4⟩ := hr.liv b k' hb
      exact ⟨l, hext b l hl, hF, cs', hold' _ _ hc, h1, h2, h3, RowsAt.move (n := h.length) (FLe.refl F) (fun b l _ e => hext b l e) _ _ _ _ _ (RowsAt.bel hr.low _ _ _ _ h4) (fun i u e => e) h4⟩
    · cases hk
      refine ⟨_, Lay.upd_same _ _ _, ?_, cs, hnew, rfl, rfl, by simpa using hfit, RowsAt.move (n := h.length) (FLe.refl F) (fun b l _ e => hext b l e) _ _ _ _ _ (RowsAt.bel hr.low _ _ _ _ hrows) (fun i u e => e) hrows⟩
      cases e : F w.heap.size with
      | none => rfl
      | some o => exact absurd (hlt _ _ (hr.frz _ _ e)) (Nat.lt_irrefl _)
  · intro b b' k1 k2 l l' hb hb' hl hl' hR
    rcases getElem?_app hb with ⟨hb, hlt1⟩ | ⟨rfl, hk⟩
    · rw [Lay.upd_other _ _ (Nat.ne_of_lt hlt1)] at hl
      rcases getElem?_app hb' with ⟨hb', hlt2⟩ | ⟨rfl, hk'⟩
      · rw [Lay.upd_other _ _ (Nat.ne_of_lt hlt2)] at hl'
        exact hr.inj b b' k1 k2 l l' hb hb' hl hl' hR
      · rw [Lay.upd_same] at hl'; cases hl'
        obtain ⟨l2, hl2, hF, cs', hc, _⟩ := hr.liv b k1 hb
        rw [hl] at hl2; cases hl2
        exact absurd (hR ▸ hlt _ _ hc) (Nat.lt_irrefl _)
    · rw [Lay.upd_same] at hl; cases hl
      rcases getElem?_app hb' with ⟨hb', hlt2⟩ | ⟨rfl, hk'⟩
      · rw [Lay.upd_other _ _ (Nat.ne_of_lt hlt2)] at hl'
        obtain ⟨l2, hl2, hF, cs', hc, _⟩ := hr.liv b' k2 hb'
        rw [hl'] at hl2; cases hl2
        have := hlt _ _ hc
        simp at hR
        omega
      · rfl
  · intro b l e
    simp only [List.length_append, List.length_cons, List.length_nil]
    by_cases hb : b = h.length
    · omega
    · rw [Lay.upd_other _ _ hb] at e
      have := hr.low b l e
      omega
  · rintro i ⟨b, k', l, hb, hl, hR⟩ hi
    rcases getElem?_app hb with ⟨hb, hlt1⟩ | ⟨rfl, hk⟩
    · rw [Lay.upd_other _ _ (Nat.ne_of_lt hlt1)] at hl
      exact ⟨b, k', l, hb, hl, hR⟩
    · rw [Lay.upd_same] at hl; cases hl
      simp at hR; omega

/-- A world that differs in its count of draws alone. -/
theorem Rel.of_heap {F : Frz} {ρ : Lay} {h : Heap} {w W : World} (hr : Rel F ρ h w) (e : W.heap = w.heap) : Rel F ρ h W :=
  ⟨fun R o k => by rw [e]; exact hr.frz R o k, fun b k hb => by
    obtain ⟨l, h1, h2, cs, h3, h4⟩ := hr.liv b k hb
    exact ⟨l, h1, h2, cs, by rw [e]; exact h3, h4⟩, hr.inj, hr.low⟩
theorem Step.of_heap {F : Frz} {ρ : Lay} {h : Heap} {w W : World} (hr : Rel F ρ h w) (e : W.heap = w.heap) (ho : W.os = w.os) (ht : W.tape = w.tape) (hout : W.output = w.output) : Step F ρ h w F ρ h W :=
  ⟨FLe.refl F, fun _ _ k => k, hr.of_heap e, fun i _ _ => by rw [e], fun _ k _ => k, fun _ _ k => .inl k, Nat.le_refl _, fun _ _ _ k => k, by rw [e]; exact Nat.le_refl _, ho, ht, hout⟩

/-- A live block gets other elements: what is written lies in its real block. 'b1' may be the block itself or another number for the same place (a slice that was appended to in its own array). -/
theorem Step.write {F : Frz} {ρ : Lay} {h : Heap} {w W : World} (hr : Rel F ρ h w) {b : Nat} {k : Blk} {l : Loc} (hb : h[b]? = some (some k)) (hl : ρ b = some l)
    (cs' : Array Value) (es' : List (List IV)) (hnew : W.heap[l.R]? = some (.cells cs' k.ty (0, 0))) (hold : ∀ i, i ≠ l.R → W.heap[i]? = w.heap[i]?) (hsz : W.heap.size = w.heap.size)
    (hos : W.os = w.os) (htape : W.tape = w.tape) (hout : W.output = w.output) (htot : cs'.size = l.tot) (hfit : l.base + es'.length * k.size ≤ cs'.size) (hrows : RowsAt F ρ k.size es' (cs'[·]?) l.base) :
    Step F ρ h w F ρ (h.set b (some { k with es := es' })) W := by
  have hF : F l.R = none := by
    obtain ⟨l', hl', hF, _⟩ := hr.liv b k hb
    rw [hl] at hl'; cases hl'; exact hF
  have hsize : l.size = k.size := by
    obtain ⟨l', hl', hF, cs, _, _, h2, _⟩ := hr.liv b k hb
    rw [hl] at hl'; cases hl'; exact h2
  have hlen : b < h.length := hr.low b l hl
  have hset : ∀ (c : Nat) (x : Option Blk), (h.set b (some { k with es := es' }))[c]? = some x → c = b ∧ x = some { k with es := es' } ∨ c ≠ b ∧ h[c]? = some x := by
    intro c x e
    by_cases hc : c = b
    · subst hc; simp [hlen] at e; exact .inl ⟨rfl, e.symm⟩
    · rw [List.getElem?_set_ne (Ne.symm hc)] at e; exact .inr ⟨hc, e⟩
  have hlive : ∀ (c : Nat) (k' : Blk), (h.set b (some { k with es := es' }))[c]? = some (some k') → ∃ k'' : Blk, h[c]? = some (some k'') := by
    intro c k' e
    rcases hset c _ e with ⟨rfl, _⟩ | ⟨_, e⟩
    · exact ⟨k, hb⟩
    · exact ⟨k', e⟩
  refine ⟨FLe.refl F, fun _ _ e => e, ⟨?_, ?_, ?_, ?_⟩, ?_, ?_, fun R o e => .inl e, by simp, fun _ _ _ e => e, by omega, hos, htape, hout⟩
  · intro R o e
    rw [hold R (fun e' => by rw [e', hF] at e; cases e)]
    exact hr.frz R o e
  · intro c k' e
    rcases hset c _ e with ⟨rfl, hk⟩ | ⟨hne, e⟩
    · cases hk
      exact ⟨l, hl, hF, cs', hnew, htot.symm, hsize, hfit, hrows⟩
    · obtain ⟨l', hl', hF', cs, hc, h1⟩ := hr.liv c k' e
      refine ⟨l', hl', hF', cs, ?_, h1⟩
      rw [hold l'.R (fun e' => hne (hr.inj c b k' k l' l e hb hl' hl e'))]
      exact hc
  · intro c c' k1 k2 l1 l2 e e' h1 h2 hR
    obtain ⟨k3, e3⟩ := hlive c k1 e
    obtain ⟨k4, e4⟩ := hlive c' k2 e'
    exact hr.inj c c' k3 k4 l1 l2 e3 e4 h1 h2 hR
  · intro c l' e
    simpa using hr.low c l' e
  · intro i _ hn
    exact hold i fun e => hn ⟨b, k, l, hb, hl, e.symm⟩
  · rintro i ⟨c, k', l', e, h1, h2⟩ _
    obtain ⟨k3, e3⟩ := hlive c k' e
    exact ⟨c, k3, l', e3, h1, h2⟩

/-- A live block is no longer followed. -/
theorem Rel.kill {F : Frz} {ρ : Lay} {h : Heap} {w : World} (hr : Rel F ρ h w) (b : Nat) : Rel F ρ (h.set b none) w ∧ ∀ i, Img (h.set b none) ρ i → Img h ρ i := by
  have hset : ∀ (c : Nat) (k : Blk), (h.set b none)[c]? = some (some k) → c ≠ b ∧ h[c]? = some (some k) := by
    intro c k e
    by_cases hc : c = b
    · subst hc; rw [List.getElem?_set] at e; simp at e
    · rw [List.getElem?_set_ne (Ne.symm hc)] at e; exact ⟨hc, e⟩
  refine ⟨⟨hr.frz, fun c k e => hr.liv c k (hset c k e).2, fun c c' k1 k2 l1 l2 e e' => hr.inj c c' k1 k2 l1 l2 (hset c k1 e).2 (hset c' k2 e').2, fun c l e => by simpa using hr.low c l e⟩, ?_⟩
  rintro i ⟨c, k, l, e, h1, h2⟩
  exact ⟨c, k, l, (hset c k e).2, h1, h2⟩
theorem Step.kill {F : Frz} {ρ : Lay} {h : Heap} {w : World} (hr : Rel F ρ h w) (b : Nat) : Step F ρ h w F ρ (h.set b none) w :=
  ⟨FLe.refl F, fun _ _ k => k, (hr.kill b).1, fun _ _ _ => rfl, fun i k _ => (hr.kill b).2 i k, fun _ _ k => .inl k, by simp, fun _ _ _ e => e, Nat.le_refl _, rfl, rfl, rfl⟩

/-- The blocks from number n on are dropped; what stays names none of them. -/
theorem Step.drop {F : Frz} {ρ : Lay} {h : Heap} {w : World} (hr : Rel F ρ h w) (n : Nat) (hn : n ≤ h.length) (hbel : ∀ b k, b < n → h[b]? = some (some k) → Belss n k.es) :
    Rel F (fun b => if b < n then ρ b else none) (h.take n) w ∧ ∀ i, Img (h.take n) (fun b => if b < n then ρ b else none) i → Img h ρ i := by
  have htk : ∀ (b : Nat) (k : Blk), (h.take n)[b]? = some (some k) → b < n ∧ h[b]? = some (some k) := by
    intro b k e
    rw [List.getElem?_take] at e
    split at e
    · rename_i hb; exact ⟨hb, e⟩
    · cases e
  refine ⟨⟨hr.frz, ?_, ?_, ?_⟩, ?_⟩
  · intro b k e
    obtain ⟨hb, e⟩ := htk b k e
    obtain ⟨l, hl, hF, cs, h1, h2, h3, h4, h5⟩ := hr.liv b k e
    exact ⟨l, by simp [hb, hl], hF, cs, h1, h2, h3, h4, RowsAt.move (n := n) (FLe.refl F) (fun b l hb e => by simp [hb, e]) _ _ _ _ _ (hbel b k hb e) (fun i u e => e) h5⟩
  · intro b b' k k' l l' e e' h1 h2 h3
    obtain ⟨hb, e⟩ := htk b k e
    obtain ⟨hb', e'⟩ := htk b' k' e'
    simp only [hb, hb', if_true] at h1 h2
    exact hr.inj b b' k k' l l' e e' h1 h2 h3
  · intro b l e
    split at e
    · rename_i hb
      simp only [List.length_take]
      omega
    · cases e
  · rintro i ⟨b, k, l, e, h1, h2⟩
    obtain ⟨hb, e⟩ := htk b k e
    simp only [hb, if_true] at h1
    exact ⟨b, k, l, e, h1, h2⟩

/-- A live block is frozen: slices of it become values. -/
theorem Step.freeze {F : Frz} {ρ : Lay} {h : Heap} {w : World} (hr : Rel F ρ h w) {b : Nat} {k : Blk} (hb : h[b]? = some (some k)) :
    ∃ F', Step F ρ h w F' ρ (h.set b none) w ∧ ∀ lo len u, lo + len ≤ k.es.length → VR F ρ (.sl b lo len) u → VR F' ρ (.vs k.size ((k.es.drop lo).take len)) u := by
  obtain ⟨l, hl, hF, cs, hc, h1, h2, h3, h4⟩ := hr.liv b k hb
  let F' : Frz := fun R => if R = l.R then some (.cells cs k.ty (0, 0)) else F R
  have hle : FLe F F' := fun R o e => by
    show (if R = l.R then _ else F R) = some o
    rw [if_neg (fun e' => by rw [e', hF] at e; cases e)]
    exact e
  have hset : ∀ (c : Nat) (k' : Blk), (h.set b none)[c]? = some (some k') → c ≠ b ∧ h[c]? = some (some k') := by
    intro c k' e
    by_cases hc : c = b
    · subst hc; rw [List.getElem?_set] at e; simp at e
    · rw [List.getElem?_set_ne (Ne.symm hc)] at e; exact ⟨hc, e⟩
  refine ⟨F', ⟨hle, fun _ _ e => e, ⟨?_, ?_, ?_, ?_⟩, fun _ _ _ => rfl, fun i e _ => (hr.kill b).2 i e, ?_, by simp, fun _ _ _ e => e, Nat.le_refl _, rfl, rfl, rfl⟩, ?_⟩
  · intro R o e
    by_cases hR : R = l.R
    · subst hR; simp [F'] at e; rw [← e]; exact hc
    · simp [F', hR] at e; exact hr.frz R o e
  · intro c k' e
    obtain ⟨hne, e⟩ := hset c k' e
    obtain ⟨l', hl', hF', cs', g1, g2, g3, g4, g5⟩ := hr.liv c k' e
    have hR : l'.R ≠ l.R := fun e' => hne (hr.inj c b k' k l' l e hb hl' hl e')
    exact ⟨l', hl', by simp [F', hR, hF'], cs', g1, g2, g3, g4, RowsAt.move (n := h.length) hle (fun _ _ _ e => e) _ _ _ _ _ (RowsAt.bel hr.low _ _ _ _ g5) (fun _ _ e => e) g5⟩
  · intro c c' k1 k2 l1 l2 e e'
    exact hr.inj c c' k1 k2 l1 l2 (hset c k1 e).2 (hset c' k2 e').2
  · intro c l' e
    simpa using hr.low c l' e
  · intro R o e
    by_cases hR : R = l.R
    · exact .inr (.inr ⟨b, k, l, hb, hl, hR.symm⟩)
    · simp [F', hR] at e; exact .inl e
  · intro lo len u hlen hv
    simp only [VR] at hv ⊢
    obtain ⟨l', A, c, hl', hu, hlc, hor⟩ := hv
    rw [hl] at hl'; cases hl'
    have hlen' : ((k.es.drop lo).take len).length = len := by simp; omega
    refine ⟨some A, c, by rw [hlen']; exact hu, by rw [hlen']; exact hlc, fun hne => ?_⟩
    have hpos : 0 < len := by
      rcases Nat.eq_zero_or_pos len with h0 | h0
      · subst h0; simp at hne
      · exact h0
    rcases hor with ⟨h0, _⟩ | ⟨hA, _⟩
    · omega
    · refine ⟨l.R, l.base + lo * l.size, congrArg some hA, ?_⟩
      have hrows := RowsAt.take len (RowsAt.drop lo h4)
      rw [← h2] at hrows ⊢
      exact RowsAt.move (n := h.length) hle (fun _ _ _ e => e) _ _ _ _ _ (RowsAt.bel hr.low _ _ _ _ hrows) (fun i u e => by simp only [fcell, F']; simpa using e) hrows

end Go.Ideal
