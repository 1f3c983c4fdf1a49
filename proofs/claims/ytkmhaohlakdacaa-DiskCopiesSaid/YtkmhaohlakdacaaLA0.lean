/- Part of a proof: functions of the program over an ideal memory, and what they compute. No condition. -/
import Derived.Tactics
import Derived.Orders
import Derived.KernelRfl
import Derived.Laws.CopyRow
import Derived.ArgAppend
import Derived.Laws.MakeOwn
import Derived.Great.BuildSlice
import Derived.Laws.StructEq
import Derived.Laws.BytesArg
import Derived.WalkSpells
set_option linter.unusedVariables false
set_option linter.unusedSimpArgs false
namespace Go.Ideal
inductive IV where
  | any
  | bool (b : Bool)
  | int (k : IntKind) (n : Int)
  | str (s : ByteArray)
  | nil
  | ptr (b i o : Nat)
  | fptr (cs : List IV)
  | snil
  | sl (b lo len : Nat)
  | vs (s : Nat) (es : List (List IV))
  | fn (f : FuncId) (caps : List IV)
  | agg (cs : List IV)
  | tup (cs : List IV)
  deriving Inhabited
structure Loc where
  R : Nat
  base : Nat
  size : Nat
  tot : Nat
abbrev Frz := Nat → Option Obj
abbrev Lay := Nat → Option Loc
def fcell (F : Frz) (R : Nat) (off : Nat) : Option Value :=
  match F R with
  | some (.cells c _ _) => c[off]?
  | _ => none
mutual
def VR (F : Frz) (ρ : Lay) : IV → Value → Prop
  | .any, _ => True
  | .bool b, v => v = .bool b
  | .int k n, v => v = .int k n
  | .str s, v => v = .string s
  | .nil, v => v = .pointer none
  | .ptr b i o, v => ∃ l, ρ b = some l ∧ v = .pointer (some ⟨l.R, l.base + i * l.size + o, none⟩)
  | .fptr cs, v => ∃ R off, v = .pointer (some ⟨R, off, none⟩) ∧ CellsAt F ρ cs (fcell F R) off
  | .snil, v => v = .slice none 0 0
  | .sl b lo len, v => ∃ l a c, ρ b = some l ∧ v = .slice (some a) len c ∧ len ≤ c ∧
      (len = 0 ∧ c = 0 ∨ a = ⟨l.R, l.base + lo * l.size, none⟩ ∧ l.base + (lo + c) * l.size ≤ l.tot)
  | .vs s es, v => ∃ A c, v = .slice A es.length c ∧ es.length ≤ c ∧
      (es ≠ [] → ∃ R off, A = some ⟨R, off, none⟩ ∧ RowsAt F ρ s es (fcell F R) off)
  | .fn f caps, v => ∃ us, v = .func (.func f) #[] us ∧ VRs F ρ caps us.toList
  | .agg cs, v => ∃ us, v = .agg us ∧ VRs F ρ cs us.toList
  | .tup cs, v => ∃ us, v = .tuple us ∧ VRs F ρ cs us.toList
def VRs (F : Frz) (ρ : Lay) : List IV → List Value → Prop
  | [], us => us = []
  | v :: vs, us => ∃ u us', us = u :: us' ∧ VR F ρ v u ∧ VRs F ρ vs us'
def CellsAt (F : Frz) (ρ : Lay) : List IV → (Nat → Option Value) → Nat → Prop
  | [], _, _ => True
  | v :: vs, g, off => (∃ u, g off = some u ∧ VR F ρ v u) ∧ CellsAt F ρ vs g (off + 1)
def RowsAt (F : Frz) (ρ : Lay) (s : Nat) : List (List IV) → (Nat → Option Value) → Nat → Prop
  | [], _, _ => True
  | e :: es, g, off => e.length = s ∧ CellsAt F ρ e g off ∧ RowsAt F ρ s es g (off + s)
end
mutual
/-- No reference to a live block from number n on. -/
def Bel (n : Nat) : IV → Prop
  | .ptr b _ _ => b < n
  | .sl b _ _ => b < n
  | .fptr cs => Bels n cs
  | .vs _ es => Belss n es
  | .fn _ cs => Bels n cs
  | .agg cs => Bels n cs
  | .tup cs => Bels n cs
  | _ => True
def Bels (n : Nat) : List IV → Prop
  | [] => True
  | v :: vs => Bel n v ∧ Bels n vs
def Belss (n : Nat) : List (List IV) → Prop
  | [] => True
  | v :: vs => Bels n v ∧ Belss n vs
end
def FLe (F F' : Frz) : Prop := ∀ R o, F R = some o → F' R = some o
theorem FLe.refl (F : Frz) : FLe F F := fun _ _ h => h
theorem FLe.trans {F F' F'' : Frz} (h : FLe F F') (h' : FLe F' F'') : FLe F F'' := fun R o k => h' R o (h R o k)
theorem fcell_le {F F' : Frz} (h : FLe F F') {R off : Nat} {u : Value} (k : fcell F R off = some u) : fcell F' R off = some u := by
  unfold fcell at *
  cases e : F R with
  | none => rw [e] at k; cases k
  | some o => rw [e] at k; rw [h R o e]; exact k
mutual
theorem VR.move {F F' : Frz} {ρ ρ' : Lay} {n : Nat} (hF : FLe F F') (hρ : ∀ b l, b < n → ρ b = some l → ρ' b = some l) : ∀ (v : IV) (u : Value), Bel n v → VR F ρ v u → VR F' ρ' v u
  | .any, _, _, _ => by simp [VR]
  | .bool _, _, _, h => by simpa [VR] using h
  | .int _ _, _, _, h => by simpa [VR] using h
  | .str _, _, _, h => by simpa [VR] using h
  | .nil, _, _, h => by simpa [VR] using h
  | .ptr b i o, _, hb, h => by
    simp only [VR, Bel] at *
    obtain ⟨l, hl, hv⟩ := h
    exact ⟨l, hρ _ _ hb hl, hv⟩
  | .fptr cs, _, hb, h => by
    simp only [VR, Bel] at *
    obtain ⟨R, off, hv, hc⟩ := h
    exact ⟨R, off, hv, CellsAt.move hF hρ cs _ _ off hb (fun i u hu => fcell_le hF hu) hc⟩
  | .snil, _, _, h => by simpa [VR] using h
  | .sl b lo len, _, hb, h => by
    simp only [VR, Bel] at *
    obtain ⟨l, A, c, hl, hv⟩ := h
    exact ⟨l, A, c, hρ _ _ hb hl, hv⟩
  | .vs s es, _, hb, h => by
    simp only [VR, Bel] at *
    obtain ⟨A, c, hv, hc, hr⟩ := h
    refine ⟨A, c, hv, hc, fun hne => ?_⟩
    obtain ⟨R, off, hA, hrows⟩ := hr hne
    exact ⟨R, off, hA, RowsAt.move hF hρ s es _ _ off hb (fun i u hu => fcell_le hF hu) hrows⟩
  | .fn f cs, _, hb, h => by
    simp only [VR, Bel] at *
    obtain ⟨us, hv, hc⟩ := h
    exact ⟨us, hv, VRs.move hF hρ cs _ hb hc⟩
  | .agg cs, _, hb, h => by
    simp only [VR, Bel] at *
    obtain ⟨us, hv, hc⟩ := h
    exact ⟨us, hv, VRs.move hF hρ cs _ hb hc⟩
  | .tup cs, _, hb, h => by
    simp only [VR, Bel] at *
    obtain ⟨us, hv, hc⟩ := h
    exact ⟨us, hv, VRs.move hF hρ cs _ hb hc⟩
theorem VRs.move {F F' : Frz} {ρ ρ' : Lay} {n : Nat} (hF : FLe F F') (hρ : ∀ b l, b < n → ρ b = some l → ρ' b = some l) : ∀ (vs : List IV) (us : List Value), Bels n vs → VRs F ρ vs us → VRs F' ρ' vs us
  | [], _, _, h => by simpa [VRs] using h
  | v :: vs, _, hb, h => by
    simp only [VRs, Bels] at *
    obtain ⟨u, us', he, h1, h2⟩ := h
    exact ⟨u, us', he, VR.move hF hρ v u hb.1 h1, VRs.move hF hρ vs us' hb.2 h2⟩
theorem CellsAt.move {F F' : Frz} {ρ ρ' : Lay} {n : Nat} (hF : FLe F F') (hρ : ∀ b l, b < n → ρ b = some l → ρ' b = some l) : ∀ (vs : List IV) (g g' : Nat → Option Value) (off : Nat), Bels n vs →
    (∀ i u, g i = some u → g' i = some u) → CellsAt F ρ vs g off → CellsAt F' ρ' vs g' off
  | [], _, _, _, _, _, _ => by simp [CellsAt]
  | v :: vs, g, g', off, hb, hg, h => by
    simp only [CellsAt, Bels] at *
    obtain ⟨⟨u, hu, h1⟩, h2⟩ := h
    exact ⟨⟨u, hg _ _ hu, VR.move hF hρ v u hb.1 h1⟩, CellsAt.move hF hρ vs g g' _ hb.2 hg h2⟩
theorem RowsAt.move {F F' : Frz} {ρ ρ' : Lay} {n : Nat} (hF : FLe F F') (hρ : ∀ b l, b < n → ρ b = some l → ρ' b = some l) (s : Nat) : ∀ (es : List (List IV)) (g g' : Nat → Option Value) (off : Nat), Belss n es →
    (∀ i u, g i = some u → g' i = some u) → RowsAt F ρ s es g off → RowsAt F' ρ' s es g' off
  | [], _, _, _, _, _, _ => by simp [RowsAt]
  | e :: es, g, g', off, hb, hg, h => by
    simp only [RowsAt, Belss] at *
    exact ⟨h.1, CellsAt.move hF hρ e g g' off hb.1 hg h.2.1, RowsAt.move hF hρ s es g g' _ hb.2 hg h.2.2⟩
end
mutual
/-- Related values name only numbers that are laid. -/
theorem VR.bel {F : Frz} {ρ : Lay} {n : Nat} (hρ : ∀ b l, ρ b = some l → b < n) : ∀ (v : IV) (u : Value), VR F ρ v u → Bel n v
  | .any, _, _ => by simp [Bel]
  | .bool _, _, _ => by simp [Bel]
  | .int _ _, _, _ => by simp [Bel]
  | .str _, _, _ => by simp [Bel]
  | .nil, _, _ => by simp [Bel]
  | .ptr b i o, _, h => by
    simp only [VR, Bel] at *
    obtain ⟨l, hl, _⟩ := h
    exact hρ _ _ hl
  | .fptr cs, _, h => by
    simp only [VR, Bel] at *
    obtain ⟨R, off, hv, hc⟩ := h
    exact CellsAt.bel hρ cs _ off hc
  | .snil, _, _ => by simp [Bel]
  | .sl b lo len, _, h => by
    simp only [VR, Bel] at *
    obtain ⟨l, A, c, hl, hv⟩ := h
    exact hρ _ _ hl
  | .vs s es, _, h => by
    simp only [VR, Bel] at *
    obtain ⟨A, c, hv, hc, hr⟩ := h
    cases es with
    | nil => simp [Belss]
    | cons e es =>
      obtain ⟨R, off, hA, hrows⟩ := hr (by simp)
      exact RowsAt.bel hρ s (e :: es) _ off hrows
  | .fn f cs, _, h => by
    simp only [VR, Bel] at *
    obtain ⟨us, hv, hc⟩ := h
    exact VRs.bel hρ cs _ hc
  | .agg cs, _, h => by
    simp only [VR, Bel] at *
    obtain ⟨us, hv, hc⟩ := h
    exact VRs.bel hρ cs _ hc
  | .tup cs, _, h => by
    simp only [VR, Bel] at *
    obtain ⟨us, hv, hc⟩ := h
    exact VRs.bel hρ cs _ hc
theorem VRs.bel {F : Frz} {ρ : Lay} {n : Nat} (hρ : ∀ b l, ρ b = some l → b < n) : ∀ (vs : List IV) (us : List Value), VRs F ρ vs us → Bels n vs
  | [], _, _ => by simp [Bels]
  | v :: vs, _, h => by
    simp only [VRs, Bels] at *
    obtain ⟨u, us', he, h1, h2⟩ := h
    exact ⟨VR.bel hρ v u h1, VRs.bel hρ vs us' h2⟩
theorem CellsAt.bel {F : Frz} {ρ : Lay} {n : Nat} (hρ : ∀ b l, ρ b = some l → b < n) : ∀ (vs : List IV) (g : Nat → Option Value) (off : Nat), CellsAt F ρ vs g off → Bels n vs
  | [], _, _, _ => by simp [Bels]
  | v :: vs, g, off, h => by
    simp only [CellsAt, Bels] at *
    obtain ⟨⟨u, hu, h1⟩, h2⟩ := h
    exact ⟨VR.bel hρ v u h1, CellsAt.bel hρ vs g _ h2⟩
theorem RowsAt.bel {F : Frz} {ρ : Lay} {n : Nat} (hρ : ∀ b l, ρ b = some l → b < n) (s : Nat) : ∀ (es : List (List IV)) (g : Nat → Option Value) (off : Nat), RowsAt F ρ s es g off → Belss n es
  | [], _, _, _ => by simp [Belss]
  | e :: es, g, off, h => by
    simp only [RowsAt, Belss] at *
    exact ⟨CellsAt.bel hρ e g off h.2.1, RowsAt.bel hρ s es g _ h.2.2⟩
end
structure Blk where
  size : Nat
  ty : TypeId
  es : List (List IV)
abbrev Heap := List (Option Blk)
def BlkRel (F : Frz) (ρ : Lay) (k : Blk) (l : Loc) (w : World) : Prop :=
  ∃ cs : Array Value, w.heap[l.R]? = some (.cells cs k.ty (0, 0)) ∧ l.tot = cs.size ∧ l.size = k.size ∧ l.base + k.es.length * k.size ≤ cs.size ∧ RowsAt F ρ k.size k.es (cs[·]?) l.base
structure Rel (F : Frz) (ρ : Lay) (h : Heap) (w : World) : Prop where
  frz : ∀ R o, F R = some o → w.heap[R]? = some o
  liv : ∀ b k, h[b]? = some (some k) → ∃ l, ρ b = some l ∧ F l.R = none ∧ BlkRel F ρ k l w
  inj : ∀ b b' k k' l l', h[b]? = some (some k) → h[b']? = some (some k') → ρ b = some l → ρ b' = some l' → l.R = l'.R → b = b'
  low : ∀ b l, ρ b = some l → b < h.length
def Img (h : Heap) (ρ : Lay) (i : Nat) : Prop := ∃ b k l, h[b]? = some (some k) ∧ ρ b = some l ∧ l.R = i
structure Step (F : Frz) (ρ : Lay) (h : Heap) (w : World) (F' : Frz) (ρ' : Lay) (h' : Heap) (w' : World) : Prop where
  fF : FLe F F'
  fρ : ∀ b l, ρ b = some l → ρ' b = some l
  rel : Rel F' ρ' h' w'
  frame : ∀ i, i < w.heap.size → ¬ Img h ρ i → w'.heap[i]? = w.heap[i]?
  img : ∀ i, Img h' ρ' i → i < w.heap.size → Img h ρ i
  newF : ∀ R o, F' R = some o → F R = some o ∨ w.heap.size ≤ R ∨ Img h ρ R
  len : h.length ≤ h'.length
  old : ∀ b l, b < h.length → ρ' b = some l → ρ b = some l
  size : w.heap.size ≤ w'.heap.size
  os : w'.os = w.os
  tape : w'.tape = w.tape
  output : w'.output = w.output
theorem Step.refl {F : Frz} {ρ : Lay} {h : Heap} {w : World} (hr : Rel F ρ h w) : Step F ρ h w F ρ h w :=
  ⟨FLe.refl F, fun _ _ k => k, hr, fun _ _ _ => rfl, fun _ k _ => k, fun _ _ k => .inl k, Nat.le_refl _, fun _ _ _ k => k, Nat.le_refl _, rfl, rfl, rfl⟩
theorem Step.trans {F F1 F2 : Frz} {ρ ρ1 ρ2 : Lay} {h h1 h2 : Heap} {w w1 w2 : World} (s : Step F ρ h w F1 ρ1 h1 w1) (t : Step F1 ρ1 h1 w1 F2 ρ2 h2 w2) : Step F ρ h w F2 ρ2 h2 w2 where
  fF := s.fF.trans t.fF
  fρ := fun b l k => t.fρ b l (s.fρ b l k)
  rel := t.rel
  frame := fun i hi hn => by
    have h1 : ¬ Img h1 ρ1 i := fun k => hn (s.img i k hi)
    rw [t.frame i (Nat.lt_of_lt_of_le hi s.size) h1, s.frame i hi hn]
  img := fun i k hi => s.img i (t.img i k (Nat.lt_of_lt_of_le hi s.size)) hi
  newF := fun R o k => by
    rcases t.newF R o k with k | k | k
    · exact s.newF R o k
    · exact .inr (.inl (Nat.le_trans s.size k))
    · by_cases hR : R < w.heap.size
      · exact .inr (.inr (s.img R k hR))
      · exact .inr (.inl (by omega))
  len := Nat.le_trans s.len t.len
  old := fun b l hb k => s.old b l hb (t.old b l (Nat.lt_of_lt_of_le hb s.len) k)
  size := Nat.le_trans s.size t.size
  os := t.os.trans s.os
  tape := t.tape.trans s.tape
  output := t.output.trans s.output
theorem Step.vr {F F' : Frz} {ρ ρ' : Lay} {h h' : Heap} {w w' : World} (s : Step F ρ h w F' ρ' h' w') {v : IV} {u : Value} (k : VR F ρ v u) (hr : Rel F ρ h w) : VR F' ρ' v u :=
  VR.move (n := h.length) s.fF (fun b l _ hl => s.fρ b l hl) v u (VR.bel hr.low v u k) k
theorem VR.mono {F F' : Frz} {ρ ρ' : Lay} {n : Nat} (hn : ∀ b l, ρ b = some l → b < n) (hF : FLe F F') (hρ : ∀ b l, ρ b = some l → ρ' b = some l) {v : IV} {u : Value} (k : VR F ρ v u) : VR F' ρ' v u :=
  VR.move (n := n) hF (fun b l _ hl => hρ b l hl) v u (VR.bel hn v u k) k
end Go.Ideal
namespace Go.Ideal
theorem VRs.iff {F : Frz} {ρ : Lay} : ∀ {vs : List IV} {us : List Value}, VRs F ρ vs us ↔ vs.length = us.length ∧ ∀ (j : Nat) (v : IV) (u : Value), vs[j]? = some v → us[j]? = some u → VR F ρ v u
  | [], us => by cases us <;> simp [VRs]
  | v :: vs, us => by
    simp only [VRs]
    constructor
    · rintro ⟨u, us', rfl, h1, h2⟩
      obtain ⟨hl, hp⟩ := VRs.iff.1 h2
      refine ⟨by simp [hl], fun j v' u' hv hu => ?_⟩
      cases j with
      | zero => simp at hv hu; subst hv; subst hu; exact h1
      | succ j => exact hp j v' u' (by simpa using hv) (by simpa using hu)
    · rintro ⟨hl, hp⟩
      cases us with
      | nil => simp at hl
      | cons u us' =>
        exact ⟨u, us', rfl, hp 0 v u rfl rfl, VRs.iff.2 ⟨by simpa using hl, fun j v' u' hv hu => hp (j + 1) v' u' (by simpa using hv) (by simpa using hu)⟩⟩
theorem VRs.length {F : Frz} {ρ : Lay} {vs : List IV} {us : List Value} (h : VRs F ρ vs us) : vs.length = us.length := (VRs.iff.1 h).1
theorem VRs.get {F : Frz} {ρ : Lay} {vs : List IV} {us : List Value} (h : VRs F ρ vs us) {j : Nat} {v : IV} (hv : vs[j]? = some v) : ∃ u, us[j]? = some u ∧ VR F ρ v u := by
  obtain ⟨hl, hp⟩ := VRs.iff.1 h
  have hj : j < us.length := by rw [← hl]; exact (List.getElem?_eq_some_iff.1 hv).1
  exact ⟨us[j], List.getElem?_eq_getElem hj, hp j v _ hv (List.getElem?_eq_getElem hj)⟩
theorem VRs.getI {F : Frz} {ρ : Lay} {vs : List IV} {us : List Value} (h : VRs F ρ vs us) {j : Nat} {u : Value} (hv : us[j]? = some u) : ∃ v, vs[j]? = some v ∧ VR F ρ v u := by
  obtain ⟨hl, hp⟩ := VRs.iff.1 h
  have hj : j < vs.length := by rw [hl]; exact (List.getElem?_eq_some_iff.1 hv).1
  exact ⟨vs[j], List.getElem?_eq_getElem hj, hp j _ u (List.getElem?_eq_getElem hj) hv⟩
theorem VRs.append {F : Frz} {ρ : Lay} {vs vs' : List IV} {us us' : List Value} (h : VRs F ρ vs us) (h' : VRs F ρ vs' us') : VRs F ρ (vs ++ vs') (us ++ us') := by
  induction vs generalizing us with
  | nil => simp only [VRs] at h; subst h; simpa using h'
  | cons v vs ih =>
    simp only [VRs] at h
    obtain ⟨u, us1, rfl, h1, h2⟩ := h
    exact ⟨u, us1 ++ us', by simp, h1, ih h2⟩
theorem VRs.take {F : Frz} {ρ : Lay} {vs : List IV} {us : List Value} (h : VRs F ρ vs us) (n : Nat) : VRs F ρ (vs.take n) (us.take n) := by
  rw [VRs.iff] at *
  refine ⟨by simp [h.1], fun j v u hv hu => ?_⟩
  rw [List.getElem?_take] at hv hu
  split at hv
  · rename_i hj; rw [if_pos hj] at hu; exact h.2 j v u hv hu
  · cases hv
theorem VRs.drop {F : Frz} {ρ : Lay} {vs : List IV} {us : List Value} (h : VRs F ρ vs us) (n : Nat) : VRs F ρ (vs.drop n) (us.drop n) := by
  rw [VRs.iff] at *
  refine ⟨by simp [h.1], fun j v u hv hu => ?_⟩
  rw [List.getElem?_drop] at hv hu
  exact h.2 _ v u hv hu
theorem CellsAt.get {F : Frz} {ρ : Lay} {g : Nat → Option Value} : ∀ {cs : List IV} {off : Nat}, CellsAt F ρ cs g off → ∃ us : List Value, VRs F ρ cs us ∧ ∀ j u, us[j]? = some u → g (off + j) = some u
  | [], _, _ => ⟨[], by simp [VRs], by simp⟩
  | v :: vs, off, h => by
    simp only [CellsAt] at h
    obtain ⟨⟨u, hu, h1⟩, h2⟩ := h
    obtain ⟨us, hr, hg⟩ := CellsAt.get h2
    refine ⟨u :: us, ⟨u, us, rfl, h1, hr⟩, fun j u' hj => ?_⟩
    cases j with
    | zero => simp at hj; subst hj; simpa using hu
    | succ j => rw [← hg j u' (by simpa using hj)]; congr 1; omega
theorem CellsAt.mk {F : Frz} {ρ : Lay} {g : Nat → Option Value} : ∀ {cs : List IV} {us : List Value} {off : Nat}, VRs F ρ cs us → (∀ j u, us[j]? = some u → g (off + j) = some u) → CellsAt F ρ cs g off
  | [], _, _, _, _ => by simp [CellsAt]
  | v :: vs, us, off, h, hg => by
    simp only [VRs] at h
    obtain ⟨u, us', rfl, h1, h2⟩ := h
    exact ⟨⟨u, by simpa using hg 0 u rfl, h1⟩, CellsAt.mk h2 fun j u' hj => by rw [← hg (j + 1) u' (by simpa using hj)]; congr 1; omega⟩
theorem CellsAt.drop {F : Frz} {ρ : Lay} {g : Nat → Option Value} : ∀ {cs : List IV} {off : Nat} (n : Nat), CellsAt F ρ cs g off → CellsAt F ρ (cs.drop n) g (off + n)
  | cs, off, 0, h => by simpa using h
  | [], off, n + 1, _ => by simp [CellsAt]
  | v :: vs, off, n + 1, h => by
    simp only [CellsAt] at h
    have := CellsAt.drop n h.2
    simpa [show off + 1 + n = off + (n + 1) by omega] using this
theorem CellsAt.take {F : Frz} {ρ : Lay} {g : Nat → Option Value} : ∀ {cs : List IV} {off : Nat} (n : Nat), CellsAt F ρ cs g off → CellsAt F ρ (cs.take n) g off
  | cs, off, 0, h => by simp [CellsAt]
  | [], off, n + 1, _ => by simp [CellsAt]
  | v :: vs, off, n + 1, h => by
    simp only [CellsAt] at h
    simpa [CellsAt] using ⟨h.1, CellsAt.take n h.2⟩
theorem CellsAt.append {F : Frz} {ρ : Lay} {g : Nat → Option Value} : ∀ {cs ds : List IV} {off : Nat}, CellsAt F ρ cs g off → CellsAt F ρ ds g (off + cs.length) → CellsAt F ρ (cs ++ ds) g off
  | [], ds, off, _, h => by simpa using h
  | v :: vs, ds, off, h, h' => by
    simp only [CellsAt, List.cons_append] at *
    exact ⟨h.1, CellsAt.append h.2 (by simpa [show off + 1 + vs.length = off + (vs.length + 1) by omega] using h')⟩
theorem CellsAt.sub {F : Frz} {ρ : Lay} {g g' : Nat → Option Value} : ∀ {cs : List IV} {off : Nat}, CellsAt F ρ cs g off → (∀ j u, off ≤ j → j < off + cs.length → g j = some u → g' j = some u) → CellsAt F ρ cs g' off
  | [], _, _, _ => by simp [CellsAt]
  | v :: vs, off, h, hg => by
    simp only [CellsAt] at *
    obtain ⟨⟨u, hu, h1⟩, h2⟩ := h
    exact ⟨⟨u, hg off u (Nat.le_refl _) (by simp) hu, h1⟩, CellsAt.sub h2 fun j u' h1 h2 h3 => hg j u' (by omega) (by simp at h2 ⊢; omega) h3⟩
theorem CellsAt.shift {F : Frz} {ρ : Lay} {g g' : Nat → Option Value} : ∀ {cs : List IV} {off off' : Nat}, CellsAt F ρ cs g off → (∀ j u, j < cs.length → g (off + j) = some u → g' (off' + j) = some u) → CellsAt F ρ cs g' off'
  | [], _, _, _, _ => by simp [CellsAt]
  | v :: vs, off, off', h, hg => by
    simp only [CellsAt] at *
    obtain ⟨⟨u, hu, h1⟩, h2⟩ := h
    exact ⟨⟨u, by simpa using hg 0 u (by simp) (by simpa using hu), h1⟩, CellsAt.shift h2 fun j u' hj h3 => by
      have := hg (j + 1) u' (by simp; omega) (by rw [← h3]; congr 1; omega)
      rw [← this]; congr 1; omega⟩
theorem RowsAt.get {F : Frz} {ρ : Lay} {s : Nat} {g : Nat → Option Value} : ∀ {es : List (List IV)} {off i : Nat} {e : List IV}, RowsAt F ρ s es g off → es[i]? = some e → e.length = s ∧ CellsAt F ρ e g (off + i * s)
  | [], _, _, _, _, h => by simp at h
  | e0 :: es, off, i, e, h, he => by
    simp only [RowsAt] at h
    cases i with
    | zero => simp at he; subst he; simpa using ⟨h.1, h.2.1⟩
    | succ i =>
      have := RowsAt.get h.2.2 (by simpa using he : es[i]? = some e)
      rw [show off + (i + 1) * s = off + s + i * s by rw [Nat.add_mul]; omega]
      exact this
theorem RowsAt.drop {F : Frz} {ρ : Lay} {s : Nat} {g : Nat → Option Value} : ∀ {es : List (List IV)} {off : Nat} (n : Nat), RowsAt F ρ s es g off → RowsAt F ρ s (es.drop n) g (off + n * s)
  | es, off, 0, h => by simpa using h
  | [], off, n + 1, _ => by simp [RowsAt]
  | e :: es, off, n + 1, h => by
    simp only [RowsAt] at h
    have := RowsAt.drop n h.2.2
    rw [show off + (n + 1) * s = off + s + n * s by rw [Nat.add_mul]; omega]
    simpa using this
theorem RowsAt.take {F : Frz} {ρ : Lay} {s : Nat} {g : Nat → Option Value} : ∀ {es : List (List IV)} {off : Nat} (n : Nat), RowsAt F ρ s es g off → RowsAt F ρ s (es.take n) g off
  | es, off, 0, h => by simp [RowsAt]
  | [], off, n + 1, _ => by simp [RowsAt]
  | e :: es, off, n + 1, h => by
    simp only [RowsAt, List.take_succ_cons] at *
    exact ⟨h.1, h.2.1, RowsAt.take n h.2.2⟩
theorem RowsAt.append {F : Frz} {ρ : Lay} {s : Nat} {g : Nat → Option Value} : ∀ {es fs : List (List IV)} {off : Nat}, RowsAt F ρ s es g off → RowsAt F ρ s fs g (off + es.length * s) → RowsAt F ρ s (es ++ fs) g off
  | [], fs, off, _, h => by simpa using h
  | e :: es, fs, off, h, h' => by
    simp only [RowsAt, List.cons_append] at *
    refine ⟨h.1, h.2.1, RowsAt.append h.2.2 ?_⟩
    rw [show off + s + es.length * s = off + (e :: es).length * s by rw [List.length_cons, Nat.add_mul]; omega]
    exact h'
theorem RowsAt.shift {F : Frz} {ρ : Lay} {s : Nat} {g g' : Nat → Option Value} : ∀ {es : List (List IV)} {off off' : Nat}, RowsAt F ρ s es g off → (∀ j u, j < es.length * s → g (off + j) = some u → g' (off' + j) = some u) → RowsAt F ρ s es g' off'
  | [], _, _, _, _ => by simp [RowsAt]
  | e :: es, off, off', h, hg => by
    simp only [RowsAt] at *
    have hle : (e :: es).length * s = s + es.length * s := by rw [List.length_cons, Nat.add_mul]; omega
    refine ⟨h.1, CellsAt.shift h.2.1 fun j u hj k => hg j u (by omega) k, RowsAt.shift h.2.2 fun j u hj k => ?_⟩
    have := hg (s + j) u (by omega) (by rw [← k]; congr 1; omega)
    rw [← this]; congr 1; omega
theorem RowsAt.flat {F : Frz} {ρ : Lay} {s : Nat} {g : Nat → Option Value} : ∀ {es : List (List IV)} {off : Nat}, RowsAt F ρ s es g off → CellsAt F ρ es.flatten g off ∧ es.flatten.length = es.length * s
  | [], off, _ => by simp [CellsAt]
  | e :: es, off, h => by
    simp only [RowsAt] at h
    obtain ⟨h1, h2⟩ := RowsAt.flat h.2.2
    refine ⟨?_, ?_⟩
    · rw [List.flatten_cons]
      exact CellsAt.append h.2.1 (by rw [h.1]; exact h1)
    · rw [List.flatten_cons, List.length_append, h2, h.1, List.length_cons, Nat.add_mul]; omega
theorem RowsAt.of_flat {F : Frz} {ρ : Lay} {s : Nat} {g : Nat → Option Value} : ∀ {es : List (List IV)} {off : Nat}, (∀ e ∈ es, e.length = s) → CellsAt F ρ es.flatten g off → RowsAt F ρ s es g off
  | [], off, _, _ => by simp [RowsAt]
  | e :: es, off, hs, h => by
    rw [List.flatten_cons] at h
    have he := hs e (by simp)
    refine ⟨he, by simpa using CellsAt.take e.length h, RowsAt.of_flat (fun e' h' => hs e' (by simp [h'])) ?_⟩
    have := CellsAt.drop e.length h
    simpa [he] using this
theorem RowsAt.uniform {F : Frz} {ρ : Lay} {s : Nat} {g : Nat → Option Value} : ∀ {es : List (List IV)} {off : Nat}, RowsAt F ρ s es g off → ∀ e ∈ es, e.length = s
  | [], _, _ => by simp
  | e :: es, off, h => by
    simp only [RowsAt] at h
    intro e' he'
    rcases List.mem_cons.1 he' with rfl | he'
    · exact h.1
    · exact RowsAt.uniform h.2.2 e' he'
def Lay.upd (ρ : Lay) (b : Nat) (l : Loc) : Lay := fun b' => if b' = b then some l else ρ b'
theorem Lay.upd_same (ρ : Lay) (b : Nat) (l : Loc) : ρ.upd b l b = some l := by simp [Lay.upd]
theorem Lay.upd_other (ρ : Lay) {b b' : Nat} (l : Loc) (h : b' ≠ b) : ρ.upd b l b' = ρ b' := by simp [Lay.upd, h]
theorem Lay.upd_ext {ρ : Lay} {n : Nat} (hn : ∀ b l, ρ b = some l → b < n) (l : Loc) : ∀ b l', ρ b = some l' → ρ.upd n l b = some l' := by
  intro b l' h
  rw [Lay.upd_other]
  · exact h
  · exact Nat.ne_of_lt (hn b l' h)
theorem getElem?_app {h : Heap} {k : Option Blk} {b : Nat} {x : Option Blk} (e : (h ++ [k])[b]? = some x) : h[b]? = some x ∧ b < h.length ∨ b = h.length ∧ x = k := by
  rcases Nat.lt_trichotomy b h.length with hb | hb | hb
  · rw [List.getElem?_append_left hb] at e; exact .inl ⟨e, hb⟩
  · subst hb; simp at e; exact .inr ⟨rfl, e.symm⟩
  · rw [List.getElem?_eq_none (by simp; omega)] at e; cases e
theorem Step.push {F : Frz} {ρ : Lay} {h : Heap} {w W : World} (hr : Rel F ρ h w) (cs : Array Value) (k : Blk) (hnew : W.heap[w.heap.size]? = some (.cells cs k.ty (0, 0)))
    (hold : ∀ i, i < w.heap.size → W.heap[i]? = w.heap[i]?) (hsz : w.heap.size ≤ W.heap.size) (hos : W.os = w.os) (htape : W.tape = w.tape) (hout : W.output = w.output)
    (hfit : k.es.length * k.size ≤ cs.size) (hrows : RowsAt F ρ k.size k.es (cs[·]?) 0) :
    Step F ρ h w F (ρ.upd h.length ⟨w.heap.size, 0, k.size, cs.size⟩) (h ++ [some k]) W := by
  have hlt : ∀ i o, w.heap[i]? = some o → i < w.heap.size := fun i o e => (Array.getElem?_eq_some_iff.1 e).1
  have hold' : ∀ i o, w.heap[i]? = some o → W.heap[i]? = some o := fun i o e => (hold i (hlt i o e)).trans e
  have hext := Lay.upd_ext hr.low ⟨w.heap.size, 0, k.size, cs.size⟩
  refine ⟨FLe.refl F, hext, ⟨fun R o e => hold' R o (hr.frz R o e), ?_, ?_, ?_⟩, fun i hi _ => hold i hi, ?_, fun R o e => .inl e, by simp, fun b l' hb e => by rw [Lay.upd_other _ _ (Nat.ne_of_lt hb)] at e; exact e, hsz, hos, htape, hout⟩
  · intro b k' hb
    rcases getElem?_app hb with ⟨hb, hlt'⟩ | ⟨rfl, hk⟩
    · obtain ⟨l, hl, hF, cs', hc, h1, h2, h3, h4⟩ := hr.liv b k' hb
      exact ⟨l, hext b l hl, hF, cs', hold' _ _ hc, h1, h2, h3, RowsAt.move (n := h.length) (FLe.refl F) (fun b l _ e => hext b l e) _ _ _ _ _ (RowsAt.bel hr.low _ _ _ _ h4) (fun i u e => e) h4⟩
    · cases hk
      refine ⟨_, Lay.upd_same _ _ _, ?_, cs, hnew, rfl, rfl, by simpa using hfit, RowsAt.move (n := h.length) (FLe.refl F) (fun b l _ e => hext b l e) _ _ _ _ _ (RowsAt.bel hr.low _ _ _ _ hrows) (fun i u e => e) hrows⟩
      cases e : F w.heap.size with
      | none => rfl
      | some o => exact absurd (hlt _ _ (hr.frz _ _ e)) (Nat.lt_irrefl _)
  · intro b b' k1 k2 l l' hb hb' hl hl' hR
    rcases getElem?_app hb with ⟨hb, hlt1⟩ | ⟨rfl, hk⟩
    · rw [Lay.upd_other _ _ (Nat.ne_of_lt hlt1)] at hl
      rcases getElem?_app hb' with ⟨hb', hlt2⟩ | ⟨rfl, hk'⟩
      · rw [Lay.upd_other _ _ (Nat.ne_of_lt hlt2)] at hl'
        exact hr.inj b b' k1 k2 l l' hb hb' hl hl' hR
      · rw [Lay.upd_same] at hl'; cases hl'
        obtain ⟨l2, hl2, hF, cs', hc, _⟩ := hr.liv b k1 hb
        rw [hl] at hl2; cases hl2
        exact absurd (hR ▸ hlt _ _ hc) (Nat.lt_irrefl _)
    · rw [Lay.upd_same] at hl; cases hl
      rcases getElem?_app hb' with ⟨hb', hlt2⟩ | ⟨rfl, hk'⟩
      · rw [Lay.upd_other _ _ (Nat.ne_of_lt hlt2)] at hl'
        obtain ⟨l2, hl2, hF, cs', hc, _⟩ := hr.liv b' k2 hb'
        rw [hl'] at hl2; cases hl2
        have := hlt _ _ hc
        simp at hR
        omega
      · rfl
  · intro b l e
    simp only [List.length_append, List.length_cons, List.length_nil]
    by_cases hb : b = h.length
    · omega
    · rw [Lay.upd_other _ _ hb] at e
      have := hr.low b l e
      omega
  · rintro i ⟨b, k', l, hb, hl, hR⟩ hi
    rcases getElem?_app hb with ⟨hb, hlt1⟩ | ⟨rfl, hk⟩
    · rw [Lay.upd_other _ _ (Nat.ne_of_lt hlt1)] at hl
      exact ⟨b, k', l, hb, hl, hR⟩
    · rw [Lay.upd_same] at hl; cases hl
      simp at hR; omega
theorem Rel.of_heap {F : Frz} {ρ : Lay} {h : Heap} {w W : World} (hr : Rel F ρ h w) (e : W.heap = w.heap) : Rel F ρ h W :=
  ⟨fun R o k => by rw [e]; exact hr.frz R o k, fun b k hb => by
    obtain ⟨l, h1, h2, cs, h3, h4⟩ := hr.liv b k hb
    exact ⟨l, h1, h2, cs, by rw [e]; exact h3, h4⟩, hr.inj, hr.low⟩
theorem Step.of_heap {F : Frz} {ρ : Lay} {h : Heap} {w W : World} (hr : Rel F ρ h w) (e : W.heap = w.heap) (ho : W.os = w.os) (ht : W.tape = w.tape) (hout : W.output = w.output) : Step F ρ h w F ρ h W :=
  ⟨FLe.refl F, fun _ _ k => k, hr.of_heap e, fun i _ _ => by rw [e], fun _ k _ => k, fun _ _ k => .inl k, Nat.le_refl _, fun _ _ _ k => k, by rw [e]; exact Nat.le_refl _, ho, ht, hout⟩
theorem Step.write {F : Frz} {ρ : Lay} {h : Heap} {w W : World} (hr : Rel F ρ h w) {b : Nat} {k : Blk} {l : Loc} (hb : h[b]? = some (some k)) (hl : ρ b = some l)
    (cs' : Array Value) (es' : List (List IV)) (hnew : W.heap[l.R]? = some (.cells cs' k.ty (0, 0))) (hold : ∀ i, i ≠ l.R → W.heap[i]? = w.heap[i]?) (hsz : W.heap.size = w.heap.size)
    (hos : W.os = w.os) (htape : W.tape = w.tape) (hout : W.output = w.output) (htot : cs'.size = l.tot) (hfit : l.base + es'.length * k.size ≤ cs'.size) (hrows : RowsAt F ρ k.size es' (cs'[·]?) l.base) :
    Step F ρ h w F ρ (h.set b (some { k with es := es' })) W := by
  have hF : F l.R = none := by
    obtain ⟨l', hl', hF, _⟩ := hr.liv b k hb
    rw [hl] at hl'; cases hl'; exact hF
  have hsize : l.size = k.size := by
    obtain ⟨l', hl', hF, cs, _, _, h2, _⟩ := hr.liv b k hb
    rw [hl] at hl'; cases hl'; exact h2
  have hlen : b < h.length := hr.low b l hl
  have hset : ∀ (c : Nat) (x : Option Blk), (h.set b (some { k with es := es' }))[c]? = some x → c = b ∧ x = some { k with es := es' } ∨ c ≠ b ∧ h[c]? = some x := by
    intro c x e
    by_cases hc : c = b
    · subst hc; simp [hlen] at e; exact .inl ⟨rfl, e.symm⟩
    · rw [List.getElem?_set_ne (Ne.symm hc)] at e; exact .inr ⟨hc, e⟩
  have hlive : ∀ (c : Nat) (k' : Blk), (h.set b (some { k with es := es' }))[c]? = some (some k') → ∃ k'' : Blk, h[c]? = some (some k'') := by
    intro c k' e
    rcases hset c _ e with ⟨rfl, _⟩ | ⟨_, e⟩
    · exact ⟨k, hb⟩
    · exact ⟨k', e⟩
  refine ⟨FLe.refl F, fun _ _ e => e, ⟨?_, ?_, ?_, ?_⟩, ?_, ?_, fun R o e => .inl e, by simp, fun _ _ _ e => e, by omega, hos, htape, hout⟩
  · intro R o e
    rw [hold R (fun e' => by rw [e', hF] at e; cases e)]
    exact hr.frz R o e
  · intro c k' e
    rcases hset c _ e with ⟨rfl, hk⟩ | ⟨hne, e⟩
    · cases hk
      exact ⟨l, hl, hF, cs', hnew, htot.symm, hsize, hfit, hrows⟩
    · obtain ⟨l', hl', hF', cs, hc, h1⟩ := hr.liv c k' e
      refine ⟨l', hl', hF', cs, ?_, h1⟩
      rw [hold l'.R (fun e' => hne (hr.inj c b k' k l' l e hb hl' hl e'))]
      exact hc
  · intro c c' k1 k2 l1 l2 e e' h1 h2 hR
    obtain ⟨k3, e3⟩ := hlive c k1 e
    obtain ⟨k4, e4⟩ := hlive c' k2 e'
    exact hr.inj c c' k3 k4 l1 l2 e3 e4 h1 h2 hR
  · intro c l' e
    simpa using hr.low c l' e
  · intro i _ hn
    exact hold i fun e => hn ⟨b, k, l, hb, hl, e.symm⟩
  · rintro i ⟨c, k', l', e, h1, h2⟩ _
    obtain ⟨k3, e3⟩ := hlive c k' e
    exact ⟨c, k3, l', e3, h1, h2⟩
theorem Rel.kill {F : Frz} {ρ : Lay} {h : Heap} {w : World} (hr : Rel F ρ h w) (b : Nat) : Rel F ρ (h.set b none) w ∧ ∀ i, Img (h.set b none) ρ i → Img h ρ i := by
  have hset : ∀ (c : Nat) (k : Blk), (h.set b none)[c]? = some (some k) → c ≠ b ∧ h[c]? = some (some k) := by
    intro c k e
    by_cases hc : c = b
    · subst hc; rw [List.getElem?_set] at e; simp at e
    · rw [List.getElem?_set_ne (Ne.symm hc)] at e; exact ⟨hc, e⟩
  refine ⟨⟨hr.frz, fun c k e => hr.liv c k (hset c k e).2, fun c c' k1 k2 l1 l2 e e' => hr.inj c c' k1 k2 l1 l2 (hset c k1 e).2 (hset c' k2 e').2, fun c l e => by simpa using hr.low c l e⟩, ?_⟩
  rintro i ⟨c, k, l, e, h1, h2⟩
  exact ⟨c, k, l, (hset c k e).2, h1, h2⟩
theorem Step.kill {F : Frz} {ρ : Lay} {h : Heap} {w : World} (hr : Rel F ρ h w) (b : Nat) : Step F ρ h w F ρ (h.set b none) w :=
  ⟨FLe.refl F, fun _ _ k => k, (hr.kill b).1, fun _ _ _ => rfl, fun i k _ => (hr.kill b).2 i k, fun _ _ k => .inl k, by simp, fun _ _ _ e => e, Nat.le_refl _, rfl, rfl, rfl⟩
theorem Step.drop {F : Frz} {ρ : Lay} {h : Heap} {w : World} (hr : Rel F ρ h w) (n : Nat) (hn : n ≤ h.length) (hbel : ∀ b k, b < n → h[b]? = some (some k) → Belss n k.es) :
    Rel F (fun b => if b < n then ρ b else none) (h.take n) w ∧ ∀ i, Img (h.take n) (fun b => if b < n then ρ b else none) i → Img h ρ i := by
  have htk : ∀ (b : Nat) (k : Blk), (h.take n)[b]? = some (some k) → b < n ∧ h[b]? = some (some k) := by
    intro b k e
    rw [List.getElem?_take] at e
    split at e
    · rename_i hb; exact ⟨hb, e⟩
    · cases e
  refine ⟨⟨hr.frz, ?_, ?_, ?_⟩, ?_⟩
  · intro b k e
    obtain ⟨hb, e⟩ := htk b k e
    obtain ⟨l, hl, hF, cs, h1, h2, h3, h4, h5⟩ := hr.liv b k e
    exact ⟨l, by simp [hb, hl], hF, cs, h1, h2, h3, h4, RowsAt.move (n := n) (FLe.refl F) (fun b l hb e => by simp [hb, e]) _ _ _ _ _ (hbel b k hb e) (fun i u e => e) h5⟩
  · intro b b' k k' l l' e e' h1 h2 h3
    obtain ⟨hb, e⟩ := htk b k e
    obtain ⟨hb', e'⟩ := htk b' k' e'
    simp only [hb, hb', if_true] at h1 h2
    exact hr.inj b b' k k' l l' e e' h1 h2 h3
  · intro b l e
    split at e
    · rename_i hb
      simp only [List.length_take]
      omega
    · cases e
  · rintro i ⟨b, k, l, e, h1, h2⟩
    obtain ⟨hb, e⟩ := htk b k e
    simp only [hb, if_true] at h1
    exact ⟨b, k, l, e, h1, h2⟩
end Go.Ideal
namespace Go.Ideal
def toIV : Value → IV
  | .bool b => .bool b
  | .int k n => .int k n
  | .string s => .str s
  | .pointer none => .nil
  | .slice none 0 0 => .snil
  | .func (.func f) ⟨[]⟩ ⟨[]⟩ => .fn f []
  | _ => .any
theorem VR.toIV (F : Frz) (ρ : Lay) (v : Value) : VR F ρ (toIV v) v := by
  unfold Ideal.toIV
  split <;> simp [VR, VRs]
theorem VRs.toIV (F : Frz) (ρ : Lay) : ∀ vs : List Value, VRs F ρ (vs.map Ideal.toIV) vs
  | [] => by simp [VRs]
  | v :: vs => ⟨v, vs, rfl, VR.toIV F ρ v, VRs.toIV F ρ vs⟩
def szO (P : Program) (t : TypeId) : Option Nat := (P.info? t).map (·.size)
def byO (P : Program) (t : TypeId) : Option Nat := (P.info? t).map (·.bytes)
def zrO (P : Program) (t : TypeId) : Option (List IV) := ((P.info? t).bind (·.zero)).map fun z => z.cells.toList.map toIV
def agO (P : Program) (t : TypeId) : Option Bool := (P.underlying t).map fun | .struct _ => true | .array _ _ => true | _ => false
def elO (P : Program) (t : TypeId) : Option TypeId := match P.underlying t with | some (.slice e) => some e | _ => none
def flO (P : Program) (t : TypeId) : Option (List (Nat × Nat)) := match P.underlying t with | some (.struct fs) => fs.toList.mapM fun f => (szO P f.type).map fun s => (f.offset, s) | _ => none
def fdO (P : Program) (t : TypeId) (i : Nat) : Option (Nat × Nat × Bool) :=
  match P.underlying t with
  | some (.struct fs) => match fs[i]? with
    | some f => match szO P f.type, agO P f.type with
      | some s, some a => some (f.offset, s, a)
      | _, _ => none
    | none => none
  | _ => none
theorem run_sizeOf {P : Program} {t : TypeId} {n : Nat} (h : szO P t = some n) (w : World) : (sizeOf t).run P w = .ok n w := by
  unfold szO at h
  cases e : P.info? t with
  | none => rw [e] at h; cases h
  | some i => rw [e] at h; simp at h; simp [sizeOf, typeInfo, e, h]
theorem run_isAgg {P : Program} {t : TypeId} {b : Bool} (h : agO P t = some b) (w : World) : (isAgg t).run P w = .ok b w := by
  unfold agO at h
  cases e : P.underlying t with
  | none => rw [e] at h; cases h
  | some d =>
    rw [e] at h
    simp only [Option.map_some, Option.some.injEq] at h
    unfold isAgg
    rw [Sem.run_bind, run_underlying e]
    subst h
    cases d <;> rfl
def cellsOf (h : Heap) : IV → Option (List IV)
  | .fptr cs => some cs
  | .ptr b i o => match h[b]? with
    | some (some k) => (k.es[i]?).map (·.drop o)
    | _ => none
  | _ => none
theorem cellsOf_at {F : Frz} {ρ : Lay} {h : Heap} {w : World} (hr : Rel F ρ h w) {p : IV} {u : Value} {cs : List IV} (hp : VR F ρ p u) (hc : cellsOf h p = some cs) :
    ∃ R off, u = .pointer (some ⟨R, off, none⟩) ∧ CellsAt F ρ cs (fun j => w.cell? ⟨R, j, none⟩) off := by
  cases p <;> simp only [cellsOf] at hc <;> try cases hc
  case ptr b i o =>
    simp only [VR] at hp
    obtain ⟨l, hl, rfl⟩ := hp
    cases hb : h[b]? with
    | none => rw [hb] at hc; simp at hc
    | some x =>
      cases x with
      | none => rw [hb] at hc; simp at hc
      | some k =>
        rw [hb] at hc
        simp only [Option.map_eq_some_iff] at hc
        obtain ⟨e, he, rfl⟩ := hc
        obtain ⟨l', hl', _, cs', h1, h2, h3, h4, h5⟩ := hr.liv b k hb
        rw [hl] at hl'; cases hl'
        refine ⟨_, _, rfl, ?_⟩
        have := CellsAt.drop o (RowsAt.get h5 he).2
        rw [← h3] at this
        exact CellsAt.sub this fun j u' _ _ hj => by simpa [World.cell?, h1] using hj
  case fptr =>
    simp only [VR] at hp
    obtain ⟨R, off, rfl, hcells⟩ := hp
    refine ⟨R, off, rfl, CellsAt.sub hcells fun j u' _ _ hj => ?_⟩
    unfold fcell at hj
    cases e : F R with
    | none => rw [e] at hj; cases hj
    | some o =>
      rw [e] at hj
      have := hr.frz R o e
      cases o <;> simp at hj
      simpa [World.cell?, this] using hj
def Z3 (P : Program) (t : TypeId) (p : IV) (h : Heap) : Option IV :=
  match cellsOf h p, agO P t, szO P t with
  | some cs, some true, some n => if n ≤ cs.length then some (.agg (cs.take n)) else none
  | some cs, some false, some _ => cs.head?
  | _, _, _ => none
theorem loadI_run {P : Program} {F : Frz} {ρ : Lay} {h : Heap} {w : World} (hr : Rel F ρ h w) {t : TypeId} {p v : IV} {u : Value} (hp : VR F ρ p u) (hl : Z3 P t p h = some v) :
    ∃ x, (Instr.loadAt t u).run P w = .ok x w ∧ VR F ρ v x := by
  unfold Z3 at hl
  split at hl
  · rename_i cs n hc ha hs
    split at hl
    · rename_i hn
      cases hl
      obtain ⟨R, off, rfl, hcells⟩ := cellsOf_at hr hp hc
      obtain ⟨us, hus, hget⟩ := CellsAt.get (CellsAt.take n hcells)
      have hlen : us.length = n := by rw [← hus.length, List.length_take]; omega
      have hload := run_loadCells_list (P := P) w ⟨R, off, none⟩ us fun j x hj => by rw [Addr.add_lit]; exact hget j x hj
      rw [hlen] at hload
      refine ⟨.agg us.toArray, ?_, us.toArray, rfl, by simpa using hus⟩
      simp [Instr.loadAt, Instr.sureAddr, loadVar, run_isAgg ha, run_sizeOf hs, hload]
    · cases hl
  · rename_i cs n hc ha hs
    obtain ⟨R, off, rfl, hcells⟩ := cellsOf_at hr hp hc
    cases cs with
    | nil => cases hl
    | cons c cs =>
      cases hl
      obtain ⟨⟨x, hx, hv⟩, _⟩ := hcells
      refine ⟨x, ?_, hv⟩
      simp only at hx
      simp [Instr.loadAt, Instr.sureAddr, loadVar, run_isAgg ha, hx]
  · cases hl
def Zh : IV → Option (List IV)
  | .any => none
  | .tup _ => none
  | .agg cs => some cs
  | v => some [v]
def oneI : IV → Bool
  | .any => false
  | .tup _ => false
  | .agg _ => false
  | _ => true
theorem oneI_one {F : Frz} {ρ : Lay} {v : IV} {u : Value} (h : oneI v = true) (hv : VR F ρ v u) : u.oneCell' = true := by
  cases v <;> simp [oneI] at h <;> simp only [VR] at hv
  case bool => subst hv; rfl
  case int => subst hv; rfl
  case str => subst hv; rfl
  case nil => subst hv; rfl
  case ptr => obtain ⟨_, _, rfl⟩ := hv; rfl
  case fptr => obtain ⟨_, _, rfl, _⟩ := hv; rfl
  case snil => subst hv; rfl
  case sl => obtain ⟨_, _, _, _, rfl, _⟩ := hv; rfl
  case vs => obtain ⟨_, _, rfl, _⟩ := hv; rfl
  case fn => obtain ⟨_, rfl, _⟩ := hv; rfl
theorem oneI_all {F : Frz} {ρ : Lay} {vs : List IV} {us : List Value} (h : vs.all oneI = true) (hv : VRs F ρ vs us) : ∀ u ∈ us, u.oneCell' = true := by
  intro u hu
  obtain ⟨j, hj⟩ := List.getElem?_of_mem hu
  obtain ⟨v, hv1, hv2⟩ := hv.getI hj
  exact oneI_one (List.all_eq_true.1 h v (List.mem_of_getElem? hv1)) hv2
theorem cellsI_at {F : Frz} {ρ : Lay} {v : IV} {u : Value} {cs : List IV} (hc : Zh v = some cs) (hv : VR F ρ v u) : VRs F ρ cs u.cells.toList := by
  have one : ∀ x : Value, x.oneCell' = true → x.cells = #[x] := fun x hx => by cases x <;> first | rfl | simp [Value.oneCell'] at hx
  cases v
  case any => simp [Zh] at hc
  case tup => simp [Zh] at hc
  case agg es =>
    simp [Zh] at hc; subst hc
    simp only [VR] at hv
    obtain ⟨us, rfl, h⟩ := hv
    exact h
  all_goals
    simp only [Zh, Option.some.injEq] at hc
    subst hc
    rw [one u (oneI_one (by rfl) hv)]
    exact ⟨u, [], rfl, hv, by simp [VRs]⟩
def splice (o : Nat) (new cs : List IV) : List IV := cs.take o ++ new ++ cs.drop (o + new.length)
def Zf (P : Program) (t : TypeId) (p x : IV) (h : Heap) : Option Heap :=
  match p, Zh x, szO P t with
  | .ptr b i o, some new, some n => match h[b]? with
    | some (some k) => match k.es[i]? with
      | some e => if new.length = n ∧ o + n ≤ e.length ∧ new.all oneI = true then some (h.set b (some { k with es := k.es.set i (splice o new e) })) else none
      | none => none
    | _ => none
  | _, _, _ => none
theorem rows_set {F : Frz} {ρ : Lay} {s : Nat} {g g' : Nat → Option Value} : ∀ {es : List (List IV)} {off i : Nat} {e' : List IV}, RowsAt F ρ s es g off → i < es.length → e'.length = s → CellsAt F ρ e' g' (off + i * s) →
    (∀ j u, (j < off + i * s ∨ off + i * s + s ≤ j) → g j = some u → g' j = some u) → RowsAt F ρ s (es.set i e') g' off
  | [], _, _, _, _, h, _, _, _ => by simp at h
  | e :: es, off, 0, e', h, _, he, hc, hg => by
    simp only [RowsAt, List.set_cons_zero] at *
    exact ⟨he, by simpa using hc, RowsAt.shift h.2.2 fun j u _ k => hg _ u (.inr (by simp)) k⟩
  | e :: es, off, i + 1, e', h, hi, he, hc, hg => by
    simp only [RowsAt, List.set_cons_succ] at *
    have e1 : off + (i + 1) * s = off + s + i * s := by rw [Nat.add_mul]; omega
    rw [e1] at hc hg
    refine ⟨h.1, CellsAt.sub h.2.1 fun j u _ h2 k => hg j u (.inl (by have := h.1; omega)) k, rows_set h.2.2 (by simpa using hi) he hc hg⟩
theorem storeI_run {P : Program} {F : Frz} {ρ : Lay} {h h' : Heap} {w : World} (hr : Rel F ρ h w) {t : TypeId} {p x : IV} {u y : Value} (hp : VR F ρ p u) (hx : VR F ρ x y) (hs : Zf P t p x h = some h') :
    ∃ W, (Instr.storeAt t u y).run P w = .ok () W ∧ Step F ρ h w F ρ h' W := by
  unfold Zf at hs
  split at hs
  · rename_i b i o new n hc hsz
    split at hs
    · rename_i k hb
      split at hs
      · rename_i e he
        split at hs
        · rename_i hcond
          obtain ⟨hn, hfit, hone⟩ := hcond
          cases hs
          simp only [VR] at hp
          obtain ⟨l, hl, rfl⟩ := hp
          obtain ⟨l', hl', hF, cs, g1, g2, g3, g4, g5⟩ := hr.liv b k hb
          rw [hl] at hl'; cases hl'
          have hrow := RowsAt.get g5 he
          have hi : i < k.es.length := (List.getElem?_eq_some_iff.1 he).1
          have hvs := cellsI_at hc hx
          have hvl := hvs.length
          have hfit2 : l.base + i * k.size + k.size ≤ cs.size := by
            have : (i + 1) * k.size ≤ k.es.length * k.size := Nat.mul_le_mul_right _ hi
            rw [Nat.add_mul] at this
            omega
          have hrow1 := hrow.1
          have hst := run_storeCells_at P l.R (l.base + i * l.size + o) k.ty y.cells.toList 0 cs w g1 (by rw [g3]; omega) (oneI_all hone hvs)
          simp only [Nat.add_zero, Nat.zero_add] at hst
          refine ⟨_, ?_, Step.write hr hb hl (cs.toList.take (l.base + i * l.size + o) ++ y.cells.toList ++ cs.toList.drop (l.base + i * l.size + o + y.cells.toList.length)).toArray _ (setRow_heap w l.R cs _ k.ty _ g1) (fun j hj => setRow_other w l.R j _ hj) (by simp [World.setRow]) rfl rfl rfl ?_ ?_ ?_⟩
          · have hcs : y.cells.size = n := by rw [← hn, hvl]; simp
            simp only [Instr.storeAt, Instr.sureAddr, storeVar, Sem.run_bind, Sem.run_pure, Result.andThen_ok, run_sizeOf hsz, hcs, ne_eq, not_true_eq_false, if_false]
            exact hst
          · simp only [List.size_toArray, List.length_append, List.length_take, List.length_drop, Array.length_toList]
            rw [g3, g2]
            simp only [Array.length_toList] at hvl
            omega
          · simp only [List.size_toArray, List.length_append, List.length_take, List.length_drop, Array.length_toList, List.length_set]
            rw [g3]
            simp only [Array.length_toList] at hvl
            omega
          · simp only [Array.length_toList] at hvl
            refine rows_set g5 hi ?_ ?_ ?_
            · simp [splice]; omega
            · have eL : (splice o new e) = e.take o ++ new ++ e.drop (o + new.length) := rfl
              rw [eL]
              have c1 := CellsAt.take o hrow.2
              have c3 := CellsAt.drop (o + new.length) hrow.2
              refine CellsAt.append (CellsAt.append (CellsAt.sub c1 ?_) (CellsAt.mk hvs ?_)) (CellsAt.shift c3 ?_)
              · intro j u' h1 h2 hj
                simp only [List.length_take] at h2
                simp only [List.getElem?_toArray] at *
                rw [List.append_assoc, List.getElem?_append_left (by simp; rw [g3]; omega), List.getElem?_take, if_pos (by rw [g3]; omega)]
                simpa using hj
              · intro j u' hj
                have hj' : j < y.cells.toList.length := (List.getElem?_eq_some_iff.1 hj).1
                simp only [List.length_take, List.getElem?_toArray, Array.length_toList] at *
                rw [List.append_assoc, List.getElem?_append_right (by simp; rw [g3]; omega), List.getElem?_append_left (by simp; rw [g3]; omega)]
                rw [← hj]; congr 1; simp; rw [g3]; omega
              · intro j u' hj hg'
                simp only [List.length_append, List.length_take, List.length_drop, List.getElem?_toArray, Array.length_toList] at *
                rw [List.getElem?_append_right (by simp; rw [g3]; omega), List.getElem?_drop]
                simp only [List.length_append, List.length_take, Array.length_toList, Array.getElem?_toList]
                rw [← hg']; congr 1; rw [g3]; omega
            · intro j u' hj hg'
              simp only [List.getElem?_toArray] at *
              have hjlt : j < cs.size := (Array.getElem?_eq_some_iff.1 hg').1
              by_cases hlow : j < l.base + i * l.size + o
              · rw [List.append_assoc, List.getElem?_append_left (by simp; omega), List.getElem?_take, if_pos hlow]
                simpa using hg'
              · rw [List.getElem?_append_right (by simp; rw [g3] at *; omega), List.getElem?_drop]
                simp only [List.length_append, List.length_take, Array.length_toList, Array.getElem?_toList]
                rw [← hg']; congr 1; rw [g3] at *; omega
        · cases hs
      · cases hs
    · cases hs
  · cases hs
end Go.Ideal
namespace Go.Ideal
theorem foldl_sets : ∀ (vs : List Value) (k off : Nat) (cells : Array Value), off + k + vs.length ≤ cells.size →
    ((vs.zipIdx k).foldl (fun cs (p : Value × Nat) => cs.setIfInBounds (off + p.2) p.1) cells).toList = cells.toList.take (off + k) ++ vs ++ cells.toList.drop (off + k + vs.length)
  | [], k, off, cells, _ => by simp
  | v :: vs, k, off, cells, h => by
    simp only [List.zipIdx_cons, List.foldl_cons]
    rw [show off + k + (v :: vs).length = off + k + (vs.length + 1) by simp] at h ⊢
    rw [foldl_sets vs (k + 1) off _ (by simp; omega), Array.toList_setIfInBounds]
    have := list_seg_step cells.toList (off + k) v vs (by simpa using h)
    simpa [Nat.add_assoc] using this
def fillI (pl : Nat → Option (Nat × Nat)) (cs : List IV) : List (Nat × IV) → Option (List IV)
  | [] => some cs
  | (i, v) :: rest =>
    match pl i, Zh v with
    | some (off, size), some c => if c.length = size ∧ off + size ≤ cs.length then fillI pl (splice off c cs) rest else none
    | _, _ => none
theorem splice_vrs {F : Frz} {ρ : Lay} {cs new : List IV} {us nu : List Value} {o : Nat} (h : VRs F ρ cs us) (h' : VRs F ρ new nu) : VRs F ρ (splice o new cs) (us.take o ++ nu ++ us.drop (o + nu.length)) := by
  unfold splice
  rw [h'.length]
  exact ((h.take o).append h').append (h.drop _)
theorem fillI_run {F : Frz} {ρ : Lay} (pl : Nat → Option (Nat × Nat)) (ev : Operand → IV) (re : Operand → Value) (he : ∀ x, VR F ρ (ev x) (re x)) : ∀ (parts : List (Nat × Operand)) (cs cs' : List IV) (cells : Array Value),
    VRs F ρ cs cells.toList → fillI pl cs (parts.map fun p => (p.1, ev p.2)) = some cs' → ∃ cells', Instr.fill pl cells (parts.map fun p => (p.1, re p.2)) = some cells' ∧ VRs F ρ cs' cells'.toList
  | [], cs, cs', cells, h, hf => by
    simp [fillI] at hf; subst hf
    exact ⟨cells, by simp [Instr.fill], h⟩
  | (i, x) :: parts, cs, cs', cells, h, hf => by
    simp only [List.map_cons, fillI] at hf
    split at hf
    · rename_i off size c hp hc
      split at hf
      · rename_i hcond
        have hv := cellsI_at hc (he x)
        have hvl := hv.length
        have hcl := h.length
        simp only [Array.length_toList] at hvl hcl
        have hfold := foldl_sets (re x).cells.toList 0 off cells (by simp; omega)
        simp only [Nat.add_zero] at hfold
        obtain ⟨cells', h1, h2⟩ := fillI_run pl ev re he parts (splice off c cs) cs' ((re x).cells.zipIdx.foldl (fun cs (p : Value × Nat) => cs.setIfInBounds (off + p.2) p.1) cells) (by
          rw [← Array.foldl_toList, Array.toList_zipIdx, hfold]
          exact splice_vrs h hv) hf
        refine ⟨cells', ?_, h2⟩
        simp only [List.map_cons, Instr.fill, hp]
        rw [if_neg (by simp; omega)]
        exact h1
      · cases hf
    · cases hf
def buildI (P : Program) (ev : Operand → IV) (t : TypeId) (parts : Array (Nat × Operand)) : Option IV :=
  match zrO P t, flO P t with
  | some z, some fl => (fillI (fl[·]?) z (parts.toList.map fun p => (p.1, ev p.2))).map IV.agg
  | _, _ => none
theorem buildI_run {P : Program} {F : Frz} {ρ : Lay} {w : World} (ev : Operand → IV) (re : Operand → Value) (he : ∀ x, VR F ρ (ev x) (re x)) {t : TypeId} {parts : Array (Nat × Operand)} {v : IV} (h : buildI P ev t parts = some v) :
    ∃ u, (Instr.build t (parts.map fun (i, x) => (i, re x))).run P w = .ok u w ∧ VR F ρ v u := by
  unfold buildI at h
  split at h
  · rename_i z fl hz hf
    simp only [Option.map_eq_some_iff] at h
    obtain ⟨cs', hfill, rfl⟩ := h
    unfold zrO at hz
    cases hi : P.info? t with
    | none => rw [hi] at hz; cases hz
    | some it =>
      rw [hi] at hz
      cases hzero : it.zero with
      | none => simp [hzero] at hz
      | some zv =>
        simp [hzero] at hz
        unfold flO at hf
        split at hf
        · rename_i fs hu
          obtain ⟨cells', h1, h2⟩ := fillI_run (F := F) (ρ := ρ) (fl[·]?) ev re he parts.toList z cs' zv.cells (by rw [← hz]; exact VRs.toIV F ρ _) hfill
          refine ⟨.agg cells', ?_, cells', rfl, h2⟩
          apply run_build
          have hpl : fs.toList.mapM (fun f => (P.info? f.type).map fun i => (f.offset, i.size)) = some fl := by
            rw [← hf]
            congr 1
            funext f
            unfold szO
            cases P.info? f.type <;> rfl
          simp only [Program.built, hi, hu, hzero, hpl]
          rw [← h1, Array.toList_map]
          congr 1
          funext i
          simp
        · cases hf
  · cases h
theorem run_newVar {P : Program} (w : World) (t : TypeId) (v : Value) : (newVar t v).run P w = .ok ⟨w.heap.size, 0, none⟩ (w.alloc (.cells v.cells t)) := by
  simp [newVar, newRow]
def ZK (P : Program) (t : TypeId) (h : Heap) : Option (IV × Heap) :=
  (zrO P t).map fun z => (.ptr h.length 0 0, h ++ [some ⟨z.length, t, [z]⟩])
theorem push_one {F : Frz} {ρ : Lay} {h : Heap} {w : World} (hr : Rel F ρ h w) (t : TypeId) {cs : List IV} {us : Array Value} (hv : VRs F ρ cs us.toList) :
    ∃ ρ', Step F ρ h w F ρ' (h ++ [some ⟨cs.length, t, [cs]⟩]) (w.alloc (.cells us t)) ∧ VR F ρ' (.ptr h.length 0 0) (.pointer (some ⟨w.heap.size, 0, none⟩)) := by
  have hlen := hv.length
  simp only [Array.length_toList] at hlen
  have s := Step.push (W := w.alloc (.cells us t)) hr us ⟨cs.length, t, [cs]⟩ (heap_alloc_new w _) (fun i hi => by first | exact heap_alloc_old w _ i hi | exact heap_alloc_old w _ hi) (by show _ ≤ (w.heap.push _).size; simp) rfl rfl rfl (by simp; omega) (by
    refine ⟨rfl, CellsAt.mk hv fun j u hj => ?_, by simp [RowsAt]⟩
    simpa using hj)
  exact ⟨_, s, _, Lay.upd_same _ _ _, by simp⟩
theorem allocI_run {P : Program} {F : Frz} {ρ : Lay} {h h' : Heap} {w : World} (hr : Rel F ρ h w) {t : TypeId} {v : IV} (ha : ZK P t h = some (v, h')) :
    ∃ u W ρ', (Instr.alloc t true (.tuple #[])).run P w = .ok u W ∧ Step F ρ h w F ρ' h' W ∧ VR F ρ' v u := by
  unfold ZK zrO at ha
  cases hi : P.info? t with
  | none => simp [hi] at ha
  | some it =>
    cases hz : it.zero with
    | none => simp [hi, hz] at ha
    | some z =>
      simp [hi, hz] at ha
      obtain ⟨rfl, rfl⟩ := ha
      obtain ⟨ρ', s, hv⟩ := push_one hr t (VRs.toIV F ρ z.cells.toList)
      refine ⟨_, _, ρ', ?_, by simpa using s, hv⟩
      simp [Instr.alloc, zeroValue, typeInfo, hi, hz, run_newVar]
def boxI (t : TypeId) (x : IV) (h : Heap) : Option (IV × Heap) :=
  (Zh x).map fun cs => (.ptr h.length 0 0, h ++ [some ⟨cs.length, t, [cs]⟩])
theorem boxI_run {P : Program} {F : Frz} {ρ : Lay} {h h' : Heap} {w : World} (hr : Rel F ρ h w) {t : TypeId} {x v : IV} {y : Value} (hx : VR F ρ x y) (ha : boxI t x h = some (v, h')) :
    ∃ u W ρ', (Instr.box t y).run P w = .ok u W ∧ Step F ρ h w F ρ' h' W ∧ VR F ρ' v u := by
  unfold boxI at ha
  simp only [Option.map_eq_some_iff, Prod.mk.injEq] at ha
  obtain ⟨cs, hc, rfl, rfl⟩ := ha
  obtain ⟨ρ', s, hv⟩ := push_one hr t (cellsI_at hc hx)
  exact ⟨_, _, ρ', by simp [Instr.box, run_newVar], s, hv⟩
theorem flat_replicate (z : List IV) : ∀ n, (List.replicate n z).flatten.length = n * z.length
  | 0 => by simp
  | n + 1 => by rw [List.replicate_succ, List.flatten_cons, List.length_append, flat_replicate z n, Nat.add_mul]; omega
theorem vrs_made {F : Frz} {ρ : Lay} (z : List IV) (zu : Array Value) (hz : VRs F ρ z zu.toList) (n : Nat) : VRs F ρ (List.replicate n z).flatten ((Array.range (n * z.length)).map (zu[· % zu.size]!)).toList := by
  have hl : z.length = zu.size := by simpa using hz.length
  rw [VRs.iff]
  refine ⟨by rw [flat_replicate]; simp, fun j v u hv hu => ?_⟩
  have hj : j < n * z.length := by have := (List.getElem?_eq_some_iff.1 hv).1; rwa [flat_replicate] at this
  have hpos : 0 < z.length := by
    rcases Nat.eq_zero_or_pos z.length with h0 | h0
    · rw [h0] at hj; simp at hj
    · exact h0
  have key : ∀ (m i : Nat), i < m * z.length → (List.replicate m z).flatten[i]? = z[i % z.length]? := by
    intro m
    induction m with
    | zero => intro i hi; simp at hi
    | succ m ih =>
      intro i hi
      rw [List.replicate_succ, List.flatten_cons]
      by_cases h1 : i < z.length
      · rw [List.getElem?_append_left h1, Nat.mod_eq_of_lt h1]
      · rw [List.getElem?_append_right (by omega), ih (i - z.length) (by rw [Nat.add_mul] at hi; omega), Nat.mod_eq_sub_mod (a := i) (b := z.length) (by omega)]
  rw [key n j hj] at hv
  have hlt : j % zu.size < zu.size := Nat.mod_lt _ (by omega)
  simp [hj] at hu
  subst hu
  obtain ⟨u, hu, hvr⟩ := hz.get hv
  rw [hl] at hu
  simp [hlt] at hu
  subst hu
  rw [getElem!_pos zu _ hlt]
  exact hvr
def chunks (s : Nat) : Nat → List IV → List (List IV)
  | 0, _ => []
  | n + 1, cs => cs.take s :: chunks s n (cs.drop s)
theorem chunks_len (s : Nat) : ∀ n cs, (chunks s n cs).length = n
  | 0, _ => rfl
  | n + 1, cs => by simp [chunks, chunks_len s n]
theorem chunks_rows {F : Frz} {ρ : Lay} {s : Nat} {g : Nat → Option Value} : ∀ (n : Nat) (cs : List IV) (off : Nat), cs.length = n * s → CellsAt F ρ cs g off → RowsAt F ρ s (chunks s n cs) g off
  | 0, cs, off, _, _ => by simp [chunks, RowsAt]
  | n + 1, cs, off, hl, h => by
    rw [Nat.add_mul] at hl
    refine ⟨by simp; omega, CellsAt.take s h, chunks_rows n _ _ (by simp; omega) (CellsAt.drop s h)⟩
theorem push_slice {F : Frz} {ρ : Lay} {h : Heap} {w : World} (hr : Rel F ρ h w) (t : TypeId) {s n c : Nat} {es : List (List IV)} {us : Array Value} (hn : es.length = n) (hc : n ≤ c) (hsz : us.size = c * s) (hv : RowsAt F ρ s es (us[·]?) 0) {W : World}
    (hW : W.heap = w.heap.push (.cells us t)) (hos : W.os = w.os) (htape : W.tape = w.tape) (hout : W.output = w.output) :
    ∃ ρ', Step F ρ h w F ρ' (h ++ [some ⟨s, t, es⟩]) W ∧ VR F ρ' (.sl h.length 0 n) (.slice (some ⟨w.heap.size, 0, none⟩) n c) := by
  have hnew : W.heap[w.heap.size]? = some (.cells us t (0, 0)) := by rw [hW]; simp
  have hold : ∀ i, i < w.heap.size → W.heap[i]? = w.heap[i]? := fun i hi => by rw [hW, Array.getElem?_push, if_neg (Nat.ne_of_lt hi)]
  have s := Step.push (W := W) hr us ⟨s, t, es⟩ hnew hold (by rw [hW]; simp) hos htape hout (by simp only; rw [hn, hsz]; exact Nat.mul_le_mul_right _ hc) hv
  refine ⟨_, s, _, _, _, Lay.upd_same _ _ _, rfl, hc, .inr ⟨by simp, by simp; omega⟩⟩
def buildSliceI (P : Program) (ev : Operand → IV) (t : TypeId) (n : Nat) (parts : Array (Nat × Operand)) (h : Heap) : Option (IV × Heap) :=
  match elO P t with
  | some e => match zrO P e, szO P e with
    | some z, some s => if n * s ≤ 16777216 ∧ 0 < s ∧ z.length = s then
        (fillI (fun i => some (i * s, s)) (List.replicate n z).flatten (parts.toList.map fun p => (p.1, ev p.2))).map fun cs => (.sl h.length 0 n, h ++ [some ⟨s, e, chunks s n cs⟩]) else none
    | _, _ => none
  | none => none
theorem fillI_len (pl : Nat → Option (Nat × Nat)) : ∀ (ps : List (Nat × IV)) (cs cs' : List IV), fillI pl cs ps = some cs' → cs'.length = cs.length
  | [], cs, cs', h => by simp [fillI] at h; rw [h]
  | (i, v) :: ps, cs, cs', h => by
    simp only [fillI] at h
    split at h
    · split at h
      · rename_i hc
        rw [fillI_len pl ps _ _ h]; simp [splice]; omega
      · cases h
    · cases h
theorem buildSliceI_run {P : Program} {F : Frz} {ρ : Lay} {h h' : Heap} {w : World} (hr : Rel F ρ h w) (ev : Operand → IV) (re : Operand → Value) (he : ∀ x, VR F ρ (ev x) (re x)) {t : TypeId} {n : Nat} {parts : Array (Nat × Operand)} {v : IV}
    (hb : buildSliceI P ev t n parts h = some (v, h')) : ∃ u W ρ', (Instr.buildSlice t n (parts.map fun (i, x) => (i, re x))).run P w = .ok u W ∧ Step F ρ h w F ρ' h' W ∧ VR F ρ' v u := by
  unfold buildSliceI at hb
  split at hb
  · rename_i e hel
    split at hb
    · rename_i z s hz hs
      split at hb
      · rename_i hcond
        obtain ⟨hsmall, hpos, hzl⟩ := hcond
        simp only [Option.map_eq_some_iff, Prod.mk.injEq] at hb
        obtain ⟨cs, hfill, rfl, rfl⟩ := hb
        have hu : P.underlying t = some (.slice e) := by
          unfold elO at hel; split at hel
          · rename_i e' hu; cases hel; exact hu
          · cases hel
        unfold zrO at hz
        unfold szO at hs
        cases hi : P.info? e with
        | none => simp [hi] at hz
        | some ie =>
          cases hzero : ie.zero with
          | none => simp [hi, hzero] at hz
          | some zv =>
            simp [hi, hzero] at hz hs
            have hzr : VRs F ρ z zv.cells.toList := by rw [← hz]; exact VRs.toIV F ρ _
            obtain ⟨cells', h1, h2⟩ := fillI_run (F := F) (ρ := ρ) (fun i => some (i * s, s)) ev re he parts.toList _ cs ((Array.range (n * s)).map (zv.cells[· % zv.cells.size]!)) (by rw [← hzl]; exact vrs_made z zv.cells hzr n) hfill
            have hcl : cs.length = n * s := by rw [fillI_len _ _ _ _ hfill, flat_replicate, hzl]
            have hsz : cells'.size = n * s := by have := h2.length; simp at this; omega
            obtain ⟨ρ', st, hv⟩ := push_slice hr e (chunks_len s n cs) (Nat.le_refl n) hsz (chunks_rows n cs 0 hcl (CellsAt.mk h2 fun j u hj => by simpa using hj)) (W := w.alloc (.cells cells' e)) rfl rfl rfl rfl
            refine ⟨_, _, ρ', ?_, st, hv⟩
            by_cases h0 : n * s = 0
            · have hn0 : n = 0 := by
                rcases Nat.mul_eq_zero.1 h0 with h0 | h0
                · exact h0
                · omega
              subst hn0
              rw [← hs] at h1
              simp only [Nat.zero_mul] at h1
              have h1' : Instr.fill (fun i => some (i * ie.size, ie.size)) #[] (List.map (fun p => (p.fst, re p.snd)) parts.toList) = some cells' := by simpa [Array.range_zero'] using h1
              have h1d : ∀ f : Nat → Value, Array.map f (Array.range 0) = #[] := fun f => by simp [Array.range_zero']
              simp [Instr.buildSlice, run_underlying hu, sizeOf, typeInfo, hi, newRow, h1', h1d]
            · refine run_buildSlice w t e n _ cells' ie zv hu hi hzero (by rw [hs]; omega) (by rw [hs]; exact h0) ?_
              rw [hs, ← h1, Array.toList_map]
      · cases hb
    · cases hb
  · cases hb
def ZL (P : Program) (t : TypeId) (l c : IV) (h : Heap) : Option (IV × Heap) :=
  match l, c, elO P t with
  | .int _ n, .int _ m, some e => match zrO P e, szO P e, byO P e with
    | some z, some s, some by_ => if 0 ≤ n ∧ n ≤ m ∧ m ≤ 1073741824 ∧ by_ ≤ 65536 ∧ 0 < s ∧ z.length = s then some (.sl h.length 0 n.toNat, h ++ [some ⟨s, e, List.replicate n.toNat z⟩]) else none
    | _, _, _ => none
  | _, _, _ => none
theorem makeSliceI_run {P : Program} {F : Frz} {ρ : Lay} {h h' : Heap} {w : World} (hr : Rel F ρ h w) {t : TypeId} {l c v : IV} {lu cu : Value} (hl : VR F ρ l lu) (hc : VR F ρ c cu) (hm : ZL P t l c h = some (v, h')) :
    ∃ u W ρ', (Instr.makeSlice t lu cu).run P w = .ok u W ∧ Step F ρ h w F ρ' h' W ∧ VR F ρ' v u := by
  unfold ZL at hm
  split at hm
  · rename_i k1 n k2 m e hel
    split at hm
    · rename_i z s by_ hz hs hby
      split at hm
      · rename_i hcond
        obtain ⟨h0, hnm, hmm, hbb, hpos, hzl⟩ := hcond
        simp only [Option.some.injEq, Prod.mk.injEq] at hm
        obtain ⟨rfl, rfl⟩ := hm
        simp only [VR] at hl hc
        subst hl; subst hc
        have hu : P.underlying t = some (.slice e) := by
          unfold elO at hel; split at hel
          · rename_i e' hu; cases hel; exact hu
          · cases hel
        unfold zrO at hz
        unfold szO at hs
        unfold byO at hby
        cases hi : P.info? e with
        | none => simp [hi] at hz
        | some ie =>
          cases hzero : ie.zero with
          | none => simp [hi, hzero] at hz
          | some zv =>
            simp [hi, hzero] at hz hs hby
            have hzr : VRs F ρ z zv.cells.toList := by rw [← hz]; exact VRs.toIV F ρ _
            have hzs : zv.cells.size = s := by have := hzr.length; simp at this; omega
            have hbytes : (ie.bytes : Int) * m ≤ 281474976710656 := by
              rw [hby]
              have : (by_ : Int) * m ≤ 65536 * 1073741824 := Int.mul_le_mul (by omega) hmm (by omega) (by omega)
              omega
            have hrun := run_make (P := P) w t e ie zv hu hi hzero k1 k2 n m h0 hnm hbytes (by omega)
            have hmade := vrs_made z zv.cells hzr m.toNat
            have hsz : (madeCells zv.cells (m.toNat * ie.size)).size = m.toNat * s := by rw [size_madeCells, hs]
            have hcells : CellsAt F ρ (List.replicate m.toNat z).flatten ((madeCells zv.cells (m.toNat * ie.size))[·]?) 0 := CellsAt.mk hmade fun j u hj => by
              rw [hzl] at hj
              unfold madeCells
              rw [hs]
              rw [Array.getElem?_toList] at hj
              simpa using hj
            have hrows := RowsAt.of_flat (s := s) (fun e he => by rw [List.eq_of_mem_replicate he]; exact hzl) hcells
            have hrows' : RowsAt F ρ s (List.replicate n.toNat z) ((madeCells zv.cells (m.toNat * ie.size))[·]?) 0 := by
              have := RowsAt.take n.toNat hrows
              rwa [List.take_replicate, Nat.min_eq_left (by omega)] at this
            obtain ⟨ρ', st, hv⟩ := push_slice hr e (n := n.toNat) (c := m.toNat) (by simp) (by omega) hsz hrows' (W := w.alloc (.cells (madeCells zv.cells (m.toNat * ie.size)) e)) rfl rfl rfl rfl
            exact ⟨_, _, ρ', hrun, st, hv⟩
      · cases hm
    · cases hm
  · cases hm
end Go.Ideal
namespace Go.Ideal
theorem elO_underlying {P : Program} {t e : TypeId} (h : elO P t = some e) : P.underlying t = some (.slice e) := by
  unfold elO at h; split at h
  · rename_i e' hu; cases h; exact hu
  · cases h
theorem fdO_spec {P : Program} {t : TypeId} {i : Nat} {off s : Nat} {a : Bool} (h : fdO P t i = some (off, s, a)) :
    ∃ fs f, P.underlying t = some (.struct fs) ∧ fs[i]? = some f ∧ f.offset = off ∧ szO P f.type = some s ∧ agO P f.type = some a := by
  unfold fdO at h
  split at h
  · rename_i fs hu
    split at h
    · rename_i f hf
      split at h
      · rename_i s' a' h1 h2
        simp only [Option.some.injEq, Prod.mk.injEq] at h
        obtain ⟨rfl, rfl, rfl⟩ := h
        exact ⟨fs, f, hu, hf, rfl, h1, h2⟩
      · cases h
    · cases h
  · cases h
def Z4 (P : Program) (t : TypeId) (x : IV) (i : Nat) : Option IV :=
  match fdO P t i, x with
  | some (off, s, _), .fptr cs => if s = 0 then none else some (.fptr (cs.drop off))
  | some (off, s, _), .ptr b j o => if s = 0 then none else some (.ptr b j (o + off))
  | _, _ => none
theorem fieldAddrI_run {P : Program} {F : Frz} {ρ : Lay} {w : World} {t : TypeId} {x v : IV} {u : Value} {i : Nat} (hx : VR F ρ x u) (h : Z4 P t x i = some v) :
    ∃ y, (Instr.fieldAt t u i).run P w = .ok y w ∧ VR F ρ v y := by
  unfold Z4 at h
  split at h
  · rename_i off s a cs hf
    split at h
    · cases h
    · rename_i hs
      cases h
      obtain ⟨fs, f, hu, hfi, rfl, hsz, _⟩ := fdO_spec hf
      simp only [VR] at hx
      obtain ⟨R, o, rfl, hc⟩ := hx
      refine ⟨.pointer (some ⟨R, o + f.offset, none⟩), ?_, R, _, rfl, CellsAt.drop _ hc⟩
      simp [Instr.fieldAt, Instr.sureAddr, run_underlying hu, hfi, fieldPlace, run_sizeOf hsz, hs, Addr.add_lit]
  · rename_i off s a b j o hf
    split at h
    · cases h
    · rename_i hs
      cases h
      obtain ⟨fs, f, hu, hfi, rfl, hsz, _⟩ := fdO_spec hf
      simp only [VR] at hx
      obtain ⟨l, hl, rfl⟩ := hx
      refine ⟨.pointer (some ⟨l.R, l.base + j * l.size + o + f.offset, none⟩), ?_, l, hl, by rw [Nat.add_assoc]⟩
      simp [Instr.fieldAt, Instr.sureAddr, run_underlying hu, hfi, fieldPlace, run_sizeOf hsz, hs, Addr.add_lit]
  · cases h
def fieldI (P : Program) (t : TypeId) (x : IV) (i : Nat) : Option IV :=
  match fdO P t i, x with
  | some (off, s, true), .agg cs => if off + s ≤ cs.length then some (.agg ((cs.drop off).take s)) else none
  | some (off, _, false), .agg cs => cs[off]?
  | _, _ => none
theorem fieldI_run {P : Program} {F : Frz} {ρ : Lay} {w : World} {t : TypeId} {x v : IV} {u : Value} {i : Nat} (hx : VR F ρ x u) (h : fieldI P t x i = some v) :
    ∃ y, (Instr.field t u i).run P w = .ok y w ∧ VR F ρ v y := by
  unfold fieldI at h
  split at h
  · rename_i off s cs hf
    split at h
    · rename_i hle
      cases h
      obtain ⟨fs, f, hu, hfi, rfl, hsz, hag⟩ := fdO_spec hf
      simp only [VR] at hx
      obtain ⟨us, rfl, hc⟩ := hx
      refine ⟨.agg (us.extract f.offset (f.offset + s)), ?_, _, rfl, ?_⟩
      · simp [Instr.field, run_underlying hu, hfi, part, asAgg, run_isAgg hag, run_sizeOf hsz]
      · have := (hc.drop f.offset).take s
        simpa [Array.toList_extract, List.extract] using this
    · cases h
  · rename_i off s cs hf
    obtain ⟨fs, f, hu, hfi, rfl, hsz, hag⟩ := fdO_spec hf
    simp only [VR] at hx
    obtain ⟨us, rfl, hc⟩ := hx
    obtain ⟨y, hy, hv⟩ := hc.get h
    rw [Array.getElem?_toList] at hy
    exact ⟨y, by simp [Instr.field, run_underlying hu, hfi, part, asAgg, run_isAgg hag, hy], hv⟩
  · cases h
def ZT (x : IV) (i : Nat) : Option IV :=
  match x with
  | .tup cs => cs[i]?
  | _ => none
theorem extractI_run {P : Program} {F : Frz} {ρ : Lay} {w : World} {x v : IV} {u : Value} {i : Nat} (hx : VR F ρ x u) (h : ZT x i = some v) :
    ∃ y, (Instr.extract u i).run P w = .ok y w ∧ VR F ρ v y := by
  cases x <;> simp only [ZT] at h <;> try cases h
  simp only [VR] at hx
  obtain ⟨us, rfl, hc⟩ := hx
  obtain ⟨y, hy, hv⟩ := hc.get h
  rw [Array.getElem?_toList] at hy
  exact ⟨y, by simp [Instr.extract, hy], hv⟩
def Zp (P : Program) (t : TypeId) (x ix : IV) (h : Heap) : Option IV :=
  match (elO P t).bind (szO P), x, ix with
  | some n, .vs s es, .int _ i => if 0 ≤ i ∧ s = n then (es[i.toNat]?).map IV.fptr else none
  | some n, .sl b lo len, .int _ i => if 0 ≤ i ∧ i < (len : Int) then (match h[b]? with | some (some k) => if k.size = n then some (.ptr b (lo + i.toNat) 0) else none | _ => none) else none
  | _, _, _ => none
theorem indexAddrI_run {P : Program} {F : Frz} {ρ : Lay} {h : Heap} {w : World} (hr : Rel F ρ h w) {t : TypeId} {x ix v : IV} {u y : Value} (hx : VR F ρ x u) (hi : VR F ρ ix y) (hv : Zp P t x ix h = some v) :
    ∃ z, (Instr.indexAt t u y).run P w = .ok z w ∧ VR F ρ v z := by
  unfold Zp at hv
  split at hv
  · rename_i n s es k i hn
    split at hv
    · rename_i hc
      obtain ⟨h0, rfl⟩ := hc
      simp only [Option.bind_eq_some_iff] at hn
      obtain ⟨e, he, hsz⟩ := hn
      have hu := elO_underlying he
      simp only [Option.map_eq_some_iff] at hv
      obtain ⟨el, hel, rfl⟩ := hv
      simp only [VR] at hx hi
      subst hi
      obtain ⟨A, c, rfl, hlc, hrows⟩ := hx
      have hlt : i.toNat < es.length := (List.getElem?_eq_some_iff.1 hel).1
      have hne : es ≠ [] := by intro e0; rw [e0] at hlt; simp at hlt
      obtain ⟨R, off, rfl, hrow⟩ := hrows hne
      refine ⟨.pointer (some ⟨R, off + i.toNat * s, none⟩), ?_, R, _, rfl, (RowsAt.get hrow hel).2⟩
      have hlt' : i < (es.length : Int) := by omega
      simp [Instr.indexAt, asIntOf, run_underlying hu, h0, hlt', run_sizeOf hsz, Addr.add_lit]
    · cases hv
  · rename_i n b lo len k i hn
    split at hv
    · rename_i hc
      obtain ⟨h0, hlt'⟩ := hc
      split at hv
      · rename_i kb hb
        split at hv
        · rename_i hks
          cases hv
          simp only [Option.bind_eq_some_iff] at hn
          obtain ⟨e, he, hsz⟩ := hn
          have hu := elO_underlying he
          simp only [VR] at hx hi
          subst hi
          obtain ⟨l, a, c, hl, rfl, hlc, hor⟩ := hx
          obtain ⟨l', hl', _, cs, _, _, g3, _⟩ := hr.liv b kb hb
          rw [hl] at hl'; cases hl'
          rcases hor with ⟨hz, _⟩ | ⟨rfl, _⟩
          · omega
          · refine ⟨.pointer (some ⟨l.R, l.base + lo * l.size + i.toNat * n, none⟩), ?_, l, hl, ?_⟩
            · simp [Instr.indexAt, asIntOf, run_underlying hu, h0, hlt', run_sizeOf hsz, Addr.add_lit]
            · rw [g3, hks, Nat.add_mul, Nat.add_zero, Nat.add_assoc]
        · cases hv
      · cases hv
    · cases hv
  · cases hv
def strO (P : Program) (t : TypeId) : Bool := match P.underlying t with | some .string => true | _ => false
theorem strO_underlying {P : Program} {t : TypeId} (h : strO P t = true) : P.underlying t = some .string := by
  unfold strO at h; split at h
  · assumption
  · cases h
def indexI (P : Program) (t : TypeId) (x ix : IV) : Option IV :=
  match x, ix with
  | .str s, .int _ i => if strO P t = true ∧ 0 ≤ i then (s[i.toNat]?).map fun b => .int .u8 b.toNat else none
  | _, _ => none
theorem indexI_run {P : Program} {F : Frz} {ρ : Lay} {w : World} {t : TypeId} {x ix v : IV} {u y : Value} (hx : VR F ρ x u) (hi : VR F ρ ix y) (hv : indexI P t x ix = some v) :
    ∃ z, (Instr.index t u y).run P w = .ok z w ∧ VR F ρ v z := by
  unfold indexI at hv
  split at hv
  · rename_i s k i
    split at hv
    · rename_i hc
      obtain ⟨hst, h0⟩ := hc
      simp only [Option.map_eq_some_iff] at hv
      obtain ⟨b, hb, rfl⟩ := hv
      simp only [VR] at hx hi
      subst hx; subst hi
      refine ⟨.int .u8 b.toNat, ?_, by simp [VR]⟩
      simp [Instr.index, asIntOf, run_underlying (strO_underlying hst), h0, hb]
    · cases hv
  · cases hv
def boundI (d : Int) : Option IV → Option Int
  | none => some d
  | some (.int _ i) => some i
  | _ => none
def sliceI (P : Program) (t : TypeId) (x : IV) (lo hi : Option IV) (h : Heap) : Option IV :=
  match x, (elO P t).bind (szO P) with
  | .vs s es, some n => match boundI 0 lo, boundI es.length hi with
    | some l, some m => if 0 ≤ l ∧ l ≤ m ∧ m ≤ (es.length : Int) ∧ s = n then some (.vs s ((es.drop l.toNat).take (m.toNat - l.toNat))) else none
    | _, _ => none
  | .sl b lo' len, some n => match boundI 0 lo, boundI len hi, h[b]? with
    | some l, some m, some (some k) => if 0 ≤ l ∧ l ≤ m ∧ m ≤ (len : Int) ∧ k.size = n then some (.sl b (lo' + l.toNat) (m.toNat - l.toNat)) else none
    | _, _, _ => none
  | .snil, some _ => match boundI 0 lo, boundI 0 hi with
    | some l, some m => if l = 0 ∧ m = 0 then some .snil else none
    | _, _ => none
  | _, _ => none
theorem run_bounds {P : Program} {F : Frz} {ρ : Lay} {w : World} {lo hi : Option IV} {lu hu : Option Value} (len cap : Nat) (l m : Int) (hlo : ∀ v, lo = some v → ∃ u, lu = some u ∧ VR F ρ v u) (hlo' : lo = none → lu = none) (hhi : ∀ v, hi = some v → ∃ u, hu = some u ∧ VR F ρ v u) (hhi' : hi = none → hu = none)
    (h1 : boundI 0 lo = some l) (h2 : boundI len hi = some m) (h0 : 0 ≤ l) (hlm : l ≤ m) (hm : m ≤ (len : Int)) (hc : len ≤ cap) : (Instr.sliceBounds true len cap lu hu none).run P w = .ok (l.toNat, m.toNat, cap) w := by
  have bnd : ∀ (k : IntKind) (i : Int) (y : Nat) (code : BoundsCode), 0 ≤ i → i ≤ (y : Int) → (Instr.sliceBound (.int k i) y code).run P w = .ok i.toNat w := by
    intro k i y code h0 h1
    simp [Instr.sliceBound, asIntOf, h0, h1]
  have hhigh : hu = none ∧ m = len ∨ ∃ k, hu = some (.int k m) := by
    cases hi with
    | none =>
      simp only [boundI, Option.some.injEq] at h2
      exact .inl ⟨hhi' rfl, h2.symm⟩
    | some v =>
      obtain ⟨u, hu', hv⟩ := hhi v rfl
      cases v <;> simp only [boundI, Option.some.injEq] at h2 <;> try cases h2
      simp only [VR] at hv
      subst hv
      exact .inr ⟨_, hu'⟩
  have hlow : lu = none ∧ l = 0 ∨ ∃ k, lu = some (.int k l) := by
    cases lo with
    | none =>
      simp only [boundI, Option.some.injEq] at h1
      exact .inl ⟨hlo' rfl, h1.symm⟩
    | some v =>
      obtain ⟨u, hu', hv⟩ := hlo v rfl
      cases v <;> simp only [boundI, Option.some.injEq] at h1 <;> try cases h1
      simp only [VR] at hv
      subst hv
      exact .inr ⟨_, hu'⟩
  unfold Instr.sliceBounds
  rcases hhigh with ⟨rfl, rfl⟩ | ⟨k, rfl⟩ <;> rcases hlow with ⟨rfl, rfl⟩ | ⟨k', rfl⟩
  · simp
  · simp [bnd k' l len _ h0 (by omega)]
  · simp [bnd k m cap _ (by omega) (by omega)]
  · simp [bnd k m cap _ (by omega) (by omega), bnd k' l m.toNat _ h0 (by omega)]
theorem sliceI_run {P : Program} {F : Frz} {ρ : Lay} {h : Heap} {w : World} (hr : Rel F ρ h w) {t : TypeId} {x v : IV} {u : Value} {lo hi : Option IV} {lu hu : Option Value} (hx : VR F ρ x u)
    (hlo : ∀ v, lo = some v → ∃ u, lu = some u ∧ VR F ρ v u) (hlo' : lo = none → lu = none) (hhi : ∀ v, hi = some v → ∃ u, hu = some u ∧ VR F ρ v u) (hhi' : hi = none → hu = none)
    (hv : sliceI P t x lo hi h = some v) : ∃ z, (Instr.sliceAt t u lu hu none).run P w = .ok z w ∧ VR F ρ v z := by
  unfold sliceI at hv
  split at hv
  · rename_i s es n hn
    simp only [Option.bind_eq_some_iff] at hn
    obtain ⟨e, he, hsz⟩ := hn
    have hun := elO_underlying he
    split at hv
    · rename_i l m h1 h2
      split at hv
      · rename_i hc
        obtain ⟨h0, hlm, hm, rfl⟩ := hc
        cases hv
        simp only [VR] at hx
        obtain ⟨A, c, rfl, hlc, hrows⟩ := hx
        have hb := run_bounds (P := P) (w := w) es.length c l m hlo hlo' hhi hhi' h1 h2 h0 hlm hm hlc
        refine ⟨_, by
          simp only [Instr.sliceAt, Instr.slice, Sem.run_bind, run_underlying hun, Result.andThen_ok, hb, run_sizeOf hsz, Sem.run_pure]; rfl, ?_⟩
        have hlen : ((es.drop l.toNat).take (m.toNat - l.toNat)).length = m.toNat - l.toNat := by simp; omega
        refine ⟨_, c - l.toNat, by rw [hlen], by rw [hlen]; omega, fun hne => ?_⟩
        have hpos : 0 < m.toNat - l.toNat := by
          rcases Nat.eq_zero_or_pos (m.toNat - l.toNat) with h0 | h0
          · rw [h0] at hne; simp at hne
          · exact h0
        have hne' : es ≠ [] := by intro e0; rw [e0] at hm; simp at hm; omega
        obtain ⟨R, off, rfl, hrow⟩ := hrows hne'
        refine ⟨R, off + l.toNat * s, ?_, RowsAt.take _ (RowsAt.drop _ hrow)⟩
        rw [if_neg (by omega)]
        simp [Addr.add_lit]
      · cases hv
    · cases hv
  · rename_i b lo1 len n hn
    simp only [Option.bind_eq_some_iff] at hn
    obtain ⟨e, he, hsz⟩ := hn
    have hun := elO_underlying he
    split at hv
    · rename_i l m k h1 h2 hbk
      split at hv
      · rename_i hc
        obtain ⟨h0, hlm, hm, hks⟩ := hc
        cases hv
        simp only [VR] at hx
        obtain ⟨lc, a, c, hl, rfl, hlc, hor⟩ := hx
        obtain ⟨l', hl', _, cs, _, _, g3, _⟩ := hr.liv b k hbk
        rw [hl] at hl'; cases hl'
        have hb := run_bounds (P := P) (w := w) len c l m hlo hlo' hhi hhi' h1 h2 h0 hlm hm hlc
        refine ⟨_, by
          simp only [Instr.sliceAt, Instr.slice, Sem.run_bind, run_underlying hun, Result.andThen_ok, hb, run_sizeOf hsz, Sem.run_pure]; rfl, ?_⟩
        by_cases hcl : c = l.toNat
        · simp only [VR]
          refine ⟨lc, a, 0, hl, ?_, by omega, .inl ⟨by omega, rfl⟩⟩
          rw [if_pos hcl, hcl]; simp
        · rw [if_neg hcl]
          simp only [VR]
          rcases hor with ⟨hz, hz'⟩ | ⟨rfl, htot⟩
          · omega
          · refine ⟨lc, _, c - l.toNat, hl, rfl, by omega, .inr ⟨?_, ?_⟩⟩
            · show Addr.add _ _ = _
              rw [Addr.add_lit, g3, hks, Nat.add_mul, Nat.add_assoc]
            · have : lo1 + l.toNat + (c - l.toNat) = lo1 + c := by omega
              rw [this]; exact htot
      · cases hv
    · cases hv
  · rename_i n hn
    simp only [Option.bind_eq_some_iff] at hn
    obtain ⟨e, he, hsz⟩ := hn
    have hun := elO_underlying he
    split at hv
    · rename_i l m h1 h2
      split at hv
      · rename_i hc
        obtain ⟨rfl, rfl⟩ := hc
        cases hv
        simp only [VR] at hx
        subst hx
        have hb := run_bounds (P := P) (w := w) 0 0 0 0 hlo hlo' hhi hhi' h1 h2 (Int.le_refl _) (Int.le_refl _) (Int.le_refl _) (Nat.le_refl _)
        refine ⟨_, by
          simp only [Instr.sliceAt, Instr.slice, Sem.run_bind, run_underlying hun, Result.andThen_ok, hb, run_sizeOf hsz, Sem.run_pure]; rfl, ?_⟩
        simp [VR]
      · cases hv
    · cases hv
  · cases hv
def lenI (P : Program) (t : TypeId) (x : IV) : Option IV :=
  match x with
  | .vs _ es => if (elO P t).isSome then some (.int .i64 es.length) else none
  | .sl _ _ len => if (elO P t).isSome then some (.int .i64 len) else none
  | .snil => if (elO P t).isSome then some (.int .i64 0) else none
  | .str s => if strO P t then some (.int .i64 s.size) else none
  | _ => none
theorem lenI_run {P : Program} {F : Frz} {ρ : Lay} {w : World} {t ty : TypeId} {x v : IV} {u : Value} (hx : VR F ρ x u) (h : lenI P t x = some v) :
    ∃ z, (Builtin.len_ #[t] ty #[u]).run P w = .ok z w ∧ VR F ρ v z := by
  unfold lenI at h
  split at h
  · split at h
    · rename_i hs
      cases h
      obtain ⟨e, he⟩ := Option.isSome_iff_exists.1 hs
      simp only [VR] at hx
      obtain ⟨A, c, rfl, _⟩ := hx
      exact ⟨_, by simp [Builtin.len_, run_underlying (elO_underlying he)]; rfl, by simp [VR, goInt]⟩
    · cases h
  · split at h
    · rename_i hs
      cases h
      obtain ⟨e, he⟩ := Option.isSome_iff_exists.1 hs
      simp only [VR] at hx
      obtain ⟨l, a, c, _, rfl, _⟩ := hx
      exact ⟨_, by simp [Builtin.len_, run_underlying (elO_underlying he)]; rfl, by simp [VR, goInt]⟩
    · cases h
  · split at h
    · rename_i hs
      cases h
      obtain ⟨e, he⟩ := Option.isSome_iff_exists.1 hs
      simp only [VR] at hx
      subst hx
      exact ⟨_, by simp [Builtin.len_, run_underlying (elO_underlying he)]; rfl, by simp [VR, goInt]⟩
    · cases h
  · split at h
    · rename_i hs
      cases h
      simp only [VR] at hx
      subst hx
      exact ⟨_, by simp [Builtin.len_, run_underlying (strO_underlying hs)]; rfl, by simp [VR, goInt]⟩
    · cases h
  · cases h
def arithI (op : BinOp) (k : IntKind) (a : Int) (k' : IntKind) (b : Int) : Option IV :=
  match op with
  | .shl => if 0 ≤ b then some (.int k (k.wrap (a * 2 ^ (min b.toNat k.bits)))) else none
  | .shr => if 0 ≤ b then some (.int k (a.fdiv (2 ^ (min b.toNat k.bits)))) else none
  | op =>
    if k = k' then
      match op with
      | .add => some (.int k (k.wrap (a + b)))
      | .sub => some (.int k (k.wrap (a - b)))
      | .mul => some (.int k (k.wrap (a * b)))
      | .quo => if b = 0 then none else some (.int k (k.wrap (a.tdiv b)))
      | .rem => if b = 0 then none else some (.int k (a.tmod b))
      | .and => some (.int k (k.wrap (BitVec.ofInt k.bits a &&& BitVec.ofInt k.bits b).toNat))
      | .or => some (.int k (k.wrap (BitVec.ofInt k.bits a ||| BitVec.ofInt k.bits b).toNat))
      | .xor => some (.int k (k.wrap (BitVec.ofInt k.bits a ^^^ BitVec.ofInt k.bits b).toNat))
      | .andNot => some (.int k (k.wrap (BitVec.ofInt k.bits a &&& ~~~ BitVec.ofInt k.bits b).toNat))
      | .eql => some (.bool (a == b))
      | .neq => some (.bool (a != b))
      | .lss => some (.bool (a < b))
      | .leq => some (.bool (a ≤ b))
      | .gtr => some (.bool (a > b))
      | .geq => some (.bool (a ≥ b))
      | _ => none
    else none
theorem arithI_run {P : Program} {F : Frz} {ρ : Lay} {w : World} {op : BinOp} {t : TypeId} {k k' : IntKind} {a b : Int} {v : IV} (h : arithI op k a k' b = some v) :
    ∃ z, (binOp op t (.int k a) (.int k' b)).run P w = .ok z w ∧ VR F ρ v z := by
  unfold arithI at h
  cases op <;> simp only at h <;>
  first
  | (split at h
     · rename_i hb
       cases h
       exact ⟨_, by simp [binOp, Op.shift, show ¬ b < 0 by omega]; rfl, by simp [VR]⟩
     · cases h)
  | (split at h
     · rename_i hk
       subst hk
       first
       | (cases h; exact ⟨_, by simp [binOp, Op.intArith, Op.intBits, Op.intCmp]; rfl, by simp [VR]⟩)
       | (split at h
          · cases h
          · rename_i hb
            cases h; exact ⟨_, by simp [binOp, Op.intDiv, hb]; rfl, by simp [VR]⟩)
       | cases h
     · cases h)
end Go.Ideal
namespace Go.Ideal
theorem Step.rename {F : Frz} {ρ : Lay} {h : Heap} {w : World} (hr : Rel F ρ h w) {b : Nat} {k : Blk} {l : Loc} (hb : h[b]? = some (some k)) (hl : ρ b = some l) (k2 : Blk) (base2 : Nat) (hty : k2.ty = k.ty) (hsz : k2.size = k.size)
    (hrows : ∀ cs : Array Value, w.heap[l.R]? = some (.cells cs k.ty (0, 0)) → base2 + k2.es.length * k2.size ≤ cs.size ∧ RowsAt F ρ k2.size k2.es (cs[·]?) base2) :
    Step F ρ h w F (ρ.upd h.length ⟨l.R, base2, k.size, l.tot⟩) (h.set b none ++ [some k2]) w := by
  have hext := Lay.upd_ext hr.low ⟨l.R, base2, k.size, l.tot⟩
  obtain ⟨l0, hl0, hF, cs, g1, g2, g3, g4, g5⟩ := hr.liv b k hb
  rw [hl] at hl0; cases hl0
  have hset : ∀ (c : Nat) (k' : Blk), (h.set b none ++ [some k2])[c]? = some (some k') → c < h.length ∧ c ≠ b ∧ h[c]? = some (some k') ∨ c = h.length ∧ k' = k2 := by
    intro c k' e
    rcases getElem?_app e with ⟨e1, hlt⟩ | ⟨e0, e1⟩
    · by_cases hc : c = b
      · subst hc; rw [List.getElem?_set] at e1; simp at e1
      · rw [List.getElem?_set_ne (Ne.symm hc)] at e1; exact .inl ⟨by simpa using hlt, hc, e1⟩
    · cases e1; exact .inr ⟨by simpa using e0, rfl⟩
  obtain ⟨q1, q2⟩ := hrows cs g1
  refine ⟨FLe.refl F, hext, ⟨hr.frz, ?_, ?_, ?_⟩, fun _ _ _ => rfl, ?_, fun R o e => .inl e, by simp, fun b l' hb e => by rw [Lay.upd_other _ _ (Nat.ne_of_lt hb)] at e; exact e, Nat.le_refl _, rfl, rfl, rfl⟩
  · intro c k' e
    rcases hset c k' e with ⟨hlt, hne, e⟩ | ⟨rfl, rfl⟩
    · obtain ⟨l', h1, h2, cs', h3, h4, h5, h6, h7⟩ := hr.liv c k' e
      exact ⟨l', hext c l' h1, h2, cs', h3, h4, h5, h6, RowsAt.move (n := h.length) (FLe.refl F) (fun b l _ e => hext b l e) _ _ _ _ _ (RowsAt.bel hr.low _ _ _ _ h7) (fun _ _ e => e) h7⟩
    · exact ⟨_, Lay.upd_same _ _ _, hF, cs, by rw [hty]; exact g1, g2, hsz.symm, q1, RowsAt.move (n := h.length) (FLe.refl F) (fun b l _ e => hext b l e) _ _ _ _ _ (RowsAt.bel hr.low _ _ _ _ q2) (fun _ _ e => e) q2⟩
  · intro c c' k1 k2' l1 l2 e e' h1 h2 h3
    rcases hset c k1 e with ⟨hlt, hne, f⟩ | ⟨rfl, rfl⟩
    · rw [Lay.upd_other _ _ (Nat.ne_of_lt hlt)] at h1
      rcases hset c' k2' e' with ⟨hlt', hne', f'⟩ | ⟨rfl, rfl⟩
      · rw [Lay.upd_other _ _ (Nat.ne_of_lt hlt')] at h2
        exact hr.inj c c' k1 k2' l1 l2 f f' h1 h2 h3
      · rw [Lay.upd_same] at h2; cases h2
        exact absurd (hr.inj c b k1 k l1 l f hb h1 hl h3) hne
    · rw [Lay.upd_same] at h1; cases h1
      rcases hset c' k2' e' with ⟨hlt', hne', f'⟩ | ⟨rfl, rfl⟩
      · rw [Lay.upd_other _ _ (Nat.ne_of_lt hlt')] at h2
        exact absurd (hr.inj c' b k2' k l2 l f' hb h2 hl h3.symm) hne'
      · rfl
  · intro c l' e
    simp only [List.length_append, List.length_set, List.length_cons, List.length_nil]
    by_cases hc : c = h.length
    · omega
    · rw [Lay.upd_other _ _ hc] at e
      have := hr.low c l' e
      omega
  · rintro i ⟨c, k', l', e, h1, h2⟩ _
    rcases hset c k' e with ⟨hlt, hne, e⟩ | ⟨rfl, rfl⟩
    · rw [Lay.upd_other _ _ (Nat.ne_of_lt hlt)] at h1
      exact ⟨c, k', l', e, h1, h2⟩
    · rw [Lay.upd_same] at h1; cases h1
      exact ⟨b, k, l, hb, hl, h2⟩
def srcI (h : Heap) (n : Nat) : IV → Option (List (List IV))
  | .vs s es => if s = n then some es else none
  | .sl b lo len => match h[b]? with
    | some (some k) => if lo + len ≤ k.es.length ∧ k.size = n then some ((k.es.drop lo).take len) else none
    | _ => none
  | .snil => some []
  | _ => none
theorem srcI_at {F : Frz} {ρ : Lay} {h : Heap} {w : World} (hr : Rel F ρ h w) {n : Nat} {x : IV} {u : Value} {es : List (List IV)} (hx : VR F ρ x u) (hs : srcI h n x = some es) :
    ∃ A c, u = .slice A es.length c ∧ es.length ≤ c ∧ (es ≠ [] → ∃ R off, A = some ⟨R, off, none⟩ ∧ RowsAt F ρ n es (fun j => w.cell? ⟨R, j, none⟩) off) := by
  unfold srcI at hs
  split at hs
  · split at hs
    · rename_i hn
      subst hn
      cases hs
      simp only [VR] at hx
      obtain ⟨A, c, rfl, hlc, hrows⟩ := hx
      refine ⟨A, c, rfl, hlc, fun hne => ?_⟩
      obtain ⟨R, off, hA, hrow⟩ := hrows hne
      refine ⟨R, off, hA, RowsAt.shift hrow fun j u _ hj => ?_⟩
      unfold fcell at hj
      cases e : F R with
      | none => rw [e] at hj; cases hj
      | some o =>
        rw [e] at hj
        have := hr.frz R o e
        cases o <;> simp at hj
        simpa [World.cell?, this] using hj
    · cases hs
  · rename_i b lo len
    split at hs
    · rename_i k hb
      split at hs
      · rename_i hc
        obtain ⟨hle, rfl⟩ := hc
        cases hs
        have hlen : ((k.es.drop lo).take len).length = len := by simp; omega
        simp only [VR] at hx
        obtain ⟨l, a, c, hl, rfl, hlc, hor⟩ := hx
        refine ⟨some a, c, by rw [hlen], by rw [hlen]; exact hlc, fun hne => ?_⟩
        obtain ⟨l', hl', _, cs, g1, g2, g3, g4, g5⟩ := hr.liv b k hb
        rw [hl] at hl'; cases hl'
        rcases hor with ⟨h0, _⟩ | ⟨rfl, _⟩
        · subst h0; simp at hne
        · refine ⟨_, _, rfl, ?_⟩
          rw [g3]
          exact RowsAt.shift (RowsAt.take len (RowsAt.drop lo g5)) fun j u _ hj => by simpa [World.cell?, g1] using hj
      · cases hs
    · cases hs
  · cases hs
    simp only [VR] at hx
    subst hx
    exact ⟨none, 0, rfl, Nat.le_refl _, fun h => absurd rfl h⟩
  · cases hs
theorem rows_news {F : Frz} {ρ : Lay} {w : World} {n R off : Nat} {es : List (List IV)} (h : RowsAt F ρ n es (fun j => w.cell? ⟨R, j, none⟩) off) :
    ∃ news : List Value, VRs F ρ es.flatten news ∧ news.length = es.length * n ∧ ∀ j u, news[j]? = some u → w.cell? ((⟨R, off, none⟩ : Addr).add j) = some u := by
  obtain ⟨h1, h2⟩ := RowsAt.flat h
  obtain ⟨us, hv, hg⟩ := CellsAt.get h1
  exact ⟨us, hv, by rw [← hv.length, h2], fun j u hj => by rw [Addr.add_lit]; exact hg j u hj⟩
def Zt (es : List (List IV)) : Bool := es.all (·.all oneI)
theorem onesI_news {F : Frz} {ρ : Lay} {es : List (List IV)} {news : List Value} (h : Zt es = true) (hv : VRs F ρ es.flatten news) : ∀ u ∈ news, u.oneCell' = true := by
  refine oneI_all ?_ hv
  rw [List.all_eq_true]
  intro x hx
  obtain ⟨e, he, hxe⟩ := List.mem_flatten.1 hx
  exact List.all_eq_true.1 (List.all_eq_true.1 h e he) x hxe
def Zk (P : Program) (t t2 : TypeId) (s x : IV) (h : Heap) : Option (IV × Heap) :=
  match elO P t, elO P t2 with
  | some e, some _ => match zrO P e, szO P e, byO P e with
    | some z, some n, some by_ =>
      if z.length = n ∧ 0 < n ∧ by_ ≤ 65536 then
        match srcI h n x with
        | none => none
        | some es =>
          if es = [] then (match s with | .vs _ _ | .sl _ _ _ | .snil => some (s, h) | _ => none)
          else match s with
            | .snil => if es.length ≤ 1073741824 then some (.sl h.length 0 es.length, h ++ [some ⟨n, e, es⟩]) else none
            | .sl b lo len => match h[b]? with
              | some (some k) => if lo + len ≤ k.es.length ∧ k.size = n ∧ k.ty = e ∧ len + es.length ≤ 1073741824 ∧ Zt es = true then
                  some (.sl h.length 0 (len + es.length), h.set b none ++ [some ⟨n, e, (k.es.drop lo).take len ++ es⟩]) else none
              | _ => none
            | _ => none
      else none
    | _, _, _ => none
  | _, _ => none
theorem append_types {P : Program} {t t2 ty e e2 : TypeId} (h1 : P.underlying t = some (.slice e)) (h2 : P.underlying t2 = some (.slice e2)) (args : Array Value) (w : World) :
    (Builtin.append_ #[t, t2] ty args).run P w = (Builtin.append_ #[t, t] ty args).run P w := by
  unfold Builtin.append_
  cases args[0]? with
  | none => rfl
  | some s =>
    cases args[1]? with
    | none => rfl
    | some x => cases s <;> (cases hi : P.info? e <;> simp [run_underlying h1, run_underlying h2, sizeOf, typeInfo, hi])
theorem run_append_none {P : Program} {w : World} {t ty e : TypeId} {n : Nat} (h1 : P.underlying t = some (.slice e)) (hs : szO P e = some n) (base A : Option Addr) (sLen sCap c : Nat) (hle : sLen ≤ sCap) :
    (Builtin.append_ #[t, t] ty #[.slice base sLen sCap, .slice A 0 c]).run P w = .ok (.slice base sLen sCap) w := by
  have hl : ∀ x : Addr, (loadCells x 0).run P w = .ok #[] w := fun x => by simpa using run_loadCells_list (P := P) w x [] (by simp)
  cases base <;> cases A <;> simp [Builtin.append_, run_underlying h1, run_sizeOf hs, Builtin.lenOf, Builtin.firstCells, hle, hl, storeCells]
theorem appendI_run {P : Program} {F : Frz} {ρ : Lay} {h h' : Heap} {w : World} (hr : Rel F ρ h w) {t t2 ty : TypeId} {s x v : IV} {su xu : Value} (hs : VR F ρ s su) (hx : VR F ρ x xu) (ha : Zk P t t2 s x h = some (v, h')) :
    ∃ u W ρ', (Builtin.append_ #[t, t2] ty #[su, xu]).run P w = .ok u W ∧ Step F ρ h w F ρ' h' W ∧ VR F ρ' v u := by
  unfold Zk at ha
  split at ha
  · rename_i e e2 hel hel2
    split at ha
    · rename_i z n by_ hz hn hby
      split at ha
      · rename_i hcond
        obtain ⟨hzl, hpos, hbb⟩ := hcond
        have hu := elO_underlying hel
        rw [append_types hu (elO_underlying hel2)]
        split at ha
        · cases ha
        · rename_i es hsrc
          obtain ⟨A, c, rfl, hlc, hrows⟩ := srcI_at hr hx hsrc
          split at ha
          · rename_i hes
            subst hes
            have key : ∀ base sl sc, su = .slice base sl sc → sl ≤ sc → v = s → h' = h → ∃ u W ρ', (Builtin.append_ #[t, t] ty #[su, .slice A ([] : List (List IV)).length c]).run P w = .ok u W ∧ Step F ρ h w F ρ' h' W ∧ VR F ρ' v u := by
              rintro base sl sc rfl hle rfl rfl
              exact ⟨_, w, ρ, run_append_none hu hn base A sl sc c hle, Step.refl hr, hs⟩
            split at ha
            · simp only [Option.some.injEq, Prod.mk.injEq] at ha
              have hs' := hs
              simp only [VR] at hs'
              obtain ⟨A', c', rfl, hle, _⟩ := hs'
              exact key _ _ _ rfl hle ha.1.symm ha.2.symm
            · simp only [Option.some.injEq, Prod.mk.injEq] at ha
              have hs' := hs
              simp only [VR] at hs'
              obtain ⟨l', a', c', _, rfl, hle, _⟩ := hs'
              exact key _ _ _ rfl hle ha.1.symm ha.2.symm
            · simp only [Option.some.injEq, Prod.mk.injEq] at ha
              have hs' := hs
              simp only [VR] at hs'
              subst hs'
              exact key _ _ _ rfl (Nat.le_refl _) ha.1.symm ha.2.symm
            · cases ha
          · rename_i hes
            obtain ⟨R, off, rfl, hrow⟩ := hrows hes
            obtain ⟨news, hnv, hnl, hng⟩ := rows_news hrow
            have huni := RowsAt.uniform hrow
            have hm : 0 < es.length := by cases es with | nil => exact absurd rfl hes | cons _ _ => simp
            unfold zrO at hz
            have hn' := hn
            have hby' := hby
            unfold szO at hn'
            unfold byO at hby'
            cases hi : P.info? e with
            | none => simp [hi] at hz
            | some ie =>
            cases hzero : ie.zero with
            | none => simp [hi, hzero] at hz
            | some zv =>
            simp [hi, hzero] at hz hn' hby'
            have hzs : zv.cells.size = n := by rw [← hzl, ← hz]; simp
            have growRows : ∀ (olds : List (List IV)) (ou : List Value) (cap : Nat), VRs F ρ olds.flatten ou → (∀ e ∈ olds, e.length = n) → ou.length = olds.length * n → olds.length + es.length ≤ cap →
                (ou.toArray ++ news.toArray ++ Builtin.zeroCells zv.cells (cap - (olds.length + es.length))).size = cap * n ∧ RowsAt F ρ n (olds ++ es) ((ou.toArray ++ news.toArray ++ Builtin.zeroCells zv.cells (cap - (olds.length + es.length)))[·]?) 0 := by
              intro olds ou cap hov hou hol hcap
              refine ⟨?_, ?_⟩
              · simp only [Array.size_append, List.size_toArray, size_zeroCells, hzs, hol, hnl, ← Nat.add_mul]
                congr 1; omega
              · have huo : ∀ e' ∈ olds ++ es, e'.length = n := fun e' he' => (List.mem_append.1 he').elim (hou e') (huni e')
                refine RowsAt.of_flat huo ?_
                rw [List.flatten_append]
                refine CellsAt.mk (hov.append hnv) fun j u hj => ?_
                have hjl := (List.getElem?_eq_some_iff.1 hj).1
                rw [Array.getElem?_append_left (by simpa using hjl)]
                simpa using hj
            split at ha
            · split at ha
              · rename_i hle
                simp only [Option.some.injEq, Prod.mk.injEq] at ha
                obtain ⟨rfl, rfl⟩ := ha
                simp only [VR] at hs
                subst hs
                have hrun := run_append_nil (P := P) w t ty e ie zv hu hi hzero ⟨R, off, none⟩ es.length c news (by rw [hnl, hn']) hng hm (by omega) (by
                  have : es.length * ie.bytes ≤ 1073741824 * 65536 := Nat.mul_le_mul hle (by omega)
                  omega)
                have hge := grownCap_ge w es.length 0 e
                obtain ⟨q1, q2⟩ := growRows [] [] (grownCap w es.length 0 e) (by simp [VRs]) (by simp) (by simp) (by simpa using hge)
                simp only [List.length_nil, Nat.zero_add, List.nil_append] at q1 q2
                have e1 : (([] : List Value).toArray ++ news.toArray ++ Builtin.zeroCells zv.cells (grownCap w es.length 0 e - es.length)) = (news.toArray ++ Builtin.zeroCells zv.cells (grownCap w es.length 0 e - es.length)) := by simp
                rw [e1] at q1 q2
                obtain ⟨ρ', st, hv⟩ := push_slice hr e (n := es.length) (c := grownCap w es.length 0 e) rfl hge q1 q2 (W := w.drew.alloc (.cells (news.toArray ++ Builtin.zeroCells zv.cells (grownCap w es.length 0 e - es.length)) e)) rfl rfl rfl rfl
                exact ⟨_, _, ρ', hrun, st, hv⟩
              · cases ha
            · rename_i b lo len
              split at ha
              · rename_i k hb
                split at ha
                · rename_i hcc
                  obtain ⟨hle, hks, hkt, hsmall, hones⟩ := hcc
                  simp only [Option.some.injEq, Prod.mk.injEq] at ha
                  obtain ⟨rfl, rfl⟩ := ha
                  simp only [VR] at hs
                  obtain ⟨l, a, sc, hl, rfl, hlsc, hor⟩ := hs
                  obtain ⟨l', hl', hF, cs, g1, g2, g3, g4, g5⟩ := hr.liv b k hb
                  rw [hl] at hl'; cases hl'
                  have holdlen : ((k.es.drop lo).take len).length = len := by simp; omega
                  by_cases hroom : len + es.length ≤ sc
                  · -- in its own array
                    rcases hor with ⟨h0, h00⟩ | ⟨rfl, htot⟩
                    · omega
                    have hlen_news : news.length = es.length * n := hnl
                    have hfit : l.base + lo * l.size + len * n + es.length * n ≤ cs.size := by
                      rw [g3, hks] at htot ⊢
                      have h1 : (lo + len + es.length) * n ≤ (lo + sc) * n := Nat.mul_le_mul_right _ (by omega)
                      simp only [Nat.add_mul] at h1 htot
                      rw [g2] at htot
                      omega
                    have hst := run_storeCells_at P l.R (l.base + lo * l.size + len * n) k.ty news 0 cs w g1 (by rw [hlen_news]; omega) (onesI_news hones hnv)
                    simp only [Nat.add_zero] at hst
                    have hf := run_firstCells_some (P := P) w ie.size es.length ⟨R, off, none⟩ es.length c news (by rw [hnl, hn']) hng
                    have hrun : (Builtin.append_ #[t, t] ty #[.slice (some ⟨l.R, l.base + lo * l.size, none⟩) len sc, .slice (some ⟨R, off, none⟩) es.length c]).run P w =
                        .ok (.slice (some ⟨l.R, l.base + lo * l.size, none⟩) (len + es.length) sc) (w.setRow l.R (cs.toList.take (l.base + lo * l.size + len * n) ++ news ++ cs.toList.drop (l.base + lo * l.size + len * n + news.length)).toArray) := by
                      rw [← hn'] at hst ⊢
                      simp [Builtin.append_, run_underlying hu, sizeOf, typeInfo, hi, Builtin.lenOf, hroom, hf, Addr.add_lit, hst]
                    refine ⟨_, _, ρ.upd h.length ⟨l.R, l.base + lo * l.size, n, l.tot⟩, hrun, ?_, ?_⟩
                    · let cs' := (cs.toList.take (l.base + lo * l.size + len * n) ++ news ++ cs.toList.drop (l.base + lo * l.size + len * n + news.length)).toArray
                      have hcs' : cs'.size = cs.size := by
                        simp only [cs', List.size_toArray, List.length_append, List.length_take, List.length_drop, Array.length_toList]; omega
                      have hlow : ∀ j u, j < l.base + lo * l.size + len * n → cs[j]? = some u → cs'[j]? = some u := by
                        intro j u hj hu'
                        simp only [cs', List.getElem?_toArray]
                        rw [List.append_assoc, List.getElem?_append_left (by simp; omega), List.getElem?_take, if_pos hj]
                        simpa using hu'
                      have hmid : ∀ j u, news[j]? = some u → cs'[l.base + lo * l.size + len * n + j]? = some u := by
                        intro j u hj
                        have hjl := (List.getElem?_eq_some_iff.1 hj).1
                        simp only [cs', List.getElem?_toArray]
                        rw [List.append_assoc, List.getElem?_append_right (by simp; omega), List.getElem?_append_left (by simp; omega), ← hj]
                        congr 1; simp; omega
                      have hkeep : RowsAt F ρ k.size (k.es.take (lo + len)) (cs'[·]?) l.base := by
                        refine RowsAt.shift (RowsAt.take (lo + len) g5) fun j u hj hu' => hlow _ u ?_ hu'
                        rw [List.length_take, Nat.min_eq_left hle, hks] at hj
                        rw [g3, hks]
                        simp only [Nat.add_mul] at hj
                        omega
                      have s1 := Step.write hr hb hl cs' (k.es.take (lo + len)) (setRow_heap w l.R cs cs' k.ty _ g1) (fun j hj => setRow_other w l.R j _ hj) (by simp [World.setRow]) rfl rfl rfl (by rw [hcs', g2]) (by
                        rw [hcs', List.length_take, Nat.min_eq_left hle, hks]
                        rw [g3, hks] at hfit
                        simp only [Nat.add_mul]
                        omega) hkeep
                      have hb1 : (h.set b (some { k with es := k.es.take (lo + len) }))[b]? = some (some { k with es := k.es.take (lo + len) }) := by
                        rw [List.getElem?_set]; simp [hr.low b l hl]
                      have s2 := Step.rename s1.rel hb1 hl ⟨n, e, (k.es.drop lo).take len ++ es⟩ (l.base + lo * l.size) hkt.symm hks.symm (fun cs2 hcs2 => by
                        have hc2 : cs2 = cs' := by
                          rw [setRow_heap w l.R cs cs' k.ty _ g1] at hcs2
                          cases hcs2; rfl
                        subst hc2
                        refine ⟨?_, ?_⟩
                        · show l.base + lo * l.size + ((k.es.drop lo).take len ++ es).length * n ≤ cs'.size
                          rw [hcs', List.length_append, holdlen, Nat.add_mul]; omega
                        · refine RowsAt.append ?_ ?_
                          · have hd := RowsAt.drop lo hkeep
                            rw [hks] at hd
                            rw [g3, hks, List.take_drop]
                            exact hd
                          · rw [holdlen]
                            exact RowsAt.of_flat huni (CellsAt.mk hnv fun j u hj => hmid j u hj))
                      have s3 := s1.trans s2
                      simp only [List.length_set, hks, List.set_set] at s3
                      exact s3
                    · refine ⟨_, _, sc, Lay.upd_same _ _ _, rfl, hroom, .inr ⟨by simp, ?_⟩⟩
                      rw [g3, hks] at htot
                      simp only [Nat.zero_add]
                      rw [g3, hks]
                      rw [Nat.add_mul] at htot
                      omega
                  · -- in a new array
                    have holdrow : RowsAt F ρ n ((k.es.drop lo).take len) (cs[·]?) (l.base + lo * n) := by
                      have := RowsAt.take len (RowsAt.drop lo g5)
                      rwa [hks] at this
                    obtain ⟨hoc, hol⟩ := RowsAt.flat holdrow
                    obtain ⟨ou, hov, hog⟩ := CellsAt.get hoc
                    have hou := hov.length
                    have hou2 : ou.length = len * n := by rw [← hou, hol, holdlen]
                    have haddr : ∀ j u, ou[j]? = some u → w.cell? (a.add j) = some u := by
                      intro j u hj
                      rcases hor with ⟨h0, h00⟩ | ⟨rfl, htot⟩
                      · have := (List.getElem?_eq_some_iff.1 hj).1
                        rw [hou2, h0] at this; simp at this
                      · rw [Addr.add_lit, g3, hks]
                        simpa [World.cell?, g1] using hog j u hj
                    have hbytes : (len + es.length) * ie.bytes ≤ 140737488355328 := by
                      have : (len + es.length) * ie.bytes ≤ 1073741824 * 65536 := Nat.mul_le_mul hsmall (by omega)
                      omega
                    have hrun := run_append_grow (P := P) w t ty e ie zv hu hi hzero a len sc ou (by rw [hou2, hn']) haddr ⟨R, off, none⟩ es.length c news (by rw [hnl, hn']) hng (by omega) (by omega) (growslice_fits (by omega) hbytes)
                    have hge := grownCap_ge w (len + es.length) sc e
                    obtain ⟨q1, q2⟩ := growRows ((k.es.drop lo).take len) ou (grownCap w (len + es.length) sc e) hov (RowsAt.uniform holdrow) (by rw [hou2, holdlen]) (by rw [holdlen]; exact hge)
                    rw [holdlen] at q1 q2
                    have sk := Step.kill hr b
                    obtain ⟨ρ', st, hv⟩ := push_slice sk.rel e (n := len + es.length) (c := grownCap w (len + es.length) sc e) (by rw [List.length_append, holdlen]) hge q1 q2 (W := w.drew.alloc (.cells (ou.toArray ++ news.toArray ++ Builtin.zeroCells zv.cells (grownCap w (len + es.length) sc e - (len + es.length))) e)) rfl rfl rfl rfl
                    simp only [List.length_set] at st hv
                    exact ⟨_, _, ρ', hrun, sk.trans st, hv⟩
                · cases ha
              · cases ha
            · cases ha
      · cases ha
    · cases ha
  · cases ha
end Go.Ideal
namespace Go.Ideal
inductive Ck where | b | i | s
def eqFs (P : Program) (g : TypeId → Option (List Ck)) : List Field → Nat → Option (List Ck)
  | [], _ => some []
  | f :: fs, off =>
    if (f.name == "_") || (f.offset != off) then none else
    match g f.type, agO P f.type, szO P f.type with
    | some ks, some ag, some s => if s = ks.length ∧ (ag = false → s = 1) then (eqFs P g fs (off + s)).map (ks ++ ·) else none
    | _, _, _ => none
def eqKs (P : Program) : Nat → TypeId → Option (List Ck)
  | 0, _ => none
  | d + 1, t =>
    match P.underlying t with
    | some .bool => some [.b]
    | some (.int _) => some [.i]
    | some .string => some [.s]
    | some (.struct fs) => if P.stoodInHeld t then none else eqFs P (eqKs P d) fs.toList 0
    | _ => none
def eqO (P : Program) (t : TypeId) : Option (List Ck) := if P.eqGuardType P.depth t then none else eqKs P 10000 t
def cmpI : List Ck → List IV → List IV → Option Bool
  | [], _, _ => some true
  | .b :: ks, .bool a :: xs, .bool b :: ys => (cmpI ks xs ys).map ((a == b) && ·)
  | .i :: ks, .int k a :: xs, .int k' b :: ys => if k = k' then (cmpI ks xs ys).map ((a == b) && ·) else none
  | .s :: ks, .str a :: xs, .str b :: ys => (cmpI ks xs ys).map ((a == b) && ·)
  | _, _, _ => none
theorem cmpI_append : ∀ (ks ks' : List Ck) (xs ys : List IV) (r : Bool), cmpI (ks ++ ks') xs ys = some r → ∃ r1 r2, cmpI ks (xs.take ks.length) (ys.take ks.length) = some r1 ∧ cmpI ks' (xs.drop ks.length) (ys.drop ks.length) = some r2 ∧ r = (r1 && r2) ∧ ks.length ≤ xs.length ∧ ks.length ≤ ys.length
  | [], ks', xs, ys, r, h => ⟨true, r, by simp [cmpI], by simpa using h, by simp, by simp, by simp⟩
  | k :: ks, ks', xs, ys, r, h => by
    cases k <;> cases xs with
    | nil => simp [cmpI] at h
    | cons x xs =>
      cases ys with
      | nil => cases x <;> simp [cmpI] at h
      | cons y ys =>
        cases x <;> cases y <;> simp only [List.cons_append, cmpI] at h <;> try cases h
        first
        | (simp only [Option.map_eq_some_iff] at h
           obtain ⟨r', h, rfl⟩ := h
           obtain ⟨r1, r2, h1, h2, rfl, h3, h4⟩ := cmpI_append ks ks' xs ys r' h
           exact ⟨_, r2, by simp [cmpI, h1]; rfl, by simpa using h2, by simp [Bool.and_assoc], by simpa using h3, by simpa using h4⟩)
        | (split at h
           · rename_i hk
             simp only [Option.map_eq_some_iff] at h
             obtain ⟨r', h, rfl⟩ := h
             obtain ⟨r1, r2, h1, h2, rfl, h3, h4⟩ := cmpI_append ks ks' xs ys r' h
             exact ⟨_, r2, by simp [cmpI, h1, hk]; rfl, by simpa using h2, by simp [Bool.and_assoc], by simpa using h3, by simpa using h4⟩
           · cases h)
theorem eqFields_run {P : Program} {F : Frz} {ρ : Lay} {w : World} {d : Nat} {g : TypeId → Option (List Ck)}
    (hg : ∀ t ks xs ys x y r, g t = some ks → (agO P t = some true → ∃ us vs, x = .agg us ∧ y = .agg vs ∧ VRs F ρ xs us.toList ∧ VRs F ρ ys vs.toList) → (agO P t = some false → ∃ a b, xs = [a] ∧ ys = [b] ∧ VR F ρ a x ∧ VR F ρ b y) →
      cmpI ks xs ys = some r → (Op.equalIn d t x y).run P w = .ok r w) {us vs : Array Value} {xs ys : List IV} (hx : VRs F ρ xs us.toList) (hy : VRs F ρ ys vs.toList) :
    ∀ (fs : List Field) (off : Nat) (ks : List Ck) (r : Bool), eqFs P g fs off = some ks → cmpI ks (xs.drop off) (ys.drop off) = some r → (Op.eqFields d us vs fs).run P w = .ok r w
  | [], off, ks, r, h, hc => by
    simp [eqFs] at h; subst h
    simp [cmpI] at hc; subst hc
    simp [Op.eqFields]
  | f :: fs, off, ks, r, h, hc => by
    simp only [eqFs] at h
    split at h
    · cases h
    · rename_i hn
      simp only [Bool.or_eq_true, beq_iff_eq, bne_iff_ne, ne_eq, not_or, Decidable.not_not] at hn
      obtain ⟨hn, rfl⟩ := hn
      split at h
      · rename_i k1 ag s hg1 hag hs
        split at h
        · rename_i hcond
          obtain ⟨rfl, h1⟩ := hcond
          simp only [Option.map_eq_some_iff] at h
          obtain ⟨ks', h, rfl⟩ := h
          obtain ⟨r1, r2, c1, c2, rfl, l1, l2⟩ := cmpI_append _ _ _ _ _ hc
          simp only [List.drop_drop, List.length_drop] at c2 l1 l2
          have ih := eqFields_run hg hx hy fs (f.offset + k1.length) ks' r2 h c2
          have e1 : ∃ x y, (part f.type us f.offset).run P w = .ok x w ∧ (part f.type vs f.offset).run P w = .ok y w ∧ (Op.equalIn d f.type x y).run P w = .ok r1 w := by
            cases ag with
            | true =>
              refine ⟨.agg (us.extract f.offset (f.offset + k1.length)), .agg (vs.extract f.offset (f.offset + k1.length)), by simp [part, run_isAgg hag, run_sizeOf hs], by simp [part, run_isAgg hag, run_sizeOf hs], ?_⟩
              refine hg _ k1 _ _ _ _ r1 hg1 (fun _ => ⟨_, _, rfl, rfl, ?_, ?_⟩) (fun h => by rw [hag] at h; cases h) c1
              · simpa [Array.toList_extract, List.extract] using (hx.drop f.offset).take k1.length
              · simpa [Array.toList_extract, List.extract] using (hy.drop f.offset).take k1.length
            | false =>
              have hone := h1 rfl
              have lx : f.offset < xs.length := by omega
              have ly : f.offset < ys.length := by omega
              obtain ⟨x, hx1, hx2⟩ := hx.get (List.getElem?_eq_getElem lx)
              obtain ⟨y, hy1, hy2⟩ := hy.get (List.getElem?_eq_getElem ly)
              rw [Array.getElem?_toList] at hx1 hy1
              refine ⟨x, y, by simp [part, run_isAgg hag, hx1], by simp [part, run_isAgg hag, hy1], ?_⟩
              refine hg _ k1 _ _ _ _ r1 hg1 (fun h => by rw [hag] at h; cases h) (fun _ => ⟨_, _, ?_, ?_, hx2, hy2⟩) c1
              · rw [hone, List.drop_eq_getElem_cons lx]; rfl
              · rw [hone, List.drop_eq_getElem_cons ly]; rfl
          obtain ⟨x, y, p1, p2, p3⟩ := e1
          rw [Op.eqFields]
          simp only [ne_eq, hn, not_false_eq_true, if_true, Sem.run_bind, p1, p2, p3, Result.andThen_ok]
          cases r1
          · simp
          · simpa using ih
        · cases h
      · cases h
theorem eqKs_run {P : Program} {F : Frz} {ρ : Lay} {w : World} : ∀ (d : Nat) (t : TypeId) (ks : List Ck) (xs ys : List IV) (x y : Value) (r : Bool), eqKs P d t = some ks →
    (agO P t = some true → ∃ us vs, x = .agg us ∧ y = .agg vs ∧ VRs F ρ xs us.toList ∧ VRs F ρ ys vs.toList) → (agO P t = some false → ∃ a b, xs = [a] ∧ ys = [b] ∧ VR F ρ a x ∧ VR F ρ b y) →
    cmpI ks xs ys = some r → (Op.equalIn d t x y).run P w = .ok r w
  | 0, t, ks, _, _, _, _, _, h, _, _, _ => by simp [eqKs] at h
  | d + 1, t, ks, xs, ys, x, y, r, h, ha, hb, hc => by
    simp only [eqKs] at h
    split at h
    · rename_i hu
      cases h
      obtain ⟨a, b, rfl, rfl, va, vb⟩ := hb (by simp [agO, hu])
      cases a <;> (try (simp [cmpI] at hc; done))
      cases b <;> (try (simp [cmpI] at hc; done))
      simp only [cmpI] at hc
      simp only [VR] at va vb
      subst va; subst vb
      simp only [Option.map_some, Bool.and_true, Option.some.injEq] at hc
      subst hc
      exact run_equalIn_bool' w d t _ _ hu
    · rename_i kk hu
      cases h
      obtain ⟨a, b, rfl, rfl, va, vb⟩ := hb (by simp [agO, hu])
      cases a <;> (try (simp [cmpI] at hc; done))
      cases b <;> (try (simp [cmpI] at hc; done))
      simp only [cmpI] at hc
      split at hc
      · rename_i hk
        subst hk
        simp only [VR] at va vb
        subst va; subst vb
        simp only [Option.map_some, Bool.and_true, Option.some.injEq] at hc
        subst hc
        exact run_equalIn_int w d t _ _ _ _ hu
      · cases hc
    · rename_i hu
      cases h
      obtain ⟨a, b, rfl, rfl, va, vb⟩ := hb (by simp [agO, hu])
      cases a <;> (try (simp [cmpI] at hc; done))
      cases b <;> (try (simp [cmpI] at hc; done))
      simp only [cmpI] at hc
      simp only [VR] at va vb
      subst va; subst vb
      simp only [Option.map_some, Bool.and_true, Option.some.injEq] at hc
      subst hc
      simp only [Op.equalIn, Sem.run_bind, run_underlying hu, Result.andThen_ok]
      rfl
    · rename_i fs hu
      split at h
      · cases h
      · rename_i hs
        obtain ⟨us, vs, rfl, rfl, hx, hy⟩ := ha (by simp [agO, hu])
        have hf : P.fieldsOf t = fs := by simp [Program.fieldsOf, hu]
        rw [run_equalIn_struct (P := P) w d t us vs (by rw [hf]; exact hu) (by simpa using hs), hf]
        exact eqFields_run (fun t ks xs ys x y r => eqKs_run d t ks xs ys x y r) hx hy fs.toList 0 ks r h (by simpa using hc)
    · cases h
inductive Kn where | bo | pt | sl | fu | ag | no
def knO (P : Program) (t : TypeId) : Kn :=
  match P.underlying t with
  | some .bool => .bo
  | some (.pointer _) => .pt
  | some (.slice _) => .sl
  | some (.func _ _ _) => .fu
  | some (.struct _) => .ag
  | _ => .no
def eqI (P : Program) (t : TypeId) (x y : IV) : Option Bool :=
  match knO P t, x, y with
  | .bo, .bool a, .bool b => some (a == b)
  | .pt, .nil, .nil => some true
  | .pt, .nil, .ptr _ _ _ => some false
  | .pt, .nil, .fptr _ => some false
  | .pt, .ptr _ _ _, .nil => some false
  | .pt, .fptr _, .nil => some false
  | .sl, .snil, .snil => some true
  | .sl, .sl _ _ _, .snil => some false
  | .sl, .vs _ es, .snil => if es = [] then none else some false
  | .ag, .agg xs, .agg ys => match eqO P t with
    | some ks => if ks.length = xs.length ∧ ks.length = ys.length then cmpI ks xs ys else none
    | none => none
  | _, _, _ => none
theorem knO_bo {P : Program} {t : TypeId} (h : knO P t = .bo) : P.underlying t = some .bool := by
  unfold knO at h; split at h <;> first | assumption | cases h
theorem knO_pt {P : Program} {t : TypeId} (h : knO P t = .pt) : ∃ e, P.underlying t = some (.pointer e) := by
  unfold knO at h; split at h <;> first | exact ⟨_, by assumption⟩ | cases h
theorem knO_sl {P : Program} {t : TypeId} (h : knO P t = .sl) : ∃ e, P.underlying t = some (.slice e) := by
  unfold knO at h; split at h <;> first | exact ⟨_, by assumption⟩ | cases h
theorem knO_ag {P : Program} {t : TypeId} (h : knO P t = .ag) : ∃ e, P.underlying t = some (.struct e) := by
  unfold knO at h; split at h <;> first | exact ⟨_, by assumption⟩ | cases h
theorem equal_pn {P : Program} {w : World} {t e : TypeId} (hu : P.underlying t = some (.pointer e)) (d : Nat) (b : Option Addr) : (Op.equalIn (d + 1) t (.pointer none) (.pointer b)).run P w = .ok b.isNone w := by
  simp only [Op.equalIn, Sem.run_bind, run_underlying hu, Result.andThen_ok]; rfl
theorem equal_np {P : Program} {w : World} {t e : TypeId} (hu : P.underlying t = some (.pointer e)) (d : Nat) (b : Addr) : (Op.equalIn (d + 1) t (.pointer (some b)) (.pointer none)).run P w = .ok false w := by
  simp only [Op.equalIn, Sem.run_bind, run_underlying hu, Result.andThen_ok]; rfl
theorem equal_sn {P : Program} {w : World} {t e : TypeId} (hu : P.underlying t = some (.slice e)) (d : Nat) (l c l' c' : Nat) : (Op.equalIn (d + 1) t (.slice none l c) (.slice none l' c')).run P w = .ok true w := by
  simp only [Op.equalIn, Sem.run_bind, run_underlying hu, Result.andThen_ok]; rfl
theorem equal_ns {P : Program} {w : World} {t e : TypeId} (hu : P.underlying t = some (.slice e)) (d : Nat) (a : Addr) (l c l' c' : Nat) : (Op.equalIn (d + 1) t (.slice (some a) l c) (.slice none l' c')).run P w = .ok false w := by
  simp only [Op.equalIn, Sem.run_bind, run_underlying hu, Result.andThen_ok]; rfl
theorem eqI_run {P : Program} {F : Frz} {ρ : Lay} {w : World} {t : TypeId} {x y : IV} {u v : Value} {r : Bool} (hx : VR F ρ x u) (hy : VR F ρ y v) (h : eqI P t x y = some r) :
    (Op.equal t u v).run P w = .ok r w ∧ (∀ (op : BinOp) (ox oy : Operand), (eqGuard op t ox oy u v).run P w = .ok () w) ∧
      binOp .eql t u v = (do pure (.bool (← Op.equal t u v))) ∧ binOp .neq t u v = (do pure (.bool (!(← Op.equal t u v)))) := by
  unfold eqI at h
  split at h
  · rename_i a b hk
    have hu := knO_bo hk
    simp only [VR] at hx hy
    subst hx; subst hy
    simp only [Option.some.injEq] at h; subst h
    exact ⟨run_equalIn_bool' w 9999 t _ _ hu, fun op _ _ => by cases op <;> simp [eqGuard], rfl, rfl⟩
  · rename_i hk
    obtain ⟨e, hu⟩ := knO_pt hk
    simp only [VR] at hx hy
    subst hx; subst hy
    simp only [Option.some.injEq] at h; subst h
    exact ⟨equal_pn hu 9999 none, fun op _ _ => by cases op <;> simp [eqGuard], rfl, rfl⟩
  · rename_i hk
    obtain ⟨e, hu⟩ := knO_pt hk
    simp only [VR] at hx hy
    subst hx; obtain ⟨l, _, rfl⟩ := hy
    simp only [Option.some.injEq] at h; subst h
    exact ⟨equal_pn hu 9999 (some _), fun op _ _ => by cases op <;> simp [eqGuard], rfl, rfl⟩
  · rename_i hk
    obtain ⟨e, hu⟩ := knO_pt hk
    simp only [VR] at hx hy
    subst hx; obtain ⟨R, off, rfl, _⟩ := hy
    simp only [Option.some.injEq] at h; subst h
    exact ⟨equal_pn hu 9999 (some _), fun op _ _ => by cases op <;> simp [eqGuard], rfl, rfl⟩
  · rename_i hk
    obtain ⟨e, hu⟩ := knO_pt hk
    simp only [VR] at hx hy
    subst hy; obtain ⟨l, _, rfl⟩ := hx
    simp only [Option.some.injEq] at h; subst h
    exact ⟨equal_np hu 9999 _, fun op _ _ => by cases op <;> simp [eqGuard], rfl, rfl⟩
  · rename_i hk
    obtain ⟨e, hu⟩ := knO_pt hk
    simp only [VR] at hx hy
    subst hy; obtain ⟨R, off, rfl, _⟩ := hx
    simp only [Option.some.injEq] at h; subst h
    exact ⟨equal_np hu 9999 _, fun op _ _ => by cases op <;> simp [eqGuard], rfl, rfl⟩
  · rename_i hk
    obtain ⟨e, hu⟩ := knO_sl hk
    simp only [VR] at hx hy
    subst hx; subst hy
    simp only [Option.some.injEq] at h; subst h
    exact ⟨equal_sn hu 9999 _ _ _ _, fun op _ _ => by cases op <;> simp [eqGuard], rfl, rfl⟩
  · rename_i hk
    obtain ⟨e, hu⟩ := knO_sl hk
    simp only [VR] at hx hy
    subst hy; obtain ⟨l, a, c, _, rfl, _⟩ := hx
    simp only [Option.some.injEq] at h; subst h
    exact ⟨equal_ns hu 9999 _ _ _ _ _, fun op _ _ => by cases op <;> simp [eqGuard], rfl, rfl⟩
  · rename_i s es hk
    obtain ⟨e, hu⟩ := knO_sl hk
    split at h
    · cases h
    · rename_i hne
      simp only [VR] at hx hy
      subst hy; obtain ⟨A, c, rfl, _, hr⟩ := hx
      obtain ⟨R, off, rfl, _⟩ := hr hne
      simp only [Option.some.injEq] at h; subst h
      exact ⟨equal_ns hu 9999 _ _ _ _ _, fun op _ _ => by cases op <;> simp [eqGuard], rfl, rfl⟩
  · rename_i xs ys hk
    obtain ⟨fs, hu⟩ := knO_ag hk
    split at h
    · rename_i ks hk
      split at h
      · simp only [VR] at hx hy
        obtain ⟨us, rfl, hx⟩ := hx
        obtain ⟨vs, rfl, hy⟩ := hy
        unfold eqO at hk
        split at hk
        · cases hk
        · rename_i hgd
          exact ⟨eqKs_run 10000 t ks xs ys _ _ r hk (fun _ => ⟨us, vs, rfl, rfl, hx, hy⟩) (fun h => by simp [agO, hu] at h) h, fun op ox oy => run_eqGuard_agg w op t ox oy us vs (by simpa using hgd), rfl, rfl⟩
      · cases h
    · cases h
  · cases h
def strI (op : BinOp) (a b : ByteArray) : Option IV :=
  match op with
  | .eql => some (.bool (a.toList == b.toList))
  | .neq => some (.bool !(a.toList == b.toList))
  | .lss => some (.bool (Op.bytesLess a.toList b.toList))
  | .leq => some (.bool (Op.bytesLess a.toList b.toList || a.toList == b.toList))
  | .gtr => some (.bool !(Op.bytesLess a.toList b.toList || a.toList == b.toList))
  | .geq => some (.bool !Op.bytesLess a.toList b.toList)
  | .add => if a.size + b.size ≤ 9223372036854775807 then some (.str (a ++ b)) else none
  | _ => none
def Z5 (P : Program) (op : BinOp) (t : TypeId) (x y : IV) : Option IV :=
  match x, y with
  | .int k a, .int k' b => arithI op k a k' b
  | .str a, .str b => strI op a b
  | x, y => match op with
    | .eql => (eqI P t x y).map .bool
    | .neq => (eqI P t x y).map fun r => .bool !r
    | _ => none
theorem binI_run {P : Program} {F : Frz} {ρ : Lay} {w : World} {op : BinOp} {t : TypeId} {x y z : IV} {u v : Value} {ox oy : Operand} (hx : VR F ρ x u) (hy : VR F ρ y v) (h : Z5 P op t x y = some z) :
    ∃ r, (do eqGuard op t ox oy u v; binOp op t u v : Sem Value).run P w = .ok r w ∧ VR F ρ z r := by
  unfold Z5 at h
  split at h
  · rename_i k a k' b
    simp only [VR] at hx hy
    subst hx; subst hy
    obtain ⟨r, h1, h2⟩ := arithI_run (P := P) (F := F) (ρ := ρ) (w := w) (t := t) h
    refine ⟨r, ?_, h2⟩
    have : (eqGuard op t ox oy (.int k a) (.int k' b)).run P w = .ok () w := by cases op <;> simp [eqGuard]
    simp [this, h1]
  · rename_i a b
    simp only [VR] at hx hy
    subst hx; subst hy
    unfold strI at h
    have hm : IntKind.i64.max = 9223372036854775807 := by decide
    cases op <;> simp only at h <;> (try cases h)
    case add =>
      split at h
      · rename_i hl
        cases h
        have hn : ¬ (IntKind.i64.max < (a.size : Int) + b.size) := by rw [hm]; omega
        refine ⟨.string (a ++ b), ?_, by simp [VR]⟩
        simp [eqGuard, binOp, Op.stringOp, hn]
        all_goals omega
      · cases h
    all_goals exact ⟨_, by simp [eqGuard, binOp, Op.stringOp]; rfl, by simp [VR]⟩
  · split at h
    · simp only [Option.map_eq_some_iff] at h
      obtain ⟨r, h, rfl⟩ := h
      obtain ⟨e1, e2, e3, e4⟩ := eqI_run (w := w) hx hy h
      refine ⟨.bool r, ?_, by simp [VR]⟩
      simp only [Sem.run_bind, e2, Result.andThen_ok]
      rw [e3]
      simp [e1]
    · simp only [Option.map_eq_some_iff] at h
      obtain ⟨r, h, rfl⟩ := h
      obtain ⟨e1, e2, e3, e4⟩ := eqI_run (w := w) hx hy h
      refine ⟨.bool !r, ?_, by simp [VR]⟩
      simp only [Sem.run_bind, e2, Result.andThen_ok]
      rw [e4]
      simp [e1]
    · cases h
def unI (op : UnOp) (x : IV) : Option IV :=
  match op, x with
  | .not, .bool b => some (.bool !b)
  | .neg, .int k n => some (.int k (k.wrap (0 - n)))
  | _, _ => none
theorem unI_run {P : Program} {F : Frz} {ρ : Lay} {w : World} {op : UnOp} {x z : IV} {u : Value} (hx : VR F ρ x u) (h : unI op x = some z) : ∃ r, (Op.unary op u).run P w = .ok r w ∧ VR F ρ z r := by
  unfold unI at h
  split at h <;> try cases h
  all_goals
    simp only [VR] at hx
    subst hx
    exact ⟨_, by simp [Op.unary, Op.intArith]; rfl, by simp [VR]⟩
end Go.Ideal
namespace Go.Ideal
def copyI (P : Program) (t : TypeId) (d x : IV) (h : Heap) : Option (IV × Heap) :=
  match (elO P t).bind (szO P) with
  | none => none
  | some n => match srcI h n x with
    | none => none
    | some es => match d with
      | .snil => some (.int .i64 0, h)
      | .sl b lo len => match h[b]? with
        | some (some k) => if lo + len ≤ k.es.length ∧ k.size = n ∧ Zt es = true then
            some (.int .i64 (min es.length len : Nat), h.set b (some { k with es := k.es.take lo ++ es.take (min es.length len) ++ k.es.drop (lo + min es.length len) })) else none
        | _ => none
      | _ => none
theorem copyI_run {P : Program} {F : Frz} {ρ : Lay} {h h' : Heap} {w : World} (hr : Rel F ρ h w) {t t2 ty : TypeId} {d x v : IV} {du xu : Value} (hd : VR F ρ d du) (hx : VR F ρ x xu) (hc : copyI P t d x h = some (v, h')) :
    ∃ u W, (Builtin.copy_ #[t, t2] ty #[du, xu]).run P w = .ok u W ∧ Step F ρ h w F ρ h' W ∧ VR F ρ v u := by
  unfold copyI at hc
  split at hc
  · cases hc
  · rename_i n hn
    simp only [Option.bind_eq_some_iff] at hn
    obtain ⟨e, he, hsz⟩ := hn
    have hu := elO_underlying he
    split at hc
    · cases hc
    · rename_i es hsrc
      obtain ⟨A, c, rfl, hlc, hrows⟩ := srcI_at hr hx hsrc
      split at hc
      · simp only [Option.some.injEq, Prod.mk.injEq] at hc
        obtain ⟨rfl, rfl⟩ := hc
        simp only [VR] at hd
        subst hd
        have hl : ∀ x : Addr, (loadCells x 0).run P w = .ok #[] w := fun x => by simpa using run_loadCells_list (P := P) w x [] (by simp)
        refine ⟨goInt 0, w, ?_, Step.refl hr, by simp [VR, goInt]⟩
        have hm0 : Nat.min es.length 0 = 0 := Nat.min_zero _
        cases A <;> simp [Builtin.copy_, run_underlying hu, Builtin.lenOf, Builtin.firstCells, run_sizeOf hsz, hl, hm0]
      · rename_i b lo len
        split at hc
        · rename_i k hb
          split at hc
          · rename_i hcond
            obtain ⟨hle, hks, hones⟩ := hcond
            simp only [Option.some.injEq, Prod.mk.injEq] at hc
            obtain ⟨rfl, rfl⟩ := hc
            simp only [VR] at hd
            obtain ⟨l, a, dc, hl, rfl, hldc, hor⟩ := hd
            obtain ⟨l', hl', hF, cs, g1, g2, g3, g4, g5⟩ := hr.liv b k hb
            rw [hl] at hl'; cases hl'
            by_cases h0 : min es.length len = 0
            · have hes : k.es.take lo ++ es.take (min es.length len) ++ k.es.drop (lo + min es.length len) = k.es := by rw [h0]; simp
              rw [hes]
              have hset : h.set b (some { k with es := k.es }) = h := by
                apply List.ext_getElem?
                intro j
                rw [List.getElem?_set]
                split
                · rename_i hj; subst hj; rw [if_pos (hr.low b l hl)]; exact hb.symm
                · rfl
              rw [hset]
              have hl0 : ∀ x : Addr, (loadCells x 0).run P w = .ok #[] w := fun x => by simpa using run_loadCells_list (P := P) w x [] (by simp)
              refine ⟨goInt 0, w, ?_, Step.refl hr, by simp [VR, goInt, h0]⟩
              have hmin : Nat.min es.length len = 0 := h0
              cases A <;> simp [Builtin.copy_, run_underlying hu, Builtin.lenOf, Builtin.firstCells, run_sizeOf hsz, hmin, hl0, storeCells]
            · have hpos : es ≠ [] := by rintro rfl; simp at h0
              obtain ⟨R, off, rfl, hrow⟩ := hrows hpos
              have hm1 : min es.length len ≤ es.length := Nat.min_le_left _ _
              have hm2 : min es.length len ≤ len := Nat.min_le_right _ _
              generalize hmdef : min es.length len = m at *
              obtain ⟨news, hnv, hnl, hng⟩ := rows_news (RowsAt.take m hrow)
              rw [List.length_take, Nat.min_eq_left hm1] at hnl
              have hones' : Zt (es.take m) = true := by
                unfold Zt at *
                rw [List.all_eq_true] at *
                exact fun x hx => hones x (List.mem_of_mem_take hx)
              rcases hor with ⟨h1, _⟩ | ⟨rfl, htot⟩
              · omega
              have hfit : l.base + lo * l.size + m * n ≤ cs.size := by
                rw [g3, hks]
                have h1 : (lo + m) * n ≤ (k.es.length) * n := Nat.mul_le_mul_right _ (by omega)
                rw [hks] at g4
                rw [Nat.add_mul] at h1
                omega
              have hst := run_storeCells_at P l.R (l.base + lo * l.size) k.ty news 0 cs w g1 (by rw [hnl]; omega) (onesI_news hones' hnv)
              simp only [Nat.add_zero] at hst
              have hf := run_firstCells_some (P := P) w n m ⟨R, off, none⟩ es.length c news hnl hng
              have hmin : Nat.min es.length len = m := hmdef
              have hrun : (Builtin.copy_ #[t, t2] ty #[.slice (some ⟨l.R, l.base + lo * l.size, none⟩) len dc, .slice (some ⟨R, off, none⟩) es.length c]).run P w =
                  .ok (goInt m) (w.setRow l.R (cs.toList.take (l.base + lo * l.size) ++ news ++ cs.toList.drop (l.base + lo * l.size + news.length)).toArray) := by
                simp [Builtin.copy_, run_underlying hu, Builtin.lenOf, run_sizeOf hsz, hmin, hf, hst]
              refine ⟨_, _, hrun, ?_, by simp [VR, goInt]⟩
              let cs' := (cs.toList.take (l.base + lo * l.size) ++ news ++ cs.toList.drop (l.base + lo * l.size + news.length)).toArray
              have hcs' : cs'.size = cs.size := by
                simp only [cs', List.size_toArray, List.length_append, List.length_take, List.length_drop, Array.length_toList]; omega
              have hlow : ∀ j u, j < l.base + lo * l.size → cs[j]? = some u → cs'[j]? = some u := by
                intro j u hj hu'
                simp only [cs', List.getElem?_toArray]
                rw [List.append_assoc, List.getElem?_append_left (by simp; omega), List.getElem?_take, if_pos hj]
                simpa using hu'
              have hmid : ∀ j u, news[j]? = some u → cs'[l.base + lo * l.size + j]? = some u := by
                intro j u hj
                have hjl := (List.getElem?_eq_some_iff.1 hj).1
                simp only [cs', List.getElem?_toArray]
                rw [List.append_assoc, List.getElem?_append_right (by simp; omega), List.getElem?_append_left (by simp; omega), ← hj]
                congr 1; simp; omega
              have hhigh : ∀ j u, l.base + lo * l.size + news.length ≤ j → cs[j]? = some u → cs'[j]? = some u := by
                intro j u hj hu'
                simp only [cs', List.getElem?_toArray]
                rw [List.getElem?_append_right (by simp; omega), List.getElem?_drop]
                simp only [List.length_append, List.length_take, Array.length_toList, Array.getElem?_toList]
                rw [← hu']; congr 1; omega
              have hlo : lo ≤ k.es.length := by omega
              refine Step.write hr hb hl cs' _ (setRow_heap w l.R cs cs' k.ty _ g1) (fun j hj => setRow_other w l.R j _ hj) (by simp [World.setRow]) rfl rfl rfl (by rw [hcs', g2]) ?_ ?_
              · rw [hcs']
                simp only [List.length_append, List.length_take, List.length_drop]
                rw [Nat.min_eq_left hlo, Nat.min_eq_left hm1, show lo + m + (k.es.length - (lo + m)) = k.es.length by omega]
                exact g4
              · refine RowsAt.append (RowsAt.append (RowsAt.shift (RowsAt.take lo g5) fun j u hj hu' => hlow _ u ?_ hu') ?_) (RowsAt.shift (RowsAt.drop (lo + m) g5) fun j u hj hu' => ?_)
                · rw [List.length_take, Nat.min_eq_left hlo, hks] at hj; rw [g3, hks]; omega
                · rw [List.length_take, Nat.min_eq_left hlo, hks]
                  refine RowsAt.of_flat (fun e' he' => RowsAt.uniform hrow e' (List.mem_of_mem_take he')) (CellsAt.mk hnv fun j u hj => ?_)
                  have := hmid j u hj
                  rwa [g3, hks] at this
                · have e1 : l.base + (List.take lo k.es ++ List.take m es).length * k.size + j = l.base + (lo + m) * k.size + j := by
                    rw [List.length_append, List.length_take, List.length_take, Nat.min_eq_left hlo, Nat.min_eq_left hm1]
                  rw [e1]
                  refine hhigh _ u ?_ hu'
                  rw [g3, hnl, hks, Nat.add_mul]; omega
          · cases hc
        · cases hc
      · cases hc
def bytesI : List (List IV) → Option (List Int)
  | [] => some []
  | [.int .u8 n] :: es => (bytesI es).map (n :: ·)
  | _ => none
theorem bytesI_flat : ∀ {es : List (List IV)} {xs : List Int}, bytesI es = some xs → es.flatten = xs.map (IV.int .u8) ∧ es.length = xs.length
  | [], xs, h => by simp [bytesI] at h; subst h; simp
  | e :: es, xs, h => by
    unfold bytesI at h
    split at h
    · rename_i heq; cases heq
    · rename_i n es' heq
      cases heq
      simp only [Option.map_eq_some_iff] at h
      obtain ⟨ys, h, rfl⟩ := h
      obtain ⟨h1, h2⟩ := bytesI_flat h
      simp [h1, h2]
    · cases h
def isU8 (P : Program) (t : TypeId) : Bool := match P.underlying t with | some (.int .u8) => true | _ => false
theorem isU8_underlying {P : Program} {t : TypeId} (h : isU8 P t = true) : P.underlying t = some (.int .u8) := by
  unfold isU8 at h; split at h
  · assumption
  · cases h
def inO (P : Program) (t : TypeId) : Option IntKind := match P.underlying t with | some (.int k) => some k | _ => none
theorem inO_underlying {P : Program} {t : TypeId} {k : IntKind} (h : inO P t = some k) : P.underlying t = some (.int k) := by
  unfold inO at h; split at h
  · rename_i hu; cases h; exact hu
  · cases h
def convI (P : Program) (src dst : TypeId) (x : IV) (h : Heap) : Option IV :=
  match x with
  | .int _ n => match inO P src, inO P dst with
    | some _, some k => some (.int k (k.wrap n))
    | _, _ => none
  | x => match elO P src with
    | some e => if isU8 P e && strO P dst then (match (srcI h 1 x).bind bytesI with | some xs => some (.str (strOfNums xs)) | none => none) else none
    | none => none
theorem convI_run {P : Program} {F : Frz} {ρ : Lay} {h : Heap} {w : World} (hr : Rel F ρ h w) {src dst : TypeId} {x v : IV} {u : Value} (hx : VR F ρ x u) (hc : convI P src dst x h = some v) :
    ∃ z, (convert src dst u).run P w = .ok z w ∧ VR F ρ v z := by
  unfold convI at hc
  split at hc
  · split at hc
    · rename_i k n k1 k2 hs hd
      cases hc
      simp only [VR] at hx
      subst hx
      exact ⟨_, by simp [convert, run_underlying (inO_underlying hs), run_underlying (inO_underlying hd), Conv.intToInt]; rfl, by simp [VR]⟩
    · cases hc
  · split at hc
    · rename_i e he
      split at hc
      · rename_i hb
        simp only [Bool.and_eq_true] at hb
        split at hc
        · rename_i xs hxs
          cases hc
          simp only [Option.bind_eq_some_iff] at hxs
          obtain ⟨es, h1, h2⟩ := hxs
          obtain ⟨A, c, rfl, hlc, hrows⟩ := srcI_at hr hx h1
          obtain ⟨f1, f2⟩ := bytesI_flat h2
          refine ⟨_, ?_, rfl⟩
          by_cases hne : es = []
          · subst hne
            simp at f2
            have hx0 : xs = [] := List.eq_nil_of_length_eq_zero f2.symm
            subst hx0
            cases A with
            | none =>
              rw [run_convert_bytes_nil w src e (elO_underlying he) (isU8_underlying hb.1) _ _ dst (strO_underlying hb.2)]
              rfl
            | some a =>
              have hl : (loadCells a 0).run P w = .ok #[] w := by simpa using run_loadCells_list (P := P) w a [] (by simp)
              rw [run_convert_bytes_string w src dst e _ _ c (elO_underlying he) (isU8_underlying hb.1) (strO_underlying hb.2)]
              simp [Conv.bytesToString, hl]
              rfl
          · obtain ⟨R, off, rfl, hrow⟩ := hrows hne
            obtain ⟨news, hnv, hnl, hng⟩ := rows_news hrow
            rw [f1] at hnv
            have hlen := hnv.length
            simp at hlen
            refine run_convert_bytes_arg w src e (elO_underlying he) (isU8_underlying hb.1) R off es.length c xs f2.symm (fun i hi => ?_) dst (strO_underlying hb.2)
            have hi' : i < xs.length := by omega
            obtain ⟨u, hu1, hu2⟩ := hnv.get (j := i) (v := .int .u8 xs[i]) (by simp [hi'])
            simp only [VR] at hu2
            subst hu2
            have := hng i _ hu1
            rw [Addr.add_lit] at this
            rw [this]
            simp [List.getD, List.getElem?_eq_getElem hi']
        · cases hc
      · cases hc
    · cases hc
def mmI (mx : Bool) : IV → List IV → Option IV
  | x, [] => some x
  | .int k a, .int k' b :: r => if k = k' then mmI mx (.int k (if mx then (if b > a then b else a) else (if b < a then b else a))) r else none
  | _, _ => none
theorem mmI_run {P : Program} {F : Frz} {ρ : Lay} {w : World} (mx : Bool) : ∀ (xs : List IV) (us : List Value) (x v : IV) (u : Value), VRs F ρ xs us → VR F ρ x u → mmI mx x xs = some v →
    ∃ z, (us.foldlM (if mx then Builtin.max2 else Builtin.min2) u : Sem Value).run P w = .ok z w ∧ VR F ρ v z
  | [], us, x, v, u, h, hx, hm => by
    simp only [VRs] at h; subst h
    simp [mmI] at hm; subst hm
    exact ⟨u, by simp, hx⟩
  | y :: xs, us, x, v, u, h, hx, hm => by
    simp only [VRs] at h
    obtain ⟨y', us', rfl, hy, h⟩ := h
    unfold mmI at hm
    split at hm
    · rename_i heq; cases heq
    · rename_i k a k' b r heq
      cases heq
      split at hm
      · rename_i hk
        subst hk
        simp only [VR] at hx hy
        subst hx; subst hy
        obtain ⟨z, h1, h2⟩ := mmI_run mx xs us' _ v (.int k (if mx then (if b > a then b else a) else (if b < a then b else a))) h (by simp only [VR]) hm
        refine ⟨z, ?_, h2⟩
        cases mx
        · simpa [Builtin.min2] using h1
        · simp only [if_true] at h1 ⊢
          rw [List.foldlM_cons]
          simpa only [Builtin.max2, Sem.run_bind, Sem.run_pure, Result.andThen_ok] using h1
      · cases hm
    · cases hm
end Go.Ideal
namespace Go.Ideal
abbrev IAct := Nat → IV
def ieval (a : IAct) : Operand → IV
  | .tmp t => a t
  | .const v => toIV v
  | .global _ => .any
  | .func f => .fn f []
def iput (a : IAct) : Option Tmp → IV → IAct
  | some d, v => fun t => if t = d then v else a t
  | none, _ => a
def opI (P : Program) (ev : Operand → IV) (o : Op) (h : Heap) : Option (IV × Heap) :=
  match o with
  | .move x => some (ev x, h)
  | .assign x => some (ev x, h)
  | .pick c x y => match ev c with
    | .bool b => some (if b then ev x else ev y, h)
    | _ => none
  | .alloc t => ZK P t h
  | .box t x => boxI t (ev x) h
  | .build t parts => (buildI P ev t parts).map fun v => (v, h)
  | .buildSlice t n parts => buildSliceI P ev t n parts h
  | .load t x => (Z3 P t (ev x) h).map fun v => (v, h)
  | .store t x y => (Zf P t (ev x) (ev y) h).map fun h' => (.any, h')
  | .nilCheck x => match ev x with
    | .ptr b i o => some (.ptr b i o, h)
    | .fptr cs => some (.fptr cs, h)
    | .fn f cs => some (.fn f cs, h)
    | _ => none
  | .binOp op t x y _ => (Z5 P op t (ev x) (ev y)).map fun v => (v, h)
  | .unOp op _ x => (unI op (ev x)).map fun v => (v, h)
  | .convert s d x => (convI P s d (ev x) h).map fun v => (v, h)
  | .makeFunc fn first caps => match fn, first.toList with
    | .func f, [] => some (.fn f (caps.toList.map ev), h)
    | _, _ => none
  | .makeSlice t l c => ZL P t (ev l) (ev c) h
  | .slice t x lo hi none => (sliceI P t (ev x) (lo.map ev) (hi.map ev) h).map fun v => (v, h)
  | .fieldAddr t x i => (Z4 P t (ev x) i).map fun v => (v, h)
  | .field t x i => (fieldI P t (ev x) i).map fun v => (v, h)
  | .indexAddr t x i => (Zp P t (ev x) (ev i) h).map fun v => (v, h)
  | .index t x i => (indexI P t (ev x) (ev i)).map fun v => (v, h)
  | .extract x i => (ZT (ev x) i).map fun v => (v, h)
  | .call c => match c.callee, c.args.toList, c.argTypes.toList with
    | .builtin .len, [x], [t] => (lenI P t (ev x)).map fun v => (v, h)
    | .builtin .append, [s, x], [t, t2] => Zk P t t2 (ev s) (ev x) h
    | .builtin .copy, [d, x], [t, _] => copyI P t (ev d) (ev x) h
    | .builtin .max, x :: xs, _ => (mmI true (ev x) (xs.map ev)).map fun v => (v, h)
    | .builtin .min, x :: xs, _ => (mmI false (ev x) (xs.map ev)).map fun v => (v, h)
    | _, _, _ => none
  | _ => none
theorem toList_eq {α : Type} {xs : Array α} {l : List α} (h : xs.toList = l) : xs = l.toArray := by rw [← h]
theorem VRs.map {F : Frz} {ρ : Lay} {ev : Operand → IV} {re : Operand → Value} (he : ∀ x, VR F ρ (ev x) (re x)) : ∀ xs : List Operand, VRs F ρ (xs.map ev) (xs.map re)
  | [] => by simp [VRs]
  | x :: xs => ⟨re x, xs.map re, rfl, he x, VRs.map he xs⟩
theorem opI_run {P : Program} {F : Frz} {ρ : Lay} {h h' : Heap} {w : World} (hr : Rel F ρ h w) (ev : Operand → IV) (re : Operand → Value) (he : ∀ x, VR F ρ (ev x) (re x)) (o : Oper) {v : IV} (ho : opI P ev o.op h = some (v, h')) :
    ∃ nx u W ρ', (execOp re o).run P w = .ok nx W ∧ (nx = .value u ∨ nx = .skip ∧ u = undef) ∧ Step F ρ h w F ρ' h' W ∧ VR F ρ' v u := by
  obtain ⟨dst, op, type, pos, after, guard⟩ := o
  have pure1 : ∀ {x : Option IV} {s : Sem Value}, x.map (fun v => (v, h)) = some (v, h') → (∀ v', x = some v' → ∃ u, s.run P w = .ok u w ∧ VR F ρ v' u) →
      ∃ nx u W ρ', (do pure (.value (← s)) : Sem Next).run P w = .ok nx W ∧ (nx = .value u ∨ nx = .skip ∧ u = undef) ∧ Step F ρ h w F ρ' h' W ∧ VR F ρ' v u := by
    intro x s hx hs
    simp only [Option.map_eq_some_iff, Prod.mk.injEq] at hx
    obtain ⟨v', hx, rfl, rfl⟩ := hx
    obtain ⟨u, h1, h2⟩ := hs v' hx
    exact ⟨_, u, w, ρ, by simp [h1], .inl rfl, Step.refl hr, h2⟩
  have new1 : ∀ {s : Sem Value}, (∃ u W ρ', s.run P w = .ok u W ∧ Step F ρ h w F ρ' h' W ∧ VR F ρ' v u) →
      ∃ nx u W ρ', (do pure (.value (← s)) : Sem Next).run P w = .ok nx W ∧ (nx = .value u ∨ nx = .skip ∧ u = undef) ∧ Step F ρ h w F ρ' h' W ∧ VR F ρ' v u := by
    rintro s ⟨u, W, ρ', h1, h2, h3⟩
    exact ⟨_, u, W, ρ', by simp [h1], .inl rfl, h2, h3⟩
  cases op <;> simp only [opI] at ho <;> (try cases ho) <;> simp only [execOp]
  case move x => exact ⟨_, re x, w, ρ, rfl, .inl rfl, Step.refl hr, he x⟩
  case assign x => exact ⟨_, re x, w, ρ, rfl, .inl rfl, Step.refl hr, he x⟩
  case pick c x y =>
    split at ho
    · rename_i b hb
      have hc := he c
      rw [hb] at hc
      simp only [VR] at hc
      simp only [Option.some.injEq, Prod.mk.injEq] at ho
      obtain ⟨rfl, rfl⟩ := ho
      refine ⟨_, if b then re x else re y, w, ρ, by simp [hc, asBool]; rfl, .inl ?_, Step.refl hr, ?_⟩
      · cases b <;> rfl
      · cases b
        · exact he y
        · exact he x
    · cases ho
  case alloc t => exact new1 (allocI_run hr ho)
  case box t x => exact new1 (boxI_run hr (he x) ho)
  case build t parts => exact pure1 ho fun v' hv => buildI_run ev re he hv
  case buildSlice t n parts => exact new1 (buildSliceI_run hr ev re he ho)
  case load t x => exact pure1 ho fun v' hv => loadI_run hr (he x) hv
  case store t x y =>
    simp only [Option.map_eq_some_iff, Prod.mk.injEq] at ho
    obtain ⟨h2, hs, rfl, rfl⟩ := ho
    obtain ⟨W, h1, h2⟩ := storeI_run hr (he x) (he y) hs
    exact ⟨.skip, undef, W, ρ, by simp [h1], .inr ⟨rfl, rfl⟩, h2, by simp [VR]⟩
  case nilCheck x =>
    have hx := he x
    split at ho
    · rename_i b i o heq
      cases ho
      rw [heq] at hx
      have hx' := hx
      simp only [VR] at hx'
      obtain ⟨l, _, h1⟩ := hx'
      exact ⟨_, re x, w, ρ, by rw [h1]; rfl, .inl rfl, Step.refl hr, hx⟩
    · rename_i cs heq
      cases ho
      rw [heq] at hx
      have hx' := hx
      simp only [VR] at hx'
      obtain ⟨R, off, h1, _⟩ := hx'
      exact ⟨_, re x, w, ρ, by rw [h1]; rfl, .inl rfl, Step.refl hr, hx⟩
    · rename_i f cs heq
      cases ho
      rw [heq] at hx
      have hx' := hx
      simp only [VR] at hx'
      obtain ⟨us, h1, _⟩ := hx'
      exact ⟨_, re x, w, ρ, by rw [h1]; rfl, .inl rfl, Step.refl hr, hx⟩
    · cases ho
  case binOp op t x y yt => exact pure1 ho fun v' hv => binI_run (he x) (he y) hv
  case unOp op t x => exact pure1 ho fun v' hv => unI_run (he x) hv
  case convert s d x => exact pure1 ho fun v' hv => convI_run hr (he x) hv
  case makeFunc fn first caps =>
    split at ho
    · rename_i f hf
      cases ho
      have h0 : first = #[] := by rw [toList_eq hf]
      subst h0
      exact ⟨_, .func (.func f) #[] (caps.map re), w, ρ, by simp [Instr.makeFunc], .inl rfl, Step.refl hr, caps.map re, rfl, by rw [Array.toList_map]; exact VRs.map he _⟩
    · cases ho
  case makeSlice t l c => exact new1 (makeSliceI_run hr (he l) (he c) ho)
  case slice t x lo hi mx =>
    cases mx with
    | some m => simp at ho
    | none =>
      simp only at ho
      refine pure1 ho fun v' hv => sliceI_run hr (he x) ?_ ?_ ?_ ?_ hv
      · intro v hv; cases lo with
        | none => cases hv
        | some y => cases hv; exact ⟨_, rfl, he y⟩
      · intro hv; cases lo with
        | none => rfl
        | some y => cases hv
      · intro v hv; cases hi with
        | none => cases hv
        | some y => cases hv; exact ⟨_, rfl, he y⟩
      · intro hv; cases hi with
        | none => rfl
        | some y => cases hv
  case fieldAddr t x i => exact pure1 ho fun v' hv => fieldAddrI_run (he x) hv
  case field t x i => exact pure1 ho fun v' hv => fieldI_run (he x) hv
  case indexAddr t x i => exact pure1 ho fun v' hv => indexAddrI_run hr (he x) (he i) hv
  case index t x i => exact pure1 ho fun v' hv => indexI_run (he x) (he i) hv
  case extract x i => exact pure1 ho fun v' hv => extractI_run (he x) hv
  case call c =>
    obtain ⟨callee, args, argTypes⟩ := c
    simp only at ho
    split at ho
    · rename_i x t ha ht
      rw [toList_eq ha, toList_eq ht]
      exact pure1 ho fun v' hv => by
        obtain ⟨z, h1, h2⟩ := lenI_run (w := w) (ty := type) (he x) hv
        exact ⟨z, by simpa [resolve, invoke, builtin] using h1, h2⟩
    · rename_i s x t t2 ha ht
      rw [toList_eq ha, toList_eq ht]
      obtain ⟨u, W, ρ', h1, h2, h3⟩ := appendI_run hr (ty := type) (he s) (he x) ho
      exact ⟨_, u, W, ρ', by simp [resolve, invoke, builtin, h1], .inl rfl, h2, h3⟩
    · rename_i d x t t2 ha ht
      rw [toList_eq ha, toList_eq ht]
      obtain ⟨u, W, h1, h2, h3⟩ := copyI_run hr (t2 := t2) (ty := type) (he d) (he x) ho
      exact ⟨_, u, W, ρ, by simp [resolve, invoke, builtin, h1], .inl rfl, h2, h3⟩
    · rename_i x xs ha
      rw [toList_eq ha]
      exact pure1 ho fun v' hv => by
        obtain ⟨z, h1, h2⟩ := mmI_run (P := P) (w := w) true _ _ _ v' _ (VRs.map he xs) (he x) hv
        exact ⟨z, by simpa [resolve, invoke, builtin, Builtin.max_] using h1, h2⟩
    · rename_i x xs ha
      rw [toList_eq ha]
      exact pure1 ho fun v' hv => by
        obtain ⟨z, h1, h2⟩ := mmI_run (P := P) (w := w) false _ _ _ v' _ (VRs.map he xs) (he x) hv
        exact ⟨z, by simpa [resolve, invoke, builtin, Builtin.min_] using h1, h2⟩
    · cases ho
end Go.Ideal
namespace Go.Ideal
def Z0 (P : Program) (f : FuncId) (args : List IV) (h : Heap) (K : IV → Heap → Prop) : Prop :=
  ∀ (F : Frz) (ρ : Lay) (w : World) (us : Array Value), Rel F ρ h w → VRs F ρ args us.toList →
    Calls P f us w fun e w' => ∃ r h' v F' ρ', K r h' ∧ e = .returned v ∧ Step F ρ h w F' ρ' h' w' ∧ VR F' ρ' r v
theorem Z0.mono {P : Program} {f : FuncId} {args : List IV} {h : Heap} {K K' : IV → Heap → Prop} (hc : Z0 P f args h K) (hk : ∀ r h', K r h' → K' r h') : Z0 P f args h K' :=
  fun F ρ w us hr hv => (hc F ρ w us hr hv).mono fun _ _ ⟨r, h', v, F', ρ', k, rest⟩ => ⟨r, h', v, F', ρ', hk r h' k, rest⟩
structure ARel (F : Frz) (ρ : Lay) (n : Nat) (a : IAct) (ra : Act) : Prop where
  size : ra.tmps.size = n
  defers : ra.defers = []
  tmps : ∀ t, VR F ρ (a t) (ra.tmps.getD t undef)
theorem ARel.eval {F : Frz} {ρ : Lay} {n : Nat} {a : IAct} {ra : Act} (h : ARel F ρ n a ra) (x : Operand) : VR F ρ (ieval a x) (ra.eval x) := by
  cases x with
  | tmp t => exact h.tmps t
  | const v => exact VR.toIV F ρ v
  | global g => simp [ieval, VR]
  | func f => exact ⟨#[], rfl, by simp [VRs]⟩
theorem ARel.step {F F' : Frz} {ρ ρ' : Lay} {h h' : Heap} {w w' : World} {n : Nat} {a : IAct} {ra : Act} (ar : ARel F ρ n a ra) (hr : Rel F ρ h w) (s : Step F ρ h w F' ρ' h' w') : ARel F' ρ' n a ra :=
  ⟨ar.size, ar.defers, fun t => s.vr (ar.tmps t) hr⟩
theorem ARel.put {F : Frz} {ρ : Lay} {n : Nat} {a : IAct} {ra : Act} (ar : ARel F ρ n a ra) {dst : Option Tmp} (hd : dst.all (· < n) = true) {v : IV} {u : Value} (hv : VR F ρ v u) : ARel F ρ n (iput a dst v) (ra.put dst u) := by
  cases dst with
  | none => exact ar
  | some d =>
    simp at hd
    refine ⟨by simp [Act.put, ar.size], ar.defers, fun t => ?_⟩
    simp only [iput, Act.put]
    by_cases ht : t = d
    · subst ht
      have : t < ra.tmps.size := by rw [ar.size]; exact hd
      simp [this, hv]
    · rw [if_neg ht]
      have := ar.tmps t
      simpa [Array.getElem?_setIfInBounds_ne (Ne.symm ht)] using this
def wantI (ops : Array Oper) (o : Oper) (a : IAct) : Option Bool :=
  match o.guard with
  | none => some true
  | some (j, want) => match (ops[j]?).bind (·.dst) with
    | some t => match a t with
      | .bool b => some (b == want)
      | .tup [] => some false
      | _ => none
    | none => none
theorem wantI_run {F : Frz} {ρ : Lay} {n : Nat} {a : IAct} {ra : Act} (ar : ARel F ρ n a ra) {ops : Array Oper} {o : Oper} {b : Bool} (h : wantI ops o a = some b) (hops : ∀ o' ∈ ops.toList, o'.dst.all (· < n) = true) : Region.wanted o (yielded ops ra.tmps) = b := by
  unfold wantI at h
  unfold Region.wanted
  cases hg : o.guard with
  | none => rw [hg] at h; simpa using h
  | some jw =>
    obtain ⟨j, want⟩ := jw
    rw [hg] at h
    simp only at h ⊢
    cases ht : (ops[j]?).bind (·.dst) with
    | none => rw [ht] at h; cases h
    | some t =>
      rw [ht] at h
      simp only at h
      have hlt : t < ra.tmps.size := by
        rw [ar.size]
        simp only [Option.bind_eq_some_iff] at ht
        obtain ⟨o', ho', hd⟩ := ht
        have := hops o' (by have := Array.mem_of_getElem? ho'; simpa using this)
        simpa [hd] using this
      have htm := ar.tmps t
      have hget : ra.tmps[t]? = some (ra.tmps.getD t undef) := by simp [hlt]
      unfold yielded
      rw [ht, Option.bind_some, hget]
      generalize ra.tmps.getD t undef = v at htm
      cases hat : a t <;> rw [hat] at h htm <;> (try simp only at h) <;> (try cases h)
      · simp only [VR] at htm
        subst htm
        rfl
      · rename_i cs
        cases cs with
        | nil =>
          cases h
          simp only [VR, VRs] at htm
          obtain ⟨us, rfl, hus⟩ := htm
          rfl
        | cons c cs => simp at h
def goO (P : Program) (g : FuncId) : Bool := match P.funcs[g]? with | some fn => fn.name != "runtime.NumGoroutine" && fn.body.isSome | none => false
theorem goO_run {P : Program} {g : FuncId} (h : goO P g = true) (args : Array Value) (w : World) : (callFunc g args).run P w = .ok (.enter g args) w := by
  unfold goO at h
  cases e : P.funcs[g]? with
  | none => rw [e] at h; cases h
  | some fn =>
    rw [e] at h
    simp at h
    obtain ⟨h1, h2⟩ := h
    obtain ⟨c, hb⟩ := Option.isSome_iff_exists.1 h2
    simp [callFunc, run_program, e, h1, hb]
def kindO : Op → Nat
  | .move _ | .assign _ | .pick .. | .build .. | .nilCheck _ | .binOp .. | .unOp .. | .makeFunc .. | .fieldAddr .. | .field .. | .index .. | .extract .. => 0
  | .load .. | .slice .. | .indexAddr .. | .convert .. => 1
  | .alloc _ | .box .. | .buildSlice .. | .makeSlice .. => 2
  | .store .. => 3
  | .call c => match c.callee with
    | .builtin .len | .builtin .max | .builtin .min => 0
    | .builtin .append | .builtin .copy => 3
    | .value _ => 3
    | _ => 4
  | _ => 4
def HLe (h h2 : Heap) : Prop := ∀ (b : Nat) (k : Blk), h[b]? = some (some k) → h2[b]? = some (some k)
theorem cellsOf_mono {h h2 : Heap} (hle : HLe h h2) {p : IV} {cs : List IV} (hc : cellsOf h p = some cs) : cellsOf h2 p = some cs := by
  cases p <;> simp only [cellsOf] at hc ⊢ <;> try exact hc
  case ptr b i o =>
    cases hb : h[b]? with
    | none => rw [hb] at hc; simp at hc
    | some x =>
      cases x with
      | none => rw [hb] at hc; simp at hc
      | some k => rw [hb] at hc; rw [hle b k hb]; exact hc
theorem srcI_mono {h h2 : Heap} (hle : HLe h h2) {n : Nat} {p : IV} {es : List (List IV)} (hc : srcI h n p = some es) : srcI h2 n p = some es := by
  cases p <;> simp only [srcI] at hc ⊢ <;> try exact hc
  case sl b lo len =>
    cases hb : h[b]? with
    | none => rw [hb] at hc; simp at hc
    | some x =>
      cases x with
      | none => rw [hb] at hc; simp at hc
      | some k => rw [hb] at hc; rw [hle b k hb]; exact hc
theorem opI_mono {P : Program} {ev : Operand → IV} {op : Op} {h h' h2 : Heap} {v : IV} (hk : kindO op ≤ 1) (ho : opI P ev op h = some (v, h')) (hle : HLe h h2) : h' = h ∧ opI P ev op h2 = some (v, h2) := by
  have m1 : ∀ {x x2 : Option IV}, x.map (fun v => (v, h)) = some (v, h') → (∀ v', x = some v' → x2 = some v') → h' = h ∧ x2.map (fun v => (v, h2)) = some (v, h2) := by
    intro x x2 hx hs
    simp only [Option.map_eq_some_iff, Prod.mk.injEq] at hx
    obtain ⟨v', hx, rfl, rfl⟩ := hx
    exact ⟨rfl, by rw [hs _ hx]; rfl⟩
  cases op
  case move => simp only [opI] at ho ⊢; cases ho; exact ⟨rfl, rfl⟩
  case assign => simp only [opI] at ho ⊢; cases ho; exact ⟨rfl, rfl⟩
  case pick c x y =>
    simp only [opI] at ho ⊢
    cases hc : ev c <;> rw [hc] at ho <;> simp only at ho ⊢ <;> cases ho
    exact ⟨rfl, rfl⟩
  case build => exact m1 ho fun _ h => h
  case load t x =>
    refine m1 ho fun v' hv => ?_
    unfold Z3 at hv ⊢
    cases hc : cellsOf h (ev x) with
    | none => rw [hc] at hv; simp at hv
    | some cs => rw [hc] at hv; rw [cellsOf_mono hle hc]; exact hv
  case nilCheck x =>
    simp only [opI] at ho ⊢
    cases hc : ev x <;> rw [hc] at ho <;> simp only at ho ⊢ <;> cases ho <;> exact ⟨rfl, rfl⟩
  case binOp => exact m1 ho fun _ h => h
  case unOp => exact m1 ho fun _ h => h
  case convert s d x =>
    refine m1 ho fun v' hv => ?_
    unfold convI at hv ⊢
    split at hv
    · exact hv
    · split at hv
      · rename_i e he
        split at hv
        · rename_i hb
          split at hv
          · rename_i xs hxs
            simp only [Option.bind_eq_some_iff] at hxs
            obtain ⟨es, h1, h2'⟩ := hxs
            simp only [he, if_pos hb, srcI_mono hle h1, Option.bind_some, h2']
            exact hv
          · cases hv
        · cases hv
      · cases hv
  case makeFunc fn first caps =>
    simp only [opI] at ho ⊢
    split at ho
    · cases ho; exact ⟨rfl, rfl⟩
    · cases ho
  case slice t x lo hi mx =>
    cases mx with
    | some m => simp [opI] at ho
    | none =>
      refine m1 ho fun v' hv => ?_
      unfold sliceI at hv ⊢
      split at hv
      · exact hv
      · rename_i b lo' len n hx hn
        split at hv
        · rename_i l m k h1 h2' hb
          simp only [h1, h2', hle b k hb]
          exact hv
        · cases hv
      · exact hv
      · cases hv
  case fieldAddr => exact m1 ho fun _ h => h
  case field => exact m1 ho fun _ h => h
  case indexAddr t x i =>
    refine m1 ho fun v' hv => ?_
    unfold Zp at hv ⊢
    split at hv
    · exact hv
    · rename_i n b lo len k i hn hx hi
      split at hv
      · rename_i hc
        simp only [if_pos hc]
        split at hv
        · rename_i kb hb
          simp only [hle b kb hb]; exact hv
        · cases hv
      · cases hv
    · cases hv
  case index => exact m1 ho fun _ h => h
  case extract => exact m1 ho fun _ h => h
  case call c =>
    obtain ⟨callee, args, argTypes⟩ := c
    simp only [opI] at ho ⊢
    split at ho
    · exact m1 ho fun _ h => h
    · simp [kindO] at hk
    · simp [kindO] at hk
    · exact m1 ho fun _ h => h
    · exact m1 ho fun _ h => h
    · cases ho
  all_goals (first | exact absurd hk (by simp [kindO]) | exact absurd ho (by simp [opI]))
def oK {α : Type} (x : Option α) (K : α → Prop) : Prop := match x with | some v => K v | none => False
def gOp (w : Option Bool) (x : Option (IV × Heap)) (h : Heap) : Option (IV × Heap) :=
  match w with | some true => x | some false => some (.tup [], h) | none => none
def callK (P : Program) (w : Option Bool) (f : IV) (args : List IV) (h : Heap) (K : IV → Heap → Prop) : Prop :=
  match w with
  | some true => match f with | .fn g caps => goO P g = true ∧ Z0 P g (args ++ caps) h K | _ => False
  | some false => K (.tup []) h
  | none => False
def Zi (P : Program) (w : Option Bool) (g : FuncId) (args : List IV) (h : Heap) (K : IV → Heap → Prop) : Prop :=
  match w with
  | some true => Z0 P g args h K
  | some false => K (.tup []) h
  | none => False
def IOp (P : Program) (ops : Array Oper) (o : Oper) (a : IAct) (h : Heap) (K : IV → Heap → Prop) : Prop :=
  match o.op with
  | .call ⟨.value (.func g), args, _⟩ => Zi P (wantI ops o a) g (args.toList.map (ieval a)) h K
  | .call ⟨.value f, args, _⟩ => callK P (wantI ops o a) (ieval a f) (args.toList.map (ieval a)) h K
  | op => match kindO op with
    | 0 => oK (gOp (wantI ops o a) (opI P (ieval a) op h) h) fun p => K p.1 h
    | 1 => oK (gOp (wantI ops o a) (opI P (ieval a) op h) h) fun p => K p.1 h
    | _ => oK (gOp (wantI ops o a) (opI P (ieval a) op h) h) fun p => K p.1 p.2
theorem IOp.low {P : Program} {op : Op} {w : Option Bool} {a : IAct} {h : Heap} {K : IV → Heap → Prop} (hk : kindO op ≤ 1) (hx : oK (gOp w (opI P (ieval a) op h) h) fun p => K p.1 h) : oK (gOp w (opI P (ieval a) op h) h) fun p => K p.1 p.2 := by
  unfold oK at *
  cases hw : w with
  | none => simp [gOp, hw] at hx
  | some b =>
    cases b with
    | true =>
      cases ho : opI P (ieval a) op h with
      | none => simp [gOp, hw, ho] at hx
      | some p =>
        obtain ⟨v, h'⟩ := p
        simp only [gOp, hw, ho] at hx ⊢
        rw [(opI_mono hk ho (h2 := h) fun _ _ e => e).1]; exact hx
    | false => simp only [gOp, hw] at hx ⊢; exact hx
def chkOp (P : Program) (n : Nat) (o : Oper) : Bool :=
  o.dst.all (· < n) && match o.op with
    | .call ⟨.value (.func g), _, _⟩ => goO P g
    | _ => true
def IPost (F : Frz) (ρ : Lay) (n : Nat) (h : Heap) (w : World) (K : IAct → Heap → Prop) (ra' : Act) (w' : World) : Prop :=
  ∃ a' h' F' ρ', K a' h' ∧ Step F ρ h w F' ρ' h' w' ∧ ARel F' ρ' n a' ra'
theorem VR.undef (F : Frz) (ρ : Lay) : VR F ρ (.tup []) undef := ⟨#[], rfl, by simp [VRs]⟩
theorem chkOp_dst {P : Program} {n : Nat} {o : Oper} (h : chkOp P n o = true) : o.dst.all (· < n) = true := by
  unfold chkOp at h
  simp only [Bool.and_eq_true] at h
  exact h.1
theorem IOp.run {P : Program} {n : Nat} {ops : Array Oper} {o : Oper} {a : IAct} {h : Heap} {K : IV → Heap → Prop} (hi : IOp P ops o a h K) (hc : chkOp P n o = true) (hw : wantI ops o a = some true) {F : Frz} {ρ : Lay} {w : World} {ra : Act} (hr : Rel F ρ h w)
    (he : ∀ x, VR F ρ (ieval a x) (ra.eval x)) {Q : Exit → Act → World → Prop} {KR : Act → World → Prop} (hk : ∀ v u h' F' ρ' w', K v h' → Step F ρ h w F' ρ' h' w' → VR F' ρ' v u → KR (ra.put o.dst u) w') : o.wp P ra w KR Q := by
  have other : oK (gOp (wantI ops o a) (opI P (ieval a) o.op h) h) (fun p => K p.1 p.2) → o.wp P ra w KR Q := by
    intro hx
    rw [hw] at hx
    unfold gOp at hx
    cases ho : opI P (ieval a) o.op h with
    | none => simp only [ho, oK] at hx
    | some p =>
      simp only [ho, oK] at hx
      obtain ⟨v, h'⟩ := p
      obtain ⟨nx, u, W, ρ', h1, h2, h3, h4⟩ := opI_run hr (ieval a) ra.eval he o ho
      have hpost := hk v u h' F ρ' W hx h3 h4
      unfold Oper.wp
      rw [h1]
      rcases h2 with rfl | ⟨rfl, rfl⟩
      · exact hpost
      · exact hpost
  have call : ∀ (f : Operand) (args : Array Operand) (ats : Array TypeId) (g : FuncId) (caps : List IV), o.op = .call ⟨.value f, args, ats⟩ → ieval a f = .fn g caps → goO P g = true → Z0 P g (args.toList.map (ieval a) ++ caps) h K → o.wp P ra w KR Q := by
    intro f args ats g caps heq hf hg hcall
    obtain ⟨dst, op, type, pos, after, guard⟩ := o
    simp only at heq
    subst heq
    have hfv := he f
    rw [hf] at hfv
    simp only [VR] at hfv
    obtain ⟨us, hus, hcaps⟩ := hfv
    unfold Oper.wp
    have hrun : (execOp ra.eval { dst, op := .call ⟨.value f, args, ats⟩, type, pos, after, guard }).run P w = .ok (.enter g (args.map ra.eval ++ us)) w := by
      simp only [execOp, resolve, Deferred.ofValue, hus, invoke, Sem.run_bind, Sem.run_pure, Result.andThen_ok]
      rw [goO_run hg]
      simp
    rw [hrun]
    simp only [Oper.upon]
    refine (hcall F ρ w _ hr ?_).mono ?_
    · simp only [Array.toList_append, Array.toList_map]
      exact (VRs.map he _).append hcaps
    · rintro e w' ⟨r, h', v, F', ρ', k, rfl, st, hv⟩
      exact hk r v h' F' ρ' w' k st hv
  unfold IOp at hi
  split at hi
  · rename_i g args ats heq
    rw [hw] at hi
    simp only [Zi] at hi
    have hg : goO P g = true := by
      unfold chkOp at hc
      rw [heq] at hc
      simp only [Bool.and_eq_true] at hc
      exact hc.2
    exact call _ _ _ g [] heq rfl hg (by simpa using hi)
  · rename_i f args ats _ heq
    rw [hw] at hi
    simp only [callK] at hi
    split at hi
    · rename_i g caps hf
      exact call _ _ _ g caps heq hf hi.1 hi.2
    · exact hi.elim
  · split at hi
    · rename_i hk; exact other (IOp.low (by omega) hi)
    · rename_i hk; exact other (IOp.low (by omega) hi)
    · exact other hi
theorem IOp.skip {P : Program} {ops : Array Oper} {o : Oper} {a : IAct} {h : Heap} {K : IV → Heap → Prop} (hi : IOp P ops o a h K) (hw : wantI ops o a = some false) : K (.tup []) h := by
  unfold IOp at hi
  rw [hw] at hi
  split at hi
  · exact hi
  · exact hi
  · split at hi <;> exact hi
theorem IOp.want {P : Program} {ops : Array Oper} {o : Oper} {a : IAct} {h : Heap} {K : IV → Heap → Prop} (hi : IOp P ops o a h K) : ∃ b, wantI ops o a = some b := by
  cases hw : wantI ops o a with
  | some b => exact ⟨b, rfl⟩
  | none =>
    unfold IOp at hi
    rw [hw] at hi
    split at hi
    · exact hi.elim
    · exact hi.elim
    · split at hi <;> exact hi.elim
def IRun (P : Program) (ops : Array Oper) (K : IAct → Heap → Prop) : List Oper → IAct → Heap → Prop
  | [], a, h => K a h
  | o :: os, a, h => IOp P ops o a h fun v h' => IRun P ops K os (iput a o.dst v) h'
theorem IPost.trans {F F1 : Frz} {ρ ρ1 : Lay} {n : Nat} {h h1 : Heap} {w w1 : World} {K : IAct → Heap → Prop} {ra' : Act} {w' : World} (s : Step F ρ h w F1 ρ1 h1 w1) (p : IPost F1 ρ1 n h1 w1 K ra' w') : IPost F ρ n h w K ra' w' := by
  obtain ⟨a', h', F', ρ', k, st, ar⟩ := p
  exact ⟨a', h', F', ρ', k, s.trans st, ar⟩
theorem IRun.run {P : Program} {n : Nat} {ops : Array Oper} (hops : ∀ o ∈ ops.toList, o.dst.all (· < n) = true) {K : IAct → Heap → Prop} {Q : Exit → Act → World → Prop} : ∀ (l : List Oper) (a : IAct) (h : Heap), (∀ o ∈ l, chkOp P n o = true) → IRun P ops K l a h →
    ∀ {F : Frz} {ρ : Lay} {w : World} {ra : Act}, Rel F ρ h w → ARel F ρ n a ra → (∀ ra' w', IPost F ρ n h w K ra' w' → Q .normal ra' w') → wpList P ops Q l ra w
  | [], a, h, hl, hi, F, ρ, w, ra, hr, ar, hQ => by
    exact wpList_nil (hQ _ _ ⟨a, h, F, ρ, hi, Step.refl hr, ar⟩)
  | o :: os, a, h, hl, hi, F, ρ, w, ra, hr, ar, hQ => by
    simp only [IRun] at hi
    have hd := hl o (by simp)
    have hl' : ∀ o' ∈ os, chkOp P n o' = true := fun o' h' => hl o' (by simp [h'])
    refine wpList_step fun K' hK' => ?_
    obtain ⟨b, hw⟩ := hi.want
    rw [wantI_run ar hw hops]
    cases b with
    | true =>
      simp only [if_true]
      refine IOp.run hi hd hw hr ar.eval fun v u h' F' ρ' w' hk st hv => ?_
      exact hK' _ _ (IRun.run hops os _ h' hl' hk st.rel ((ar.step hr st).put (chkOp_dst hd) hv) fun ra' w' p => hQ _ _ (p.trans st))
    | false =>
      simp only [Bool.false_eq_true, if_false]
      exact hK' _ _ (IRun.run hops os _ h hl' (hi.skip hw) hr (ar.put (chkOp_dst hd) (VR.undef F ρ)) hQ)
inductive IExit where
  | normal | exit (id : Nat) | ret
def IExit.to : IExit → Exit
  | .normal => .normal
  | .exit id => .exit id
  | .ret => .ret
def CPost (F : Frz) (ρ : Lay) (n : Nat) (h : Heap) (w : World) (Q : IExit → IAct → Heap → Prop) (e : Exit) (ra' : Act) (w' : World) : Prop :=
  ∃ ie a' h' F' ρ', Q ie a' h' ∧ e = ie.to ∧ Step F ρ h w F' ρ' h' w' ∧ ARel F' ρ' n a' ra'
theorem CPost.trans {F F1 : Frz} {ρ ρ1 : Lay} {n : Nat} {h h1 : Heap} {w w1 : World} {Q : IExit → IAct → Heap → Prop} {e : Exit} {ra' : Act} {w' : World} (p : CPost F1 ρ1 n h1 w1 Q e ra' w') (s : Step F ρ h w F1 ρ1 h1 w1) : CPost F ρ n h w Q e ra' w' := by
  obtain ⟨ie, a', h', F', ρ', k, he, st, ar⟩ := p
  exact ⟨ie, a', h', F', ρ', k, he, s.trans st, ar⟩
def IWp (P : Program) (n : Nat) (c : Code) (Q : IExit → IAct → Heap → Prop) (a : IAct) (h : Heap) : Prop :=
  ∀ (F : Frz) (ρ : Lay) (w : World) (ra : Act), Rel F ρ h w → ARel F ρ n a ra → c.wp P (CPost F ρ n h w Q) ra w
section
variable {P : Program} {n : Nat} {Q : IExit → IAct → Heap → Prop} {a : IAct} {h : Heap}
theorem IWp.mono {c : Code} {Q' : IExit → IAct → Heap → Prop} (hc : IWp P n c Q a h) (hq : ∀ e a' h', Q e a' h' → Q' e a' h') : IWp P n c Q' a h :=
  fun F ρ w ra hr ar => wp_mono (hc F ρ w ra hr ar) fun _ _ _ ⟨ie, a', h', F', ρ', k, rest⟩ => ⟨ie, a', h', F', ρ', hq _ _ _ k, rest⟩
theorem IWp.skip (hq : Q .normal a h) : IWp P n .skip Q a h := fun F ρ w ra hr ar => wp_skip ⟨.normal, a, h, F, ρ, hq, rfl, Step.refl hr, ar⟩
theorem IWp.exit {id : Nat} (hq : Q (.exit id) a h) : IWp P n (.exit id) Q a h := fun F ρ w ra hr ar => wp_exit ⟨.exit id, a, h, F, ρ, hq, rfl, Step.refl hr, ar⟩
theorem IWp.ret (hq : Q .ret a h) : IWp P n .ret Q a h := fun F ρ w ra hr ar => wp_ret ⟨.ret, a, h, F, ρ, hq, rfl, Step.refl hr, ar⟩
abbrev Z6 (next : IAct → Heap → Prop) (Q : IExit → IAct → Heap → Prop) : IExit → IAct → Heap → Prop
  | .normal, a, h => next a h
  | e, a, h => Q e a h
theorem IWp.seq {x y : Code} (hx : IWp P n x (Z6 (IWp P n y Q) Q) a h) : IWp P n (.seq x y) Q a h := by
  intro F ρ w ra hr ar
  refine wp_seq (Code.wp_mono ?_ (hx F ρ w ra hr ar))
  rintro e ra1 w1 ⟨ie, a1, h1, F1, ρ1, k, rfl, st, ar1⟩
  cases ie with
  | normal => exact Code.wp_mono (fun e ra2 w2 p => p.trans st) (k F1 ρ1 w1 ra1 st.rel ar1)
  | exit id => exact ⟨.exit id, a1, h1, F1, ρ1, k, rfl, st, ar1⟩
  | ret => exact ⟨.ret, a1, h1, F1, ρ1, k, rfl, st, ar1⟩
theorem IWp.cond {c : Operand} {x y : Code} {t : Bool} (hc : ieval a c = .bool t) (hx : t = true → IWp P n x Q a h) (hy : t = false → IWp P n y Q a h) : IWp P n (.cond c x y) Q a h := by
  intro F ρ w ra hr ar
  have hv := ar.eval c
  rw [hc] at hv
  simp only [VR] at hv
  refine wp_cond hv ?_
  cases t with
  | true => exact hx rfl F ρ w ra hr ar
  | false => exact hy rfl F ρ w ra hr ar
abbrev Zu (id : Nat) (Q : IExit → IAct → Heap → Prop) : IExit → IAct → Heap → Prop
  | .exit id', a, h => if id' = id then Q .normal a h else Q (.exit id') a h
  | e, a, h => Q e a h
theorem IWp.block {id : Nat} {c : Code} (hc : IWp P n c (Zu id Q) a h) : IWp P n (.block id c) Q a h := by
  intro F ρ w ra hr ar
  refine wp_block (Code.wp_mono ?_ (hc F ρ w ra hr ar))
  rintro e ra1 w1 ⟨ie, a1, h1, F1, ρ1, k, rfl, st, ar1⟩
  cases ie with
  | normal => exact ⟨.normal, a1, h1, F1, ρ1, k, rfl, st, ar1⟩
  | ret => exact ⟨.ret, a1, h1, F1, ρ1, k, rfl, st, ar1⟩
  | exit id' =>
    simp only [Zu] at k
    simp only [IExit.to, Exit.inBlock]
    split
    · rename_i hid; rw [if_pos hid] at k; exact ⟨.normal, a1, h1, F1, ρ1, k, rfl, st, ar1⟩
    · rename_i hid; rw [if_neg hid] at k; exact ⟨.exit id', a1, h1, F1, ρ1, k, rfl, st, ar1⟩
theorem IWp.region {id : Nat} {ops : Array Oper} (hd : ops.toList.all (chkOp P n) = true) (hi : IRun P ops (fun a' h' => Q .normal a' h') ops.toList a h) : IWp P n (.region id ops false) Q a h := by
  intro F ρ w ra hr ar
  have hd' : ∀ o ∈ ops.toList, chkOp P n o = true := fun o ho => List.all_eq_true.1 hd o ho
  refine wp_region_list (IRun.run (fun o ho => chkOp_dst (hd' o ho)) ops.toList a h hd' hi hr ar ?_)
  rintro ra' w' ⟨a', h', F', ρ', k, st, ar'⟩
  exact ⟨.normal, a', h', F', ρ', k, rfl, st, ar'⟩
def ILoop (P : Program) (n : Nat) (c : Code) (Q : IExit → IAct → Heap → Prop) (a : IAct) (h : Heap) : Prop :=
  ∀ (F : Frz) (ρ : Lay) (w : World) (ra : Act), Rel F ρ h w → ARel F ρ n a ra → ∀ (b : Frame) (k : List Item) (cs : List Frame),
    ∃ e ra' w', CPost F ρ n h w Q e ra' w' ∧ Arrives P (lone (b.at ra (.code c :: .inLoop c :: k)) cs w) b k cs e ra' w'
theorem ILoop.unfold {c : Code} (hc : IWp P n c (Z6 (ILoop P n c Q) Q) a h) : ILoop P n c Q a h := by
  intro F ρ w ra hr ar b k cs
  obtain ⟨e, ra2, w2, ⟨ie, a2, h2, F2, ρ2, hq, rfl, st2, ar2⟩, harr⟩ := hc F ρ w ra hr ar b (.inLoop c :: k) cs
  cases ie with
  | normal =>
    obtain ⟨e, a', w', hp, harr2⟩ := hq F2 ρ2 w2 ra2 st2.rel ar2 b k cs
    exact ⟨e, a', w', hp.trans st2, .of_steps (Steps.trans harr (.one step_inLoop)) harr2⟩
  | exit id => exact ⟨_, ra2, w2, ⟨.exit id, a2, h2, F2, ρ2, hq, rfl, st2, ar2⟩, .pass (x := .inLoop c) rfl (fun _ _ => .inl (by simp [IExit.to])) harr⟩
  | ret => exact ⟨_, ra2, w2, ⟨.ret, a2, h2, F2, ρ2, hq, rfl, st2, ar2⟩, .pass (x := .inLoop c) rfl (fun _ _ => .inl (by simp [IExit.to])) harr⟩
theorem IWp.loop {c : Code} (hl : ILoop P n c Q a h) : IWp P n (.loop c) Q a h := by
  intro F ρ w ra hr ar b k cs
  obtain ⟨e, a', w', hp, harr⟩ := hl F ρ w ra hr ar b k cs
  exact ⟨e, a', w', hp, .of_steps (.one step_loop) harr⟩
end
def resI (P : Program) (a : IAct) (h : Heap) : List ResultVar → Option (List IV)
  | [] => some []
  | .tmp t :: rs => (resI P a h rs).map (a t :: ·)
  | .cell t ty :: rs => match Z3 P ty (a t) h with
    | some v => (resI P a h rs).map (v :: ·)
    | none => none
def tupI : List IV → IV
  | [v] => v
  | vs => .tup vs
def retI (P : Program) (a : IAct) (h : Heap) (rs : List ResultVar) : Option IV := (resI P a h rs).map tupI
theorem loadI_var {P : Program} {F : Frz} {ρ : Lay} {h : Heap} {w : World} (hr : Rel F ρ h w) {t : TypeId} {p v : IV} {u : Value} (hp : VR F ρ p u) (hl : Z3 P t p h = some v) :
    ∃ x, (do loadVar t (← asAddr u) : Sem Value).run P w = .ok x w ∧ VR F ρ v x := by
  obtain ⟨x, h1, h2⟩ := loadI_run hr hp hl
  refine ⟨x, ?_, h2⟩
  cases hc : cellsOf h p with
  | none => simp [Z3, hc] at hl
  | some cs =>
    obtain ⟨R, off, rfl, _⟩ := cellsOf_at hr hp hc
    simpa [Instr.loadAt, Instr.sureAddr, asAddr] using h1
theorem resI_run {P : Program} {F : Frz} {ρ : Lay} {h : Heap} {w : World} (hr : Rel F ρ h w) {n : Nat} {a : IAct} {ra : Act} (ar : ARel F ρ n a ra) : ∀ (rs : List ResultVar) (vs : List IV), resI P a h rs = some vs →
    ∃ us, (rs.mapM fun r => match r with | .tmp t => pure (ra.tmps.getD t undef) | .cell b t => do loadVar t (← asAddr (ra.tmps.getD b undef)) : Sem (List Value)).run P w = .ok us w ∧ VRs F ρ vs us
  | [], vs, h => by simp [resI] at h; subst h; exact ⟨[], by simp, by simp [VRs]⟩
  | .tmp t :: rs, vs, h => by
    simp only [resI, Option.map_eq_some_iff] at h
    obtain ⟨vs', h, rfl⟩ := h
    obtain ⟨us, h1, h2⟩ := resI_run (w := w) hr ar rs vs' h
    refine ⟨ra.tmps.getD t undef :: us, ?_, _, us, rfl, ar.tmps t, h2⟩
    rw [List.mapM_cons]
    simp only [Sem.run_bind, Sem.run_pure, Result.andThen_ok]
    rw [h1]
    rfl
  | .cell b t :: rs, vs, h => by
    simp only [resI] at h
    split at h
    · rename_i v hv
      simp only [Option.map_eq_some_iff] at h
      obtain ⟨vs', h, rfl⟩ := h
      obtain ⟨us, h1, h2⟩ := resI_run (w := w) hr ar rs vs' h
      obtain ⟨x, h3, h4⟩ := loadI_var hr (ar.tmps b) hv
      refine ⟨x :: us, ?_, _, us, rfl, h4, h2⟩
      rw [List.mapM_cons]
      simp only [Sem.run_bind] at h3 ⊢
      rw [h3]
      simp only [Result.andThen_ok]
      rw [h1]
      rfl
    · cases h
theorem retI_run {P : Program} {F : Frz} {ρ : Lay} {h : Heap} {w : World} (hr : Rel F ρ h w) {n : Nat} {a : IAct} {ra : Act} (ar : ARel F ρ n a ra) {fn : Func} {v : IV} (hv : retI P a h fn.results.toList = some v) : ∃ u, (results fn ra.tmps).run P w = .ok u w ∧ VR F ρ v u := by
  unfold retI at hv
  simp only [Option.map_eq_some_iff] at hv
  obtain ⟨vs, hv, rfl⟩ := hv
  obtain ⟨us, h1, h2⟩ := resI_run (P := P) (w := w) hr ar _ vs hv
  have hm : (results fn ra.tmps).run P w = .ok (if h : us.toArray.size = 1 then us.toArray[0] else .tuple us.toArray) w := by
    unfold results
    rw [Array.mapM_eq_mapM_toList]
    simp only [bind_map_left, Sem.run_bind]
    erw [h1]
    rfl
  have hl := h2.length
  by_cases h1' : us.length = 1
  · match vs, us, hl, h2, hm with
    | [v], [u], _, h2, hm =>
      simp only [VRs] at h2
      obtain ⟨u', us', he, h3, _⟩ := h2
      cases he
      exact ⟨u, by simpa using hm, h3⟩
  · rw [dif_neg (by simpa using h1')] at hm
    refine ⟨_, hm, ?_⟩
    have : tupI vs = .tup vs := by
      match vs, hl with
      | [], _ => rfl
      | [x], hl => exact absurd hl.symm h1'
      | _ :: _ :: _, _ => rfl
    rw [this]
    exact ⟨us.toArray, rfl, by simpa using h2⟩
def actI (args : List IV) : IAct := fun t => args.getD t (.tup [])
theorem Z0.of {P : Program} {f : FuncId} {fn : Func} {c : Code} {args : List IV} {h : Heap} {K : IV → Heap → Prop} (hf : P.funcs[f]? = some fn) (hb : fn.body = some c) (hn : args.length ≤ fn.ntmps)
    (hw : IWp P fn.ntmps c (fun e a' h' => (e = .normal ∨ e = .ret) ∧ ∃ r, retI P a' h' fn.results.toList = some r ∧ K r h') (actI args) h) : Z0 P f args h K := by
  intro F ρ w us hr hv
  have hl := hv.length
  simp only [Array.length_toList] at hl
  refine calls_of_wp hf hb (Code.wp_mono ?_ (hw F ρ w _ hr ⟨by simp; omega, rfl, fun t => ?_⟩))
  · rintro e ra w' ⟨ie, a', h', F', ρ', ⟨hie, r, hret, hk⟩, rfl, st, ar⟩
    obtain ⟨u, h1, h2⟩ := retI_run (P := P) (w := w') st.rel ar hret
    have hp : ∃ v, (results fn ra.tmps).run P w' = .ok v w' ∧ ∃ r h' v' F' ρ', K r h' ∧ Ending.returned v = .returned v' ∧ Step F ρ h w F' ρ' h' w' ∧ VR F' ρ' r v' := ⟨u, h1, r, h', u, F', ρ', hk, rfl, st, h2⟩
    rcases hie with rfl | rfl
    · exact ⟨ar.defers, hp⟩
    · exact ⟨ar.defers, hp⟩
  · unfold actI
    by_cases ht : t < us.size
    · obtain ⟨u, hu1, hu2⟩ := hv.get (j := t) (v := args[t]'(by omega)) (by simp [show t < args.length by omega])
      rw [Array.getElem?_toList] at hu1
      have : args.getD t (.tup []) = args[t]'(by omega) := by simp [List.getD, show t < args.length by omega]
      rw [this]
      simp only [Array.getD_eq_getD_getElem?]
      rw [Array.getElem?_append_left ht, hu1]
      exact hu2
    · have : args.getD t (.tup []) = .tup [] := by simp [List.getD, show args.length ≤ t by omega]
      rw [this]
      simp only [Array.getD_eq_getD_getElem?]
      rw [Array.getElem?_append_right (by omega)]
      by_cases ht2 : t - us.size < fn.ntmps - us.size
      · simp [ht2]; exact VR.undef F ρ
      · simp [ht2]; exact VR.undef F ρ
end Go.Ideal
namespace Go.Ideal
theorem opI_congr {P : Program} {ev ev' : Operand → IV} {op : Op} {h : Heap} (he : ∀ x ∈ op.operands, ev x = ev' x) : opI P ev op h = opI P ev' op h := by
  have pairs : ∀ ps : List (Nat × Operand), (∀ x ∈ ps.map (·.2), ev x = ev' x) → ps.map (fun p => (p.1, ev p.2)) = ps.map (fun p => (p.1, ev' p.2)) := fun ps hp =>
    List.map_congr_left fun p hm => by rw [hp p.2 (List.mem_map.2 ⟨p, hm, rfl⟩)]
  cases op <;> simp only [opI]
  case move x => rw [he x (by simp [Op.operands])]
  case assign x => rw [he x (by simp [Op.operands])]
  case pick c x y => rw [he c (by simp [Op.operands]), he x (by simp [Op.operands]), he y (by simp [Op.operands])]
  case box t x => rw [he x (by simp [Op.operands])]
  case build t ps =>
    unfold buildI
    rw [pairs ps.toList fun x hx => he x (by simpa [Op.operands] using hx)]
  case buildSlice t n ps =>
    unfold buildSliceI
    rw [pairs ps.toList fun x hx => he x (by simpa [Op.operands] using hx)]
  case load t x => rw [he x (by simp [Op.operands])]
  case store t x y => rw [he x (by simp [Op.operands]), he y (by simp [Op.operands])]
  case nilCheck x => rw [he x (by simp [Op.operands])]
  case binOp op t x y yt => rw [he x (by simp [Op.operands]), he y (by simp [Op.operands])]
  case unOp op t x => rw [he x (by simp [Op.operands])]
  case convert s d x => rw [he x (by simp [Op.operands])]
  case makeFunc fn first caps =>
    have : caps.toList.map ev = caps.toList.map ev' := List.map_congr_left fun x hx => he x (by simp [Op.operands]; right; simpa using hx)
    rw [this]
  case makeSlice t l c => rw [he l (by simp [Op.operands]), he c (by simp [Op.operands])]
  case slice t x lo hi mx =>
    cases mx with
    | some m => rfl
    | none =>
      simp only
      have h1 : lo.map ev = lo.map ev' := by cases lo with | none => rfl | some y => simp [he y (by simp [Op.operands])]
      have h2 : hi.map ev = hi.map ev' := by cases hi with | none => rfl | some y => simp [he y (by simp [Op.operands])]
      rw [h1, h2, he x (by simp [Op.operands])]
  case fieldAddr t x i => rw [he x (by simp [Op.operands])]
  case field t x i => rw [he x (by simp [Op.operands])]
  case indexAddr t x i => rw [he x (by simp [Op.operands]), he i (by simp [Op.operands])]
  case index t x i => rw [he x (by simp [Op.operands]), he i (by simp [Op.operands])]
  case extract x i => rw [he x (by simp [Op.operands])]
  case call c =>
    obtain ⟨callee, args, argTypes⟩ := c
    have ha : ∀ x ∈ args.toList, ev x = ev' x := fun x hx => he x (by simp [Op.operands, Call.operands]; right; simpa using hx)
    simp only
    split <;> (try rfl)
    · rename_i h1 h2; rw [h1] at ha; rw [ha _ (by simp)]
    · rename_i h1 h2; rw [h1] at ha; rw [ha _ (by simp), ha _ (by simp)]
    · rename_i h1 h2; rw [h1] at ha; rw [ha _ (by simp), ha _ (by simp)]
    · rename_i h1; rw [h1] at ha; rw [ha _ (by simp), List.map_congr_left fun x hx => ha x (by simp [hx])]
    · rename_i h1; rw [h1] at ha; rw [ha _ (by simp), List.map_congr_left fun x hx => ha x (by simp [hx])]
def newI (P : Program) (ev : Operand → IV) : Op → Option (Option Nat × Blk)
  | .alloc t => (zrO P t).map fun z => (none, ⟨z.length, t, [z]⟩)
  | .box t x => (Zh (ev x)).map fun cs => (none, ⟨cs.length, t, [cs]⟩)
  | .buildSlice t n parts => match elO P t with
    | some e => match zrO P e, szO P e with
      | some z, some s => if n * s ≤ 16777216 ∧ 0 < s ∧ z.length = s then
          (fillI (fun i => some (i * s, s)) (List.replicate n z).flatten (parts.toList.map fun p => (p.1, ev p.2))).map fun cs => (some n, ⟨s, e, chunks s n cs⟩) else none
      | _, _ => none
    | none => none
  | .makeSlice t l c => match ev l, ev c, elO P t with
    | .int _ n, .int _ m, some e => match zrO P e, szO P e, byO P e with
      | some z, some s, some by_ => if 0 ≤ n ∧ n ≤ m ∧ m ≤ 1073741824 ∧ by_ ≤ 65536 ∧ 0 < s ∧ z.length = s then some (some n.toNat, ⟨s, e, List.replicate n.toNat z⟩) else none
      | _, _, _ => none
    | _, _, _ => none
  | _ => none
def mkV : Option Nat → Nat → IV
  | none, b => .ptr b 0 0
  | some n, b => .sl b 0 n
theorem newI_op {P : Program} {ev : Operand → IV} {op : Op} {m : Option Nat} {k : Blk} (hn : newI P ev op = some (m, k)) (h : Heap) : opI P ev op h = some (mkV m h.length, h ++ [some k]) := by
  cases op <;> simp only [newI] at hn <;> (try cases hn) <;> simp only [opI]
  case alloc t =>
    simp only [Option.map_eq_some_iff, Prod.mk.injEq] at hn
    obtain ⟨z, hz, rfl, rfl⟩ := hn
    simp [ZK, hz, mkV]
  case box t x =>
    simp only [Option.map_eq_some_iff, Prod.mk.injEq] at hn
    obtain ⟨z, hz, rfl, rfl⟩ := hn
    simp [boxI, hz, mkV]
  case buildSlice t n parts =>
    unfold buildSliceI
    split at hn
    · rename_i e he
      (try rw [he]); try simp only
      split at hn
      · rename_i z s hz hs
        (try rw [hz]); (try rw [hs]); try simp only
        split at hn
        · rename_i hc
          try rw [if_pos hc]
          simp only [Option.map_eq_some_iff, Prod.mk.injEq] at hn
          obtain ⟨cs, hcs, rfl, rfl⟩ := hn
          simp [hcs, mkV]
        · cases hn
      · cases hn
    · cases hn
  case makeSlice t l c =>
    unfold ZL
    split at hn
    · rename_i k1 n k2 m' e h1 h2 he
      (try rw [h1]); (try rw [h2]); (try rw [he]); try simp only
      split at hn
      · rename_i z s by_ hz hs hb
        (try rw [hz]); (try rw [hs]); (try rw [hb]); try simp only
        split at hn
        · rename_i hc
          try rw [if_pos hc]
          cases hn
          rfl
        · cases hn
      · cases hn
    · cases hn
theorem bel_toIV (n : Nat) (v : Value) : Bel n (toIV v) := by
  unfold Ideal.toIV
  split <;> simp [Bel, Bels]
theorem bels_iff {n : Nat} : ∀ {cs : List IV}, Bels n cs ↔ ∀ v ∈ cs, Bel n v
  | [] => by simp [Bels]
  | c :: cs => by simp [Bels, bels_iff (cs := cs)]
theorem belss_iff {n : Nat} : ∀ {es : List (List IV)}, Belss n es ↔ ∀ e ∈ es, Bels n e
  | [] => by simp [Belss]
  | c :: cs => by simp [Belss, belss_iff (es := cs)]
theorem bels_zrO {P : Program} {t : TypeId} {z : List IV} {n : Nat} (h : zrO P t = some z) : Bels n z := by
  unfold zrO at h
  simp only [Option.map_eq_some_iff] at h
  obtain ⟨v, _, rfl⟩ := h
  rw [bels_iff]
  intro x hx
  obtain ⟨y, _, rfl⟩ := List.mem_map.1 hx
  exact bel_toIV n y
theorem bels_cellsI {n : Nat} {v : IV} {cs : List IV} (h : Zh v = some cs) (hb : Bel n v) : Bels n cs := by
  cases v <;> simp only [Zh, Option.some.injEq] at h <;> (try cases h) <;> first | exact ⟨hb, trivial⟩ | exact hb
theorem bels_splice {n o : Nat} {c cs : List IV} (h : Bels n c) (h' : Bels n cs) : Bels n (splice o c cs) := by
  rw [bels_iff] at *
  intro v hv
  unfold splice at hv
  rcases List.mem_append.1 hv with hv | hv
  · rcases List.mem_append.1 hv with hv | hv
    · exact h' v (List.mem_of_mem_take hv)
    · exact h v hv
  · exact h' v (List.mem_of_mem_drop hv)
theorem bels_fillI {n : Nat} {pl : Nat → Option (Nat × Nat)} : ∀ {ps : List (Nat × IV)} {cs cs' : List IV}, (∀ p ∈ ps, Bel n p.2) → Bels n cs → fillI pl cs ps = some cs' → Bels n cs'
  | [], cs, cs', _, h, hf => by simp [fillI] at hf; subst hf; exact h
  | (i, v) :: ps, cs, cs', hp, h, hf => by
    simp only [fillI] at hf
    split at hf
    · rename_i off size c _ hc
      split at hf
      · exact bels_fillI (fun p hp' => hp p (by simp [hp'])) (bels_splice (bels_cellsI hc (hp (i, v) (by simp))) h) hf
      · cases hf
    · cases hf
theorem belss_chunks {n s : Nat} : ∀ {m : Nat} {cs : List IV}, Bels n cs → Belss n (chunks s m cs)
  | 0, _, _ => by simp [chunks, Belss]
  | m + 1, cs, h => by
    rw [bels_iff] at h
    refine ⟨bels_iff.2 fun v hv => h v (List.mem_of_mem_take hv), belss_chunks (bels_iff.2 fun v hv => h v (List.mem_of_mem_drop hv))⟩
theorem newI_bel {P : Program} {ev : Operand → IV} {op : Op} {m : Option Nat} {k : Blk} {n : Nat} (he : ∀ x, Bel n (ev x)) (hn : newI P ev op = some (m, k)) : Belss n k.es := by
  cases op <;> simp only [newI] at hn <;> (try cases hn)
  case alloc t =>
    simp only [Option.map_eq_some_iff, Prod.mk.injEq] at hn
    obtain ⟨z, hz, rfl, rfl⟩ := hn
    exact ⟨bels_zrO hz, trivial⟩
  case box t x =>
    simp only [Option.map_eq_some_iff, Prod.mk.injEq] at hn
    obtain ⟨z, hz, rfl, rfl⟩ := hn
    exact ⟨bels_cellsI hz (he x), trivial⟩
  case buildSlice t n' parts =>
    split at hn
    · split at hn
      · rename_i z s hz hs
        split at hn
        · simp only [Option.map_eq_some_iff, Prod.mk.injEq] at hn
          obtain ⟨cs, hcs, rfl, rfl⟩ := hn
          refine belss_chunks (bels_fillI (fun p hp => ?_) ?_ hcs)
          · obtain ⟨q, _, rfl⟩ := List.mem_map.1 hp; exact he q.2
          · rw [bels_iff]
            intro v hv
            obtain ⟨e, he', hv⟩ := List.mem_flatten.1 hv
            rw [List.eq_of_mem_replicate he'] at hv
            exact bels_iff.1 (bels_zrO hz) v hv
        · cases hn
      · cases hn
    · cases hn
  case makeSlice t l c =>
    split at hn
    · split at hn
      · rename_i z s by_ hz hs hb
        split at hn
        · cases hn
          rw [belss_iff]
          intro e he'
          rw [List.eq_of_mem_replicate he']
          exact bels_zrO hz
        · cases hn
      · cases hn
    · cases hn
theorem Step.slot {F0 F : Frz} {ρ0 ρ ρ1 : Lay} {h0 h : Heap} {w0 w W : World} {k : Blk} (s0 : Step F0 ρ0 h0 w0 F ρ h w) (s : Step F ρ h w F ρ1 (h ++ [some k]) W) (hbel : Belss h.length k.es) {b : Nat} (hb0 : h0.length ≤ b) (hblen : b < h.length) (hρ : ρ b = none) {m : Option Nat} {u : Value} (hv : VR F ρ1 (mkV m h.length) u) :
    ∃ l, Step F0 ρ0 h0 w0 F (ρ.upd b l) (h.set b (some k)) W ∧ (∀ c l', ρ c = some l' → (ρ.upd b l) c = some l') ∧ (∀ c, c ≠ b → (ρ.upd b l) c = ρ c) ∧ VR F (ρ.upd b l) (mkV m b) u := by
  have hr := s0.rel
  have t := s0.trans s
  have hk : (h ++ [some k])[h.length]? = some (some k) := by simp
  obtain ⟨l, hl, hF, cs, g1, g2, g3, g4, g5⟩ := s.rel.liv h.length k hk
  have hext : ∀ c l', ρ c = some l' → (ρ.upd b l) c = some l' := fun c l' e => by
    rw [Lay.upd_other]
    · exact e
    · rintro rfl; rw [hρ] at e; cases e
  have hρ1 : ∀ c l', c < h.length → ρ1 c = some l' → (ρ.upd b l) c = some l' := fun c l' hc e => hext c l' (s.old c l' hc e)
  have hdead : ∀ (k' : Blk), h[b]? = some (some k') → False := fun k' e => by
    obtain ⟨l', h1, _⟩ := hr.liv b k' e
    rw [hρ] at h1; cases h1
  have hset : ∀ (c : Nat) (k' : Blk), (h.set b (some k))[c]? = some (some k') → c = b ∧ k' = k ∨ c ≠ b ∧ h[c]? = some (some k') := by
    intro c k' e
    by_cases hc : c = b
    · subst hc; simp [hblen] at e; exact .inl ⟨rfl, e.symm⟩
    · rw [List.getElem?_set_ne (Ne.symm hc)] at e; exact .inr ⟨hc, e⟩
  have happ : ∀ (c : Nat) (k' : Blk), h[c]? = some (some k') → (h ++ [some k])[c]? = some (some k') := fun c k' e => by
    rw [List.getElem?_append_left (List.getElem?_eq_some_iff.1 e).1]; exact e
  have hlnew : w.heap.size ≤ l.R := by
    rcases Nat.lt_or_ge l.R w.heap.size with hlt | hge
    · obtain ⟨c, k', l', e, h1, h2⟩ := s.img l.R ⟨h.length, k, l, hk, hl, rfl⟩ hlt
      have hclt : c < h.length := hr.low c l' h1
      have := s.rel.inj c h.length k' k l' l (happ c k' e) hk (s.fρ c l' h1) hl h2
      omega
    · exact hge
  have hcontent : BlkRel F (ρ.upd b l) k l W := ⟨cs, g1, g2, g3, g4, RowsAt.move (n := h.length) (FLe.refl F) hρ1 _ _ _ _ _ hbel (fun _ _ e => e) g5⟩
  refine ⟨l, ⟨t.fF, fun c l' e => hext c l' (s0.fρ c l' e), ⟨s.rel.frz, ?_, ?_, ?_⟩, t.frame, ?_, t.newF, by simpa using s0.len, ?_, t.size, t.os, t.tape, t.output⟩, hext, fun c hc => Lay.upd_other _ _ hc, ?_⟩
  · intro c k' e
    rcases hset c k' e with ⟨rfl, rfl⟩ | ⟨hne, e⟩
    · exact ⟨l, Lay.upd_same _ _ _, hF, hcontent⟩
    · obtain ⟨l', h1, h2, cs', h3, h4, h5, h6, h7⟩ := s.rel.liv c k' (happ c k' e)
      have hclt := (List.getElem?_eq_some_iff.1 e).1
      have hbk : Belss h.length k'.es := by
        obtain ⟨_, _, _, _, _, _, _, _, q⟩ := hr.liv c k' e
        exact RowsAt.bel hr.low _ _ _ _ q
      exact ⟨l', hρ1 c l' hclt h1, h2, cs', h3, h4, h5, h6, RowsAt.move (n := h.length) (FLe.refl F) hρ1 _ _ _ _ _ hbk (fun _ _ e => e) h7⟩
  · intro c c' k1 k2 l1 l2 e e' h1 h2 h3
    rcases hset c k1 e with ⟨rfl, rfl⟩ | ⟨hne, f⟩
    · rw [Lay.upd_same] at h1; cases h1
      rcases hset c' k2 e' with ⟨rfl, rfl⟩ | ⟨hne', f'⟩
      · rfl
      · rw [Lay.upd_other _ _ hne'] at h2
        have hlt := hr.low c' l2 h2
        have := s.rel.inj h.length c' k1 k2 l l2 hk (happ c' k2 f') hl (s.fρ c' l2 h2) h3
        omega
    · rw [Lay.upd_other _ _ hne] at h1
      rcases hset c' k2 e' with ⟨rfl, rfl⟩ | ⟨hne', f'⟩
      · rw [Lay.upd_same] at h2; cases h2
        have hlt := hr.low c l1 h1
        have := s.rel.inj c h.length k1 k2 l1 l (happ c k1 f) hk (s.fρ c l1 h1) hl h3
        omega
      · rw [Lay.upd_other _ _ hne'] at h2
        exact hr.inj c c' k1 k2 l1 l2 f f' h1 h2 h3
  · intro c l' e
    simp only [List.length_set]
    by_cases hc : c = b
    · omega
    · rw [Lay.upd_other _ _ hc] at e; exact hr.low c l' e
  · rintro i ⟨c, k', l', e, h1, h2⟩ hi
    rcases hset c k' e with ⟨rfl, rfl⟩ | ⟨hne, f⟩
    · rw [Lay.upd_same] at h1; cases h1
      have := s0.size
      omega
    · rw [Lay.upd_other _ _ hne] at h1
      exact s0.img i ⟨c, k', l', f, h1, h2⟩ hi
  · intro c l' hc e
    rw [Lay.upd_other _ _ (by omega)] at e
    exact s0.old c l' hc e
  · cases m with
    | none =>
      simp only [mkV, VR] at hv ⊢
      obtain ⟨l', e, h1⟩ := hv
      rw [hl] at e; cases e
      exact ⟨l, Lay.upd_same _ _ _, h1⟩
    | some n =>
      simp only [mkV, VR] at hv ⊢
      obtain ⟨l', a, c, e, h1⟩ := hv
      rw [hl] at e; cases e
      exact ⟨l, a, c, Lay.upd_same _ _ _, h1⟩
theorem Rel.hide {F : Frz} {ρ : Lay} {h h1 : Heap} {w : World} (hr : Rel F ρ h w) (hlen : h1.length = h.length) (hh : HLe h1 h) : Rel F ρ h1 w ∧ ∀ i, Img h1 ρ i → Img h ρ i :=
  ⟨⟨hr.frz, fun b k e => hr.liv b k (hh b k e), fun b b' k k' l l' e e' => hr.inj b b' k k' l l' (hh b k e) (hh b' k' e'), fun b l e => by rw [hlen]; exact hr.low b l e⟩,
    fun i ⟨b, k, l, e, h1, h2⟩ => ⟨b, k, l, hh b k e, h1, h2⟩⟩
end Go.Ideal
namespace Go.Ideal
def preB (B : List Nat) (i j : Nat) : Bool := (B.getD j 0).testBit i
def fillP (idOf : Nat → Nat) : List (Nat × Blk) → Heap → Heap
  | [], h => h
  | p :: ps, h => fillP idOf ps (h.set (idOf p.1) (some p.2))
def oblI (P : Program) (ops : Array Oper) (B : List Nat) (j : Nat) (h : Heap) : List (Nat × IAct × IV) → Prop
  | [] => True
  | q :: qs => if preB B q.1 j then oblI P ops B j h qs else
    (match ops[q.1]? with | some o => (match wantI ops o q.2.1 with | some true => opI P (ieval q.2.1) o.op h = some (q.2.2, h) | _ => True) | none => True) ∧ oblI P ops B j h qs
def DRun (P : Program) (ops : Array Oper) (B : List Nat) (idOf : Nat → Nat) (K : IAct → Heap → Prop) : List Nat → IAct → List (Nat × IAct × IV) → List (Nat × Blk) → Heap → Prop
  | [], a, _, pend, h => K a (fillP idOf pend h)
  | j :: js, a, lds, pend, h =>
    match ops[j]? with
    | none => False
    | some o =>
      match kindO o.op with
      | 0 => oK (gOp (wantI ops o a) (opI P (ieval a) o.op h) h) fun p => DRun P ops B idOf K js (iput a o.dst p.1) lds pend h
      | 1 => oK (gOp (wantI ops o a) (opI P (ieval a) o.op h) h) fun p => DRun P ops B idOf K js (iput a o.dst p.1) ((j, a, p.1) :: lds) pend h
      | 2 => match wantI ops o a with
        | some true => oK (newI P (ieval a) o.op) fun p => DRun P ops B idOf K js (iput a o.dst (mkV p.1 (idOf j))) lds (pend ++ [(j, p.2)]) h
        | some false => DRun P ops B idOf K js (iput a o.dst (.tup [])) lds pend h
        | none => False
      | 3 => IOp P ops o a (fillP idOf (pend.filter fun p => preB B p.1 j) h) fun v h' =>
          oblI P ops B j h' lds ∧ DRun P ops B idOf K js (iput a o.dst v) lds (pend.filter fun p => !preB B p.1 j) h'
      | _ => False
def AX (ops : Array Oper) (a0 : IAct) (vals : Nat → IV) (X : Nat → Bool) : Nat → IAct
  | 0 => a0
  | i + 1 => fun t => if X i = true ∧ (ops[i]?).bind (·.dst) = some t then vals i else AX ops a0 vals X i t
structure DChk (P : Program) (n : Nat) (ops : Array Oper) (B : List Nat) : Prop where
  op : ∀ (j : Nat) (o : Oper), ops[j]? = some o → chkOp P n o = true
  edge : ∀ (j : Nat) (o : Oper), ops[j]? = some o → ∀ e ∈ o.after, Region.binds .any e = true → e.on < j
  sound : ∀ (j : Nat) (o : Oper) (i : Nat), ops[j]? = some o → preB B i j = true → ∃ e ∈ o.after, Region.binds .any e = true ∧ (e.on = i ∨ preB B i e.on = true)
  trans : ∀ i j k, k < ops.size → preB B i j = true → preB B j k = true → preB B i k = true
  apart : ∀ (i j : Nat) (oi oj : Oper), i < j → ops[i]? = some oi → ops[j]? = some oj → oi.apart ops oj = true ∨ preB B i j = true
  eff : ∀ (i j : Nat) (oi oj : Oper), i < j → ops[i]? = some oi → ops[j]? = some oj → kindO oi.op = 3 → kindO oj.op = 3 → preB B i j = true
  kind : ∀ (j : Nat) (o : Oper), ops[j]? = some o → kindO o.op ≤ 3
section
variable {P : Program} {n : Nat} {ops : Array Oper} {B : List Nat} {a0 : IAct} {vals : Nat → IV}
theorem DChk.lt (c : DChk P n ops B) : ∀ (j : Nat), j < ops.size → ∀ i, preB B i j = true → i < j := by
  intro j
  induction j using Nat.strongRecOn with
  | _ j ih =>
    intro hj i hp
    obtain ⟨e, he, hb, h | h⟩ := c.sound j _ i (Array.getElem?_eq_getElem hj) hp
    · rw [← h]; exact c.edge j _ (Array.getElem?_eq_getElem hj) e he hb
    · have h1 := c.edge j _ (Array.getElem?_eq_getElem hj) e he hb
      have := ih e.on h1 (by omega) i h
      omega
def Clos (ops : Array Oper) (B : List Nat) (X : Nat → Bool) : Prop := ∀ j, X j = true → j < ops.size ∧ ∀ i, preB B i j = true → X i = true
theorem AX_vals {vals' : Nat → IV} {X : Nat → Bool} (h : ∀ i, X i = true → vals' i = vals i) : ∀ i, AX ops a0 vals' X i = AX ops a0 vals X i
  | 0 => rfl
  | i + 1 => by
    funext t
    simp only [AX, AX_vals h i]
    split
    · rename_i hc; exact h i hc.1
    · rfl
theorem AX_ext {X Y : Nat → Bool} (h : ∀ i, X i = Y i) : ∀ i, AX ops a0 vals X i = AX ops a0 vals Y i
  | 0 => rfl
  | i + 1 => by funext t; simp only [AX, AX_ext h i, h i]
theorem DChk.writes (c : DChk P n ops B) {i j : Nat} {oi oj : Oper} (hi : ops[i]? = some oi) (hj : ops[j]? = some oj) {t : Tmp} (ht : oi.dst = some t) (hl : t ∈ oj.looksAt ops ∨ oj.dst = some t) (hne : i ≠ j) :
    i < j ∧ preB B i j = true ∨ j < i ∧ preB B j i = true := by
  rcases Nat.lt_or_gt_of_ne hne with hlt | hlt
  · rcases c.apart i j oi oj hlt hi hj with ha | hp
    · obtain ⟨h1, h2, h3⟩ := Oper.apart_spec ha
      rcases hl with hl | hl
      · exact absurd hl (h1 t ht)
      · exact absurd hl (h2 t ht)
    · exact .inl ⟨hlt, hp⟩
  · rcases c.apart j i oj oi hlt hj hi with ha | hp
    · obtain ⟨h1, h2, h3⟩ := Oper.apart_spec ha
      rcases hl with hl | hl
      · exact absurd hl (h3 t ht)
      · exact absurd ht (h2 t hl)
    · exact .inr ⟨hlt, hp⟩
theorem AX_add (c : DChk P n ops B) {X : Nat → Bool} (hX : Clos ops B X) {j : Nat} {o : Oper} (hj : ops[j]? = some o) (hXj : X j = false) (v : IV) :
    AX ops a0 (fun i => if i = j then v else vals i) (fun i => decide (i = j) || X i) ops.size = iput (AX ops a0 vals X ops.size) o.dst v := by
  have hjlt : j < ops.size := (Array.getElem?_eq_some_iff.1 hj).1
  have low : ∀ i, i ≤ j → AX ops a0 (fun i => if i = j then v else vals i) (fun i => decide (i = j) || X i) i = AX ops a0 vals X i := by
    intro i
    induction i with
    | zero => intro _; rfl
    | succ i ih =>
      intro hi
      have hne : i ≠ j := by omega
      funext t
      simp only [AX, ih (by omega), hne, decide_false, Bool.false_or, if_false]
  have high : ∀ i, j < i → i ≤ ops.size → AX ops a0 (fun i => if i = j then v else vals i) (fun i => decide (i = j) || X i) i = iput (AX ops a0 vals X i) o.dst v := by
    intro i
    induction i with
    | zero => intro h; omega
    | succ i ih =>
      intro hi hle
      by_cases he : i = j
      · subst he
        funext t
        simp only [AX, low i (Nat.le_refl _), decide_true, Bool.true_or, hXj, hj, Option.bind_some, true_and, if_true, Bool.false_eq_true, false_and, if_false]
        cases hd : o.dst with
        | none => simp [iput]
        | some d => simp only [iput, Option.some.injEq]; by_cases htd : t = d <;> simp [htd, eq_comm]
      · have ih' := ih (by omega) (by omega)
        funext t
        simp only [AX, ih', he, decide_false, Bool.false_or, if_false]
        by_cases hc : X i = true ∧ (ops[i]?).bind (·.dst) = some t
        · rw [if_pos hc]
          have hnt : o.dst ≠ some t := by
            intro hd
            obtain ⟨oi, hoi, hdi⟩ := Option.bind_eq_some_iff.1 hc.2
            rcases c.writes hoi hj hdi (.inr hd) he with ⟨h1, _⟩ | ⟨_, h2⟩
            · omega
            · have := (hX i hc.1).2 j h2
              rw [hXj] at this; cases this
          cases hd : o.dst with
          | none => simp [iput, AX, hc]
          | some d =>
            simp only [iput, AX]
            have : t ≠ d := by rintro rfl; exact hnt hd
            rw [if_neg this, if_pos hc]
        · rw [if_neg hc]
          cases hd : o.dst with
          | none => simp [iput, AX, hc]
          | some d => simp only [iput, AX]; by_cases htd : t = d <;> simp [htd, hc]
  exact high ops.size hjlt (Nat.le_refl _)
theorem AX_read (c : DChk P n ops B) {X Y : Nat → Bool} (hX : Clos ops B X) (hY : Clos ops B Y) {j : Nat} {o : Oper} (hj : ops[j]? = some o) (hXj : X j = false) (hYj : Y j = false)
    (hpX : ∀ i, preB B i j = true → X i = true) (hpY : ∀ i, preB B i j = true → Y i = true) {t : Tmp} (ht : t ∈ o.looksAt ops) : ∀ i, AX ops a0 vals X i t = AX ops a0 vals Y i t
  | 0 => rfl
  | i + 1 => by
    simp only [AX, AX_read c hX hY hj hXj hYj hpX hpY ht i]
    by_cases hw : (ops[i]?).bind (·.dst) = some t
    · have hXY : X i = Y i := by
        by_cases he : i = j
        · rw [he, hXj, hYj]
        · obtain ⟨oi, hoi, hdi⟩ := Option.bind_eq_some_iff.1 hw
          rcases c.writes hoi hj hdi (.inl ht) he with ⟨_, h2⟩ | ⟨_, h2⟩
          · rw [hpX i h2, hpY i h2]
          · cases hx : X i with
            | true => have := (hX i hx).2 j h2; rw [hXj] at this; cases this
            | false => cases hy : Y i with
              | true => have := (hY i hy).2 j h2; rw [hYj] at this; cases this
              | false => rfl
      rw [hXY]
    · simp [hw]
end
theorem looks_eval {ops : Array Oper} {o : Oper} {a a' : IAct} (h : ∀ t ∈ o.looksAt ops, a t = a' t) : ∀ x ∈ o.op.operands, ieval a x = ieval a' x := by
  intro x hx
  cases x with
  | tmp t => exact h t (List.mem_append_left _ (List.mem_filterMap.2 ⟨.tmp t, by simpa using hx, rfl⟩))
  | _ => rfl
theorem looks_want {ops : Array Oper} {o : Oper} {a a' : IAct} (h : ∀ t ∈ o.looksAt ops, a t = a' t) : wantI ops o a = wantI ops o a' := by
  unfold wantI
  cases hg : o.guard with
  | none => rfl
  | some gw =>
    obtain ⟨g, want⟩ := gw
    simp only
    cases ht : (ops[g]?).bind (·.dst) with
    | none => rfl
    | some t => simp only; rw [h t (by simp [Oper.looksAt, hg, ht])]
theorem looks_new {P : Program} {ops : Array Oper} {o : Oper} {a a' : IAct} (h : ∀ t ∈ o.looksAt ops, a t = a' t) {m : Option Nat} {k : Blk} (hn : newI P (ieval a) o.op = some (m, k)) : newI P (ieval a') o.op = some (m, k) := by
  have he := looks_eval h
  have h1 := newI_op hn []
  rw [opI_congr he] at h1
  have : newI P (ieval a') o.op = newI P (ieval a) o.op := by
    cases hop : o.op <;> simp only [newI] <;> rw [hop] at he
    case box t x => rw [he x (by simp [Op.operands])]
    case buildSlice t n ps =>
      have : ps.toList.map (fun p => (p.1, ieval a' p.2)) = ps.toList.map (fun p => (p.1, ieval a p.2)) := List.map_congr_left fun p hm => by
        rw [he p.2 (by simp only [Op.operands]; simp; exact ⟨p.1, by simpa using hm⟩)]
      rw [this]
    case makeSlice t l c => rw [he l (by simp [Op.operands]), he c (by simp [Op.operands])]
  rw [this]; exact hn
theorem fillP_length (idOf : Nat → Nat) : ∀ (ps : List (Nat × Blk)) (h : Heap), (fillP idOf ps h).length = h.length
  | [], _ => rfl
  | p :: ps, h => by simp [fillP, fillP_length idOf ps]
theorem fillP_get (idOf : Nat → Nat) : ∀ (ps : List (Nat × Blk)) (h : Heap) (b : Nat) (k : Blk), (fillP idOf ps h)[b]? = some (some k) → (∃ p ∈ ps, idOf p.1 = b ∧ p.2 = k) ∨ h[b]? = some (some k) ∧ ∀ p ∈ ps, idOf p.1 ≠ b
  | [], h, b, k, e => .inr ⟨e, by simp⟩
  | p :: ps, h, b, k, e => by
    simp only [fillP] at e
    rcases fillP_get idOf ps _ b k e with ⟨q, hq, h1, h2⟩ | ⟨h1, h2⟩
    · exact .inl ⟨q, by simp [hq], h1, h2⟩
    · by_cases hb : idOf p.1 = b
      · subst hb
        rw [List.getElem?_set] at h1
        simp only [if_true] at h1
        split at h1
        · cases h1; exact .inl ⟨p, by simp, rfl, rfl⟩
        · cases h1
      · rw [List.getElem?_set_ne hb] at h1
        exact .inr ⟨h1, fun q hq => by rcases List.mem_cons.1 hq with rfl | hq; exact hb; exact h2 q hq⟩
theorem fillP_other (idOf : Nat → Nat) : ∀ (ps : List (Nat × Blk)) (h : Heap) (b : Nat), (∀ p ∈ ps, idOf p.1 ≠ b) → (fillP idOf ps h)[b]? = h[b]?
  | [], _, _, _ => rfl
  | p :: ps, h, b, hb => by
    simp only [fillP]
    rw [fillP_other idOf ps _ b fun q hq => hb q (by simp [hq]), List.getElem?_set_ne (hb p (by simp))]
theorem fillP_at (idOf : Nat → Nat) : ∀ (ps : List (Nat × Blk)) (h : Heap), (ps.map fun p => idOf p.1).Nodup → ∀ p ∈ ps, idOf p.1 < h.length → (fillP idOf ps h)[idOf p.1]? = some (some p.2)
  | q :: ps, h, hn, p, hp, hlt => by
    simp only [fillP]
    simp only [List.map_cons, List.nodup_cons] at hn
    rcases List.mem_cons.1 hp with rfl | hp
    · rw [fillP_other idOf ps _ _ fun q hq e => hn.1 (List.mem_map.2 ⟨q, hq, e⟩)]
      simp [hlt]
    · exact fillP_at idOf ps _ hn.2 p hp (by simpa using hlt)
theorem Step.revive {F0 F F' : Frz} {ρ0 ρ ρ' : Lay} {h0 H h1 h' : Heap} {w0 w w' : World} (s0 : Step F0 ρ0 h0 w0 F ρ H w) (hlen : h1.length = H.length) (hh : HLe h1 H) (s : Step F ρ h1 w F' ρ' h' w') (idOf : Nat → Nat) (ps : List (Nat × Blk))
    (hps : ∀ p ∈ ps, H[idOf p.1]? = some (some p.2) ∧ ∀ k, h1[idOf p.1]? ≠ some (some k)) : Step F0 ρ0 h0 w0 F' ρ' (fillP idOf ps h') w' := by
  have hr := s0.rel
  obtain ⟨hr1, himg⟩ := hr.hide hlen hh
  have away : ∀ p ∈ ps, ∀ l, ρ (idOf p.1) = some l → ¬ Img h1 ρ l.R := by
    rintro p hp l hl ⟨b, k, l', e, e1, e2⟩
    have := hr.inj b (idOf p.1) k p.2 l' l (hh b k e) (hps p hp).1 e1 hl e2
    subst this
    exact (hps p hp).2 k e
  have key : ∀ p ∈ ps, ∃ l, ρ (idOf p.1) = some l ∧ ρ' (idOf p.1) = some l ∧ F' l.R = none ∧ BlkRel F' ρ' p.2 l w' ∧ l.R < w.heap.size := by
    intro p hp
    obtain ⟨l, hl, hF, cs, g1, g2, g3, g4, g5⟩ := hr.liv _ _ (hps p hp).1
    have hlt : l.R < w.heap.size := (Array.getElem?_eq_some_iff.1 g1).1
    refine ⟨l, hl, s.fρ _ _ hl, ?_, ⟨cs, by rw [s.frame l.R hlt (away p hp l hl)]; exact g1, g2, g3, g4, RowsAt.move (n := H.length) s.fF (fun b l _ e => s.fρ b l e) _ _ _ _ _ (RowsAt.bel hr.low _ _ _ _ g5) (fun _ _ e => e) g5⟩, hlt⟩
    cases hF' : F' l.R with
    | none => rfl
    | some o =>
      rcases s.newF l.R o hF' with h | h | h
      · rw [hF] at h; cases h
      · omega
      · exact absurd h (away p hp l hl)
  refine ⟨s0.fF.trans s.fF, fun b l e => s.fρ b l (s0.fρ b l e), ⟨s.rel.frz, ?_, ?_, fun b l e => by rw [fillP_length]; exact s.rel.low b l e⟩, ?_, ?_, ?_, ?_, ?_, Nat.le_trans s0.size s.size, s.os.trans s0.os, s.tape.trans s0.tape, s.output.trans s0.output⟩
  · intro b k e
    rcases fillP_get idOf ps h' b k e with ⟨p, hp, rfl, rfl⟩ | ⟨e, _⟩
    · obtain ⟨l, _, h2, h3, h4, _⟩ := key p hp
      exact ⟨l, h2, h3, h4⟩
    · exact s.rel.liv b k e
  · have half : ∀ b b' k k' l l', (fillP idOf ps h')[b]? = some (some k) → (fillP idOf ps h')[b']? = some (some k') → ρ' b = some l → ρ' b' = some l' → l.R = l'.R → (∃ p ∈ ps, idOf p.1 = b ∧ p.2 = k) → b = b' := by
      rintro _ b' k k' l l' e e' h1' h2' h3 ⟨p, hp, rfl, rfl⟩
      obtain ⟨lp, q1, q2, q3, q4, q5⟩ := key p hp
      rw [q2] at h1'; cases h1'
      rcases fillP_get idOf ps h' b' k' e' with ⟨p', hp', rfl, rfl⟩ | ⟨f', _⟩
      · obtain ⟨lp', r1, r2, r3, r4, r5⟩ := key p' hp'
        rw [r2] at h2'; cases h2'
        exact hr.inj _ _ p.2 p'.2 l l' (hps p hp).1 (hps p' hp').1 q1 r1 h3
      · have : Img h1 ρ l.R := s.img l.R ⟨b', k', l', f', h2', h3.symm⟩ q5
        exact absurd this (away p hp l q1)
    intro b b' k k' l l' e e' h1' h2' h3
    rcases fillP_get idOf ps h' b k e with hp | ⟨f, _⟩
    · exact half b b' k k' l l' e e' h1' h2' h3 hp
    · rcases fillP_get idOf ps h' b' k' e' with hp | ⟨f', _⟩
      · exact (half b' b k' k l' l e' e h2' h1' h3.symm hp).symm
      · exact s.rel.inj b b' k k' l l' f f' h1' h2' h3
  · intro i hi hn
    have h1 : ¬ Img h1 ρ i := fun k => hn (s0.img i (himg i k) hi)
    rw [s.frame i (Nat.lt_of_lt_of_le hi s0.size) h1, s0.frame i hi hn]
  · rintro i ⟨b, k, l, e, e1, e2⟩ hi
    rcases fillP_get idOf ps h' b k e with ⟨p, hp, rfl, rfl⟩ | ⟨f, _⟩
    · obtain ⟨lp, q1, q2, _⟩ := key p hp
      rw [q2] at e1; cases e1
      exact s0.img i ⟨_, p.2, l, (hps p hp).1, q1, e2⟩ hi
    · exact s0.img i (himg i (s.img i ⟨b, k, l, f, e1, e2⟩ (Nat.lt_of_lt_of_le hi s0.size))) hi
  · intro R o e
    rcases s.newF R o e with h | h | h
    · exact s0.newF R o h
    · exact .inr (.inl (Nat.le_trans s0.size h))
    · by_cases hR : R < w0.heap.size
      · exact .inr (.inr (s0.img R (himg R h) hR))
      · exact .inr (.inl (by omega))
  · rw [fillP_length]; have := s0.len; have := s.len; omega
  · intro b l hb e
    have := s0.len
    exact s0.old b l hb (s.old b l (by omega) e)
end Go.Ideal
namespace Go.Ideal
section
variable {P : Program} {n : Nat} {ops : Array Oper} {B : List Nat} {idOf : Nat → Nat} {K : IAct → Heap → Prop} {h0 : Heap} {a0 : IAct} {F0 : Frz} {ρ0 : Lay} {w0 : World}
def KnX (ops : Array Oper) (todo : List Nat) (j : Nat) : Bool := decide (j < ops.size) && !todo.contains j
def RA (ops : Array Oper) (B : List Nat) (a0 : IAct) (vals : Nat → IV) (j : Nat) : IAct := AX ops a0 vals (fun i => preB B i j) ops.size
def OrdOk (ops : Array Oper) (B : List Nat) : List Nat → Prop
  | [] => True
  | j :: js => j < ops.size ∧ j ∉ js ∧ (∀ i, preB B i j = true → i ∉ j :: js) ∧ (∀ o, ops[j]? = some o → kindO o.op = 3 → ∀ k ∈ js, preB B j k = true) ∧ OrdOk ops B js
structure DInv (P : Program) (n : Nat) (ops : Array Oper) (B : List Nat) (idOf : Nat → Nat) (K : IAct → Heap → Prop) (h0 : Heap) (a0 : IAct) (F0 : Frz) (ρ0 : Lay) (w0 : World)
    (S : Nat → Bool) (F : Frz) (ρ : Lay) (w : World) (ra : Act) (todo : List Nat) (a : IAct) (lds : List (Nat × IAct × IV)) (pend : List (Nat × Blk)) (h : Heap) (vals : Nat → IV) : Prop where
  clos : Clos ops B S
  known : ∀ j, S j = true → j ∉ todo
  closK : Clos ops B (KnX ops todo)
  ord : OrdOk ops B todo
  aeq : a = AX ops a0 vals (KnX ops todo) ops.size
  ar : ARel F ρ n (AX ops a0 vals S ops.size) ra
  step : Step F0 ρ0 h0 w0 F ρ (fillP idOf (pend.filter fun p => S p.1) h) w
  ids : ∀ (j : Nat) (o : Oper), ops[j]? = some o → kindO o.op = 2 → h0.length ≤ idOf j ∧ idOf j < h.length
  inj : ∀ (i j : Nat) (oi oj : Oper), ops[i]? = some oi → ops[j]? = some oj → kindO oi.op = 2 → kindO oj.op = 2 → idOf i = idOf j → i = j
  dead : ∀ (j : Nat) (o : Oper), ops[j]? = some o → kindO o.op = 2 → (j ∈ todo ∨ ∃ p ∈ pend, p.1 = j) → ∀ k, h[idOf j]? ≠ some (some k)
  free : ∀ (j : Nat) (o : Oper), ops[j]? = some o → kindO o.op = 2 → (j ∈ todo ∨ ∃ p ∈ pend, p.1 = j) → S j = false → ρ (idOf j) = none
  pendOk : ∀ p ∈ pend, p.1 ∉ todo ∧ ∃ o m, ops[p.1]? = some o ∧ kindO o.op = 2 ∧ newI P (ieval (RA ops B a0 vals p.1)) o.op = some (m, p.2) ∧ vals p.1 = mkV m (idOf p.1) ∧ wantI ops o (RA ops B a0 vals p.1) = some true
  pendNd : (pend.map (·.1)).Nodup
  flo : ∀ (j : Nat) (o : Oper), ops[j]? = some o → kindO o.op ≤ 1 → j ∉ todo → S j = false → ∃ b, wantI ops o (RA ops B a0 vals j) = some b ∧ (b = false → vals j = .tup []) ∧ (b = true → opI P (ieval (RA ops B a0 vals j)) o.op h = some (vals j, h))
  new : ∀ (j : Nat) (o : Oper), ops[j]? = some o → kindO o.op = 2 → j ∉ todo → S j = false → wantI ops o (RA ops B a0 vals j) = some false ∧ vals j = .tup [] ∨ ∃ p ∈ pend, p.1 = j
  eff : ∀ (j : Nat) (o : Oper), ops[j]? = some o → kindO o.op = 3 → j ∉ todo → S j = true
  ldsOk : ∀ (j : Nat) (o : Oper), ops[j]? = some o → kindO o.op = 1 → j ∉ todo → S j = false → wantI ops o (RA ops B a0 vals j) = some true → ∃ aj, (j, aj, vals j) ∈ lds ∧ ∀ t ∈ o.looksAt ops, aj t = RA ops B a0 vals j t
  run : DRun P ops B idOf K todo a lds pend h
theorem pre_clos (c : DChk P n ops B) {j : Nat} (hj : j < ops.size) : Clos ops B (fun i => preB B i j) := fun i hi => ⟨by have := c.lt j hj i hi; omega, fun i' hi' => c.trans i' i j hj hi' hi⟩
theorem pre_irr (c : DChk P n ops B) {j : Nat} (hj : j < ops.size) : preB B j j = false := by
  cases h : preB B j j with
  | false => rfl
  | true => exact absurd (c.lt j hj j h) (Nat.lt_irrefl j)
theorem DInv.next (c : DChk P n ops B) {S : Nat → Bool} {F : Frz} {ρ : Lay} {w : World} {ra : Act} {j : Nat} {js : List Nat} {a : IAct} {lds : List (Nat × IAct × IV)} {pend : List (Nat × Blk)} {h : Heap} {vals : Nat → IV}
    (I : DInv P n ops B idOf K h0 a0 F0 ρ0 w0 S F ρ w ra (j :: js) a lds pend h vals) {o : Oper} (hj : ops[j]? = some o) (hk : kindO o.op ≠ 3) :
    ∃ a' lds' pend' vals', DInv P n ops B idOf K h0 a0 F0 ρ0 w0 S F ρ w ra js a' lds' pend' h vals' := by
  obtain ⟨hjlt, hjn, hjpre, hjeff, hord⟩ := I.ord
  have hSj : S j = false := by
    cases hs : S j with
    | false => rfl
    | true => exact absurd (List.mem_cons_self) (I.known j hs)
  have hKj : KnX ops (j :: js) j = false := by simp [KnX]
  have hKn : ∀ i, KnX ops js i = (decide (i = j) || KnX ops (j :: js) i) := by
    intro i
    by_cases hi : i = j
    · subst hi; simp [KnX, hjlt, hjn]
    · simp [KnX, hi]
  have hclK : Clos ops B (KnX ops js) := by
    intro i hi
    rw [hKn] at hi
    by_cases he : i = j
    · subst he
      refine ⟨hjlt, fun i' hi' => ?_⟩
      have h1 := hjpre i' hi'
      have h2 := c.lt i hjlt i' hi'
      simp only [KnX, Bool.and_eq_true, decide_eq_true_eq, Bool.not_eq_true', List.contains_eq_mem, decide_eq_false_iff_not]
      exact ⟨by omega, fun hm => h1 (by simp [hm])⟩
    · simp only [he, decide_false, Bool.false_or] at hi
      exact ⟨(I.closK i hi).1, fun i' hi' => by rw [hKn, (I.closK i hi).2 i' hi']; simp⟩
  have hread : ∀ t ∈ o.looksAt ops, a t = RA ops B a0 vals j t := by
    intro t ht
    rw [I.aeq]
    refine AX_read c I.closK (pre_clos c hjlt) hj hKj (pre_irr c hjlt) (fun i hi => ?_) (fun i hi => hi) ht ops.size
    have h1 := hjpre i hi
    have h2 := c.lt j hjlt i hi
    simp only [KnX, Bool.and_eq_true, decide_eq_true_eq, Bool.not_eq_true', List.contains_eq_mem, decide_eq_false_iff_not]
    exact ⟨by omega, h1⟩
  have main : ∀ (v : IV) (lds' : List (Nat × IAct × IV)) (pend' : List (Nat × Blk)),
      (∀ q ∈ lds, q ∈ lds') → DRun P ops B idOf K js (iput a o.dst v) lds' pend' h →
      (kindO o.op ≤ 1 → ∃ b, wantI ops o (RA ops B a0 vals j) = some b ∧ (b = false → v = .tup []) ∧ (b = true → opI P (ieval (RA ops B a0 vals j)) o.op h = some (v, h))) →
      (kindO o.op = 1 → wantI ops o (RA ops B a0 vals j) = some true → (j, a, v) ∈ lds') →
      (kindO o.op ≤ 1 ∧ pend' = pend ∨ kindO o.op = 2 ∧ (pend' = pend ∧ wantI ops o (RA ops B a0 vals j) = some false ∧ v = .tup [] ∨
        ∃ m k, pend' = pend ++ [(j, k)] ∧ newI P (ieval (RA ops B a0 vals j)) o.op = some (m, k) ∧ v = mkV m (idOf j) ∧ wantI ops o (RA ops B a0 vals j) = some true)) →
      ∃ a' lds' pend' vals', DInv P n ops B idOf K h0 a0 F0 ρ0 w0 S F ρ w ra js a' lds' pend' h vals' := by
    intro v lds' pend' hlds hrun hflo hldj hpend
    have hR : ∀ k, (k ∉ j :: js ∨ k = j) → k < ops.size → RA ops B a0 (fun i => if i = j then v else vals i) k = RA ops B a0 vals k := by
      intro k hk' hklt
      refine AX_vals (fun i hi => ?_) ops.size
      have : i ≠ j := by
        rintro rfl
        rcases hk' with hk' | rfl
        · have hkk : KnX ops (i :: js) k = true := by simp [KnX, hklt]; simpa using hk'
          have := (I.closK k hkk).2 i hi
          rw [hKj] at this; cases this
        · rw [pre_irr c hjlt] at hi; cases hi
      simp [this]
    have hS : AX ops a0 (fun i => if i = j then v else vals i) S ops.size = AX ops a0 vals S ops.size := AX_vals (fun i hi => by
      have : i ≠ j := by rintro rfl; rw [hSj] at hi; cases hi
      simp [this]) ops.size
    have hpsub : ∀ p ∈ pend', p ∈ pend ∨ p.1 = j := by
      intro p hp
      rcases hpend with ⟨_, rfl⟩ | ⟨_, ⟨rfl, _⟩ | ⟨m, k, rfl, _⟩⟩
      · exact .inl hp
      · exact .inl hp
      · rcases List.mem_append.1 hp with hp | hp
        · exact .inl hp
        · simp at hp; exact .inr (by rw [hp])
    have hpsup : ∀ p ∈ pend, p ∈ pend' := by
      intro p hp
      rcases hpend with ⟨_, rfl⟩ | ⟨_, ⟨rfl, _⟩ | ⟨m, k, rfl, _⟩⟩
      · exact hp
      · exact hp
      · simp [hp]
    have hfilter : pend'.filter (fun p => S p.1) = pend.filter (fun p => S p.1) := by
      rcases hpend with ⟨_, rfl⟩ | ⟨_, ⟨rfl, _⟩ | ⟨m, k, rfl, _⟩⟩
      · rfl
      · rfl
      · simp [hSj]
    have hjpend : ∀ p ∈ pend, p.1 ≠ j := fun p hp e => (I.pendOk p hp).1 (by simp [e])
    have hnotin : ∀ k, k ∉ js → k ≠ j → k ∉ j :: js := fun k h1 h2 h3 => by rcases List.mem_cons.1 h3 with h3 | h3; exact h2 h3; exact h1 h3
    refine ⟨iput a o.dst v, lds', pend', fun i => if i = j then v else vals i, ⟨I.clos, fun i hi hm => I.known i hi (by simp [hm]), hclK, hord, ?_, by rw [hS]; exact I.ar, by rw [hfilter]; exact I.step, I.ids, I.inj, ?_, ?_, ?_, ?_, ?_, ?_, ?_, ?_, hrun⟩⟩
    · rw [I.aeq, AX_ext hKn, AX_add c I.closK hj hKj v]
    · rintro i oi hoi hki (hm | ⟨p, hp, rfl⟩)
      · exact I.dead i oi hoi hki (.inl (by simp [hm]))
      · rcases hpsub p hp with hp | he
        · exact I.dead _ oi hoi hki (.inr ⟨p, hp, rfl⟩)
        · exact I.dead _ oi hoi hki (.inl (by simp [he]))
    · rintro i oi hoi hki (hm | ⟨p, hp, rfl⟩)
      · exact I.free i oi hoi hki (.inl (by simp [hm]))
      · rcases hpsub p hp with hp | he
        · exact I.free _ oi hoi hki (.inr ⟨p, hp, rfl⟩)
        · exact I.free _ oi hoi hki (.inl (by simp [he]))
    · intro p hp
      by_cases hpj : p.1 = j
      · rcases hpend with ⟨_, rfl⟩ | ⟨hk2, ⟨rfl, _⟩ | ⟨m, k, rfl, h1, h2, h3⟩⟩
        · exact absurd hpj (hjpend p hp)
        · exact absurd hpj (hjpend p hp)
        · rcases List.mem_append.1 hp with hp | hp
          · exact absurd hpj (hjpend p hp)
          · simp only [List.mem_singleton] at hp
            subst hp
            refine ⟨hjn, o, m, hj, hk2, ?_, by simp [h2], ?_⟩
            · rw [hR j (.inr rfl) hjlt]; exact h1
            · rw [hR j (.inr rfl) hjlt]; exact h3
      · rcases hpsub p hp with hp | he
        · obtain ⟨h1, o', m, h2, h3, h4, h5, h6⟩ := I.pendOk p hp
          have hplt := (Array.getElem?_eq_some_iff.1 h2).1
          refine ⟨fun hm => h1 (by simp [hm]), o', m, h2, h3, ?_, by simp [hpj, h5], ?_⟩
          · rw [hR p.1 (.inl h1) hplt]; exact h4
          · rw [hR p.1 (.inl h1) hplt]; exact h6
        · exact absurd he hpj
    · rcases hpend with ⟨_, rfl⟩ | ⟨_, ⟨rfl, _⟩ | ⟨m, k, rfl, _⟩⟩
      · exact I.pendNd
      · exact I.pendNd
      · rw [List.map_append, List.nodup_append]
        refine ⟨I.pendNd, by simp, ?_⟩
        intro x hx y hy
        simp only [List.map_cons, List.map_nil, List.mem_singleton] at hy
        obtain ⟨p, hp, rfl⟩ := List.mem_map.1 hx
        rw [hy]; exact hjpend p hp
    · intro i oi hoi hki hm hSi
      have hilt := (Array.getElem?_eq_some_iff.1 hoi).1
      by_cases he : i = j
      · subst he
        rw [hj] at hoi; cases hoi
        obtain ⟨b, q1, q2, q3⟩ := hflo hki
        rw [hR i (.inr rfl) hilt]
        exact ⟨b, q1, fun hb => by simpa using q2 hb, fun hb => by simpa using q3 hb⟩
      · rw [hR i (.inl (hnotin i hm he)) hilt]
        simpa [he] using I.flo i oi hoi hki (hnotin i hm he) hSi
    · intro i oi hoi hki hm hSi
      have hilt := (Array.getElem?_eq_some_iff.1 hoi).1
      by_cases he : i = j
      · subst he
        rw [hj] at hoi; cases hoi
        rw [hR i (.inr rfl) hilt]
        rcases hpend with ⟨hk1, _⟩ | ⟨_, ⟨_, h1, h2⟩ | ⟨m, k, rfl, _⟩⟩
        · omega
        · exact .inl ⟨h1, by simpa using h2⟩
        · exact .inr ⟨(i, k), by simp, rfl⟩
      · rw [hR i (.inl (hnotin i hm he)) hilt]
        rcases I.new i oi hoi hki (hnotin i hm he) hSi with ⟨h1, h2⟩ | ⟨p, hp, h1⟩
        · exact .inl ⟨h1, by simpa [he] using h2⟩
        · exact .inr ⟨p, hpsup p hp, h1⟩
    · intro i oi hoi hki hm
      refine I.eff i oi hoi hki (hnotin i hm ?_)
      rintro rfl
      rw [hj] at hoi; cases hoi
      exact hk hki
    · intro i oi hoi hki hm hSi hwant
      have hilt := (Array.getElem?_eq_some_iff.1 hoi).1
      by_cases he : i = j
      · subst he
        rw [hj] at hoi; cases hoi
        rw [hR i (.inr rfl) hilt] at hwant ⊢
        exact ⟨a, by simpa using hldj hki hwant, hread⟩
      · rw [hR i (.inl (hnotin i hm he)) hilt] at hwant ⊢
        obtain ⟨aj, h1, h2⟩ := I.ldsOk i oi hoi hki (hnotin i hm he) hSi hwant
        exact ⟨aj, by simpa [he] using hlds _ h1, h2⟩
  have hwr : wantI ops o a = wantI ops o (RA ops B a0 vals j) := looks_want hread
  have hrun := I.run
  simp only [DRun, hj] at hrun
  have hkle := c.kind j o hj
  have float : ∀ (lds' : IV → List (Nat × IAct × IV)), kindO o.op ≤ 1 → (∀ v, ∀ q ∈ lds, q ∈ lds' v) → (kindO o.op = 1 → ∀ v, wantI ops o a = some true → (j, a, v) ∈ lds' v) →
      oK (gOp (wantI ops o a) (opI P (ieval a) o.op h) h) (fun p => DRun P ops B idOf K js (iput a o.dst p.1) (lds' p.1) pend h) →
      ∃ a' lds' pend' vals', DInv P n ops B idOf K h0 a0 F0 ρ0 w0 S F ρ w ra js a' lds' pend' h vals' := by
    intro lds' hk1 hl1 hl2 hD
    cases hw : wantI ops o a with
    | none => rw [hw] at hD; simp [gOp, oK] at hD
    | some b =>
      rw [hw] at hD
      cases b with
      | true =>
        simp only [gOp] at hD
        cases ho : opI P (ieval a) o.op h with
        | none => rw [ho] at hD; simp [oK] at hD
        | some p =>
          obtain ⟨v, h'⟩ := p
          rw [ho] at hD
          simp only [oK] at hD
          obtain ⟨hh, _⟩ := opI_mono hk1 ho (h2 := h) (fun _ _ e => e)
          subst hh
          refine main v (lds' v) pend (hl1 v) hD (fun _ => ⟨true, by rw [← hwr, hw], by simp, fun _ => ?_⟩) (fun hk' _ => hl2 hk' v hw) (.inl ⟨hk1, rfl⟩)
          rw [← ho]; exact (opI_congr (looks_eval hread)).symm
      | false =>
        simp only [gOp, oK] at hD
        exact main (.tup []) (lds' (.tup [])) pend (hl1 _) hD (fun _ => ⟨false, by rw [← hwr, hw], fun _ => rfl, by simp⟩) (fun hk' hw' => by rw [← hwr, hw] at hw'; cases hw') (.inl ⟨hk1, rfl⟩)
  match hkk : kindO o.op, hrun with
  | 0, hrun => exact float (fun _ => lds) (by omega) (fun _ q hq => hq) (fun h => by omega) hrun
  | 1, hrun =>
    exact float (fun v => (j, a, v) :: lds) (by omega) (fun v q hq => by simp [hq]) (fun _ v hw => by simp) hrun
  | 2, hrun =>
    simp only at hrun
    cases hw : wantI ops o a with
    | none => rw [hw] at hrun; exact hrun.elim
    | some b =>
      rw [hw] at hrun
      cases b with
      | true =>
        simp only at hrun
        cases hn : newI P (ieval a) o.op with
        | none => rw [hn] at hrun; simp [oK] at hrun
        | some p =>
          obtain ⟨m, k⟩ := p
          rw [hn] at hrun
          simp only [oK] at hrun
          exact main _ lds _ (fun _ hq => hq) hrun (fun hk' => by omega) (fun hk' => by omega) (.inr ⟨hkk, .inr ⟨m, k, rfl, looks_new hread hn, rfl, by rw [← hwr, hw]⟩⟩)
      | false =>
        simp only at hrun
        exact main _ lds pend (fun _ hq => hq) hrun (fun hk' => by omega) (fun hk' => by omega) (.inr ⟨hkk, .inl ⟨rfl, by rw [← hwr, hw], rfl⟩⟩)
  | 3, _ => exact absurd hkk hk
  | k + 4, _ => omega
theorem DInv.norm (c : DChk P n ops B) {S : Nat → Bool} {F : Frz} {ρ : Lay} {w : World} {ra : Act} : ∀ {todo : List Nat} {a : IAct} {lds : List (Nat × IAct × IV)} {pend : List (Nat × Blk)} {h : Heap} {vals : Nat → IV},
    DInv P n ops B idOf K h0 a0 F0 ρ0 w0 S F ρ w ra todo a lds pend h vals → ∃ todo' a' lds' pend' vals', DInv P n ops B idOf K h0 a0 F0 ρ0 w0 S F ρ w ra todo' a' lds' pend' h vals' ∧ (∀ j js, todo' = j :: js → ∀ o, ops[j]? = some o → kindO o.op = 3)
  | [], a, lds, pend, h, vals, I => ⟨[], a, lds, pend, vals, I, fun j js e => by cases e⟩
  | j :: js, a, lds, pend, h, vals, I => by
    obtain ⟨hjlt, _⟩ := I.ord
    by_cases hk : kindO (ops[j]).op = 3
    · refine ⟨j :: js, a, lds, pend, vals, I, fun j' js' e o ho => ?_⟩
      cases e
      rw [Array.getElem?_eq_getElem hjlt] at ho; cases ho
      exact hk
    · obtain ⟨a', lds', pend', vals', I'⟩ := I.next c (Array.getElem?_eq_getElem hjlt) hk
      exact DInv.norm c I'
end
end Go.Ideal
namespace Go.Ideal
theorem opI_kind0 {P : Program} {ev : Operand → IV} {op : Op} {h h' : Heap} {v : IV} (hk : kindO op = 0) (ho : opI P ev op h = some (v, h')) (h2 : Heap) : opI P ev op h2 = some (v, h2) := by
  have m1 : ∀ {x : Option IV}, x.map (fun v => (v, h)) = some (v, h') → x.map (fun v => (v, h2)) = some (v, h2) := by
    intro x hx
    simp only [Option.map_eq_some_iff, Prod.mk.injEq] at hx
    obtain ⟨v', rfl, rfl, _⟩ := hx
    rfl
  cases op
  case move => simp only [opI] at ho ⊢; cases ho; rfl
  case assign => simp only [opI] at ho ⊢; cases ho; rfl
  case pick c x y =>
    simp only [opI] at ho ⊢
    cases hc : ev c <;> rw [hc] at ho <;> simp only at ho ⊢ <;> cases ho
    rfl
  case build => exact m1 ho
  case nilCheck x =>
    simp only [opI] at ho ⊢
    cases hc : ev x <;> rw [hc] at ho <;> simp only at ho ⊢ <;> cases ho <;> rfl
  case binOp => exact m1 ho
  case unOp => exact m1 ho
  case makeFunc fn first caps =>
    simp only [opI] at ho ⊢
    split at ho
    · cases ho; rfl
    · cases ho
  case fieldAddr => exact m1 ho
  case field => exact m1 ho
  case index => exact m1 ho
  case extract => exact m1 ho
  case call c =>
    obtain ⟨callee, args, argTypes⟩ := c
    simp only [opI] at ho ⊢
    split at ho
    · exact m1 ho
    · simp [kindO] at hk
    · simp [kindO] at hk
    · exact m1 ho
    · exact m1 ho
    · cases ho
  all_goals (exact absurd hk (by simp [kindO]))
theorem IOp_congr {P : Program} {ops : Array Oper} {o : Oper} {a a' : IAct} {h : Heap} {K : IV → Heap → Prop} (hl : ∀ t ∈ o.looksAt ops, a t = a' t) (hi : IOp P ops o a h K) : IOp P ops o a' h K := by
  have he := looks_eval hl
  have hw := looks_want hl
  unfold IOp at hi ⊢
  split at hi
  · rename_i g args ats heq
    rw [heq] at he
    have ha : args.toList.map (ieval a') = args.toList.map (ieval a) := List.map_congr_left fun x hx => (he x (by simp [Op.operands, Call.operands]; right; simpa using hx)).symm
    rw [ha, ← hw]; exact hi
  · rename_i f args ats hne heq
    rw [heq] at he
    have ha : args.toList.map (ieval a') = args.toList.map (ieval a) := List.map_congr_left fun x hx => (he x (by simp [Op.operands, Call.operands]; right; simpa using hx)).symm
    have hf : ieval a' f = ieval a f := (he f (by simp [Op.operands, Call.operands])).symm
    rw [ha, hf, ← hw]
    exact hi
  · rename_i op h1 h2
    rw [← opI_congr he, ← hw]
    exact hi
theorem fillP_eq (idOf : Nat → Nat) {ps qs : List (Nat × Blk)} {h : Heap} (hp : (ps.map fun p => idOf p.1).Nodup) (hq : (qs.map fun p => idOf p.1).Nodup) (hm : ∀ p, p ∈ ps ↔ p ∈ qs) (hl : ∀ p ∈ ps, idOf p.1 < h.length) : fillP idOf ps h = fillP idOf qs h := by
  apply List.ext_getElem?
  intro b
  by_cases hb : ∃ p ∈ ps, idOf p.1 = b
  · obtain ⟨p, hpp, rfl⟩ := hb
    rw [fillP_at idOf ps h hp p hpp (hl p hpp), fillP_at idOf qs h hq p ((hm p).1 hpp) (hl p hpp)]
  · rw [fillP_other idOf ps h b fun p hpp e => hb ⟨p, hpp, e⟩, fillP_other idOf qs h b fun p hpp e => hb ⟨p, (hm p).2 hpp, e⟩]
theorem fillP_append (idOf : Nat → Nat) : ∀ (ps qs : List (Nat × Blk)) (h : Heap), fillP idOf (ps ++ qs) h = fillP idOf qs (fillP idOf ps h)
  | [], _, _ => rfl
  | p :: ps, qs, h => by simp [fillP, fillP_append idOf ps qs]
section
variable {P : Program} {n : Nat} {ops : Array Oper} {B : List Nat} {idOf : Nat → Nat} {K : IAct → Heap → Prop} {h0 : Heap} {a0 : IAct} {F0 : Frz} {ρ0 : Lay} {w0 : World}
  {S : Nat → Bool} {F : Frz} {ρ : Lay} {w : World} {ra : Act} {todo : List Nat} {a : IAct} {lds : List (Nat × IAct × IV)} {pend : List (Nat × Blk)} {h : Heap} {vals : Nat → IV}
def addS (S : Nat → Bool) (i : Nat) : Nat → Bool := fun j => decide (j = i) || S j
theorem addS_clos (hc : Clos ops B S) {i : Nat} (hi : i < ops.size) (hp : ∀ i', preB B i' i = true → S i' = true) : Clos ops B (addS S i) := by
  intro j hj
  simp only [addS, Bool.or_eq_true, decide_eq_true_eq] at hj
  rcases hj with rfl | hj
  · exact ⟨hi, fun i' hi' => by simp [addS, hp i' hi']⟩
  · exact ⟨(hc j hj).1, fun i' hi' => by simp [addS, (hc j hj).2 i' hi']⟩
theorem AX_addS (c : DChk P n ops B) (hc : Clos ops B S) {i : Nat} {o : Oper} (ho : ops[i]? = some o) (hS : S i = false) : AX ops a0 vals (addS S i) ops.size = iput (AX ops a0 vals S ops.size) o.dst (vals i) := by
  have := AX_add (a0 := a0) (vals := vals) c hc ho hS (vals i)
  have e : (fun j => if j = i then vals i else vals j) = vals := by
    funext j; split
    · rename_i h; rw [h]
    · rfl
  rw [e] at this
  exact this
theorem DInv.pendInj (I : DInv P n ops B idOf K h0 a0 F0 ρ0 w0 S F ρ w ra todo a lds pend h vals) : (pend.map fun p => idOf p.1).Nodup := by
  have hnd := I.pendNd
  rw [List.Nodup, List.pairwise_map] at hnd ⊢
  refine List.Pairwise.imp_of_mem ?_ hnd
  intro p q hp hq hne e
  obtain ⟨_, o1, m1, g1, g2, _⟩ := I.pendOk p hp
  obtain ⟨_, o2, m2, f1, f2, _⟩ := I.pendOk q hq
  exact hne (I.inj _ _ o1 o2 g1 f1 g2 f2 e)
theorem nodup_filter_map {f : Nat × Blk → Nat} {ps : List (Nat × Blk)} (q : Nat × Blk → Bool) (h : (ps.map f).Nodup) : ((ps.filter q).map f).Nodup :=
  List.Sublist.nodup ((List.filter_sublist (l := ps)).map f) h
theorem DInv.hle (I : DInv P n ops B idOf K h0 a0 F0 ρ0 w0 S F ρ w ra todo a lds pend h vals) (q : Nat × Blk → Bool) : HLe h (fillP idOf (pend.filter q) h) := by
  intro b k hb
  rw [fillP_other]
  · exact hb
  · rintro p hp rfl
    have hp' := (List.mem_filter.1 hp).1
    obtain ⟨_, o, m, g1, g2, _⟩ := I.pendOk p hp'
    exact I.dead _ o g1 g2 (.inr ⟨p, hp', rfl⟩) k hb
theorem DInv.put (c : DChk P n ops B) (I : DInv P n ops B idOf K h0 a0 F0 ρ0 w0 S F ρ w ra todo a lds pend h vals) {i : Nat} {o : Oper} (ho : ops[i]? = some o) (hS : S i = false) (hit : i ∉ todo) (hp : ∀ i', preB B i' i = true → S i' = true)
    (hnp : ∀ p ∈ pend, p.1 ≠ i) {ρ1 : Lay} {W : World} {u : Value} (s : Step F ρ (fillP idOf (pend.filter fun p => S p.1) h) w F ρ1 (fillP idOf (pend.filter fun p => S p.1) h) W) (hu : VR F ρ1 (vals i) u) :
    DInv P n ops B idOf K h0 a0 F0 ρ0 w0 (addS S i) F ρ1 W (ra.put o.dst u) todo a lds pend h vals := by
  have hi : i < ops.size := (Array.getElem?_eq_some_iff.1 ho).1
  have hfil : pend.filter (fun p => addS S i p.1) = pend.filter (fun p => S p.1) := List.filter_congr fun p hp' => by simp [addS, hnp p hp']
  have hadd : ∀ j, addS S i j = false → S j = false := fun j hj => by simp only [addS, Bool.or_eq_false_iff] at hj; exact hj.2
  refine ⟨addS_clos I.clos hi hp, ?_, I.closK, I.ord, I.aeq, ?_, ?_, I.ids, I.inj, I.dead, ?_, I.pendOk, I.pendNd, ?_, ?_, ?_, ?_, I.run⟩
  · intro j hj
    simp only [addS, Bool.or_eq_true, decide_eq_true_eq] at hj
    rcases hj with rfl | hj
    · exact hit
    · exact I.known j hj
  · rw [AX_addS c I.clos ho hS]
    exact ARel.put ⟨I.ar.size, I.ar.defers, fun t => VR.mono (n := (fillP idOf (pend.filter fun p => S p.1) h).length) I.step.rel.low s.fF s.fρ (I.ar.tmps t)⟩ (chkOp_dst (c.op i o ho)) hu
  · rw [hfil]; exact I.step.trans s
  · intro j oj hoj hk hor hSj
    have := I.free j oj hoj hk hor (hadd j hSj)
    cases he : ρ1 (idOf j) with
    | none => rfl
    | some l =>
      have := s.old (idOf j) l (by rw [fillP_length]; exact (I.ids j oj hoj hk).2) he
      rw [I.free j oj hoj hk hor (hadd j hSj)] at this; cases this
  · intro j oj hoj hk hjt hSj; exact I.flo j oj hoj hk hjt (hadd j hSj)
  · intro j oj hoj hk hjt hSj; exact I.new j oj hoj hk hjt (hadd j hSj)
  · intro j oj hoj hk hjt
    have := I.eff j oj hoj hk hjt
    simp [addS, this]
  · intro j oj hoj hk hjt hSj; exact I.ldsOk j oj hoj hk hjt (hadd j hSj)
theorem DInv.make (c : DChk P n ops B) (I : DInv P n ops B idOf K h0 a0 F0 ρ0 w0 S F ρ w ra todo a lds pend h vals) {i : Nat} {o : Oper} (ho : ops[i]? = some o) (hS : S i = false) (hp : ∀ i', preB B i' i = true → S i' = true)
    {p : Nat × Blk} (hpp : p ∈ pend) (hpi : p.1 = i) {ρ1 : Lay} {W : World} {u : Value} {m : Option Nat} (hm : vals i = mkV m (idOf i)) (hbel : Belss h.length p.2.es)
    (s : Step F ρ (fillP idOf (pend.filter fun p => S p.1) h) w F ρ1 (fillP idOf (pend.filter fun p => S p.1) h ++ [some p.2]) W) (hu : VR F ρ1 (mkV m (fillP idOf (pend.filter fun p => S p.1) h).length) u) :
    ∃ ρ2, DInv P n ops B idOf K h0 a0 F0 ρ0 w0 (addS S i) F ρ2 W (ra.put o.dst u) todo a lds pend h vals := by
  have hi : i < ops.size := (Array.getElem?_eq_some_iff.1 ho).1
  have hadd : ∀ j, addS S i j = false → S j = false ∧ j ≠ i := fun j hj => by simp only [addS, Bool.or_eq_false_iff, decide_eq_false_iff_not] at hj; exact ⟨hj.2, hj.1⟩
  obtain ⟨hpt, o', m', g1, g2, g3, g4, g5⟩ := I.pendOk p hpp
  rw [hpi] at hpt g1 g3 g4 g5
  rw [ho] at g1; cases g1
  have hids := I.ids i o ho g2
  have hfree := I.free i o ho g2 (.inr ⟨p, hpp, hpi⟩) hS
  obtain ⟨l, st, hext, hother, hv⟩ := Step.slot I.step s (by rw [fillP_length]; exact hbel) hids.1 (by rw [fillP_length]; exact hids.2) hfree hu
  refine ⟨ρ.upd (idOf i) l, ⟨addS_clos I.clos hi hp, ?_, I.closK, I.ord, I.aeq, ?_, ?_, I.ids, I.inj, I.dead, ?_, I.pendOk, I.pendNd, ?_, ?_, ?_, ?_, I.run⟩⟩
  · intro j hj
    simp only [addS, Bool.or_eq_true, decide_eq_true_eq] at hj
    rcases hj with rfl | hj
    · exact hpt
    · exact I.known j hj
  · rw [AX_addS c I.clos ho hS, hm]
    exact ARel.put ⟨I.ar.size, I.ar.defers, fun t => VR.mono (n := (fillP idOf (pend.filter fun p => S p.1) h).length) I.step.rel.low (FLe.refl F) hext (I.ar.tmps t)⟩ (chkOp_dst (c.op i o ho)) hv
  · have heq : fillP idOf (pend.filter fun p => addS S i p.1) h = (fillP idOf (pend.filter fun p => S p.1) h).set (idOf i) (some p.2) := by
      have h1 : fillP idOf ((pend.filter fun p => S p.1) ++ [p]) h = (fillP idOf (pend.filter fun p => S p.1) h).set (idOf i) (some p.2) := by
        rw [fillP_append]; simp [fillP, hpi]
      rw [← h1]
      have hnotin : p ∉ pend.filter (fun p => S p.1) := fun hm => by
        have := (List.mem_filter.1 hm).2
        rw [hpi, hS] at this; cases this
      refine fillP_eq idOf (nodup_filter_map _ I.pendInj) ?_ ?_ ?_
      · rw [List.map_append, List.nodup_append]
        refine ⟨nodup_filter_map _ I.pendInj, by simp, ?_⟩
        intro x hx y hy e
        simp only [List.map_cons, List.map_nil, List.mem_singleton] at hy
        obtain ⟨q, hq, rfl⟩ := List.mem_map.1 hx
        subst hy
        obtain ⟨_, oq, mq, f1, f2, _⟩ := I.pendOk q (List.mem_filter.1 hq).1
        have hqp : q.1 = p.1 := I.inj _ _ oq o f1 (by rw [hpi]; exact ho) f2 g2 e
        have := (List.mem_filter.1 hq).2
        rw [hqp, hpi, hS] at this; cases this
      · intro q
        simp only [List.mem_filter, List.mem_append, List.mem_singleton, addS, Bool.or_eq_true, decide_eq_true_eq]
        constructor
        · rintro ⟨hq, h1 | h1⟩
          · right
            have hnd := I.pendNd
            have : ∀ (l : List (Nat × Blk)), (l.map (·.1)).Nodup → ∀ x ∈ l, ∀ y ∈ l, x.1 = y.1 → x = y := by
              intro l
              induction l with
              | nil => simp
              | cons z l ih =>
                intro hn x hx y hy e
                simp only [List.map_cons, List.nodup_cons] at hn
                rcases List.mem_cons.1 hx with rfl | hx' <;> rcases List.mem_cons.1 hy with rfl | hy'
                · rfl
                · exact absurd (List.mem_map.2 ⟨y, hy', e.symm⟩ : x.1 ∈ l.map (·.1)) hn.1
                · exact absurd (List.mem_map.2 ⟨x, hx', e⟩ : y.1 ∈ l.map (·.1)) hn.1
                · exact ih hn.2 x hx' y hy' e
            exact this pend hnd q hq p hpp (by rw [h1, hpi])
          · exact .inl ⟨hq, h1⟩
        · rintro (⟨hq, h1⟩ | rfl)
          · exact ⟨hq, .inr h1⟩
          · exact ⟨hpp, .inl hpi⟩
      · intro q hq
        obtain ⟨_, oq, mq, f1, f2, _⟩ := I.pendOk q (List.mem_filter.1 hq).1
        exact (I.ids _ oq f1 f2).2
    rw [heq]; exact st
  · intro j oj hoj hk hor hSj
    obtain ⟨h1, h2⟩ := hadd j hSj
    rw [hother (idOf j) (fun e => h2 (I.inj j i oj o hoj ho hk g2 e))]
    exact I.free j oj hoj hk hor h1
  · intro j oj hoj hk hjt hSj; exact I.flo j oj hoj hk hjt (hadd j hSj).1
  · intro j oj hoj hk hjt hSj; exact I.new j oj hoj hk hjt (hadd j hSj).1
  · intro j oj hoj hk hjt
    have := I.eff j oj hoj hk hjt
    simp [addS, this]
  · intro j oj hoj hk hjt hSj; exact I.ldsOk j oj hoj hk hjt (hadd j hSj).1
end
end Go.Ideal
