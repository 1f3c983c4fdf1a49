/- An ideal memory for Go programs: values that carry frozen content, live blocks by number, and their relation to the model's memory. -/
import Derived.Tactics
import Derived.Orders
import Derived.KernelRfl
import Derived.Laws.CopyRow
import Derived.ArgAppend
set_option linter.unusedVariables false
set_option linter.unusedSimpArgs false
namespace Go.Ideal

/-- Ideal values. 'fptr cs': a pointer into frozen memory whose cells, from there on, are cs. 'vs s es': a frozen slice of elements es, each of s cells. 'ptr b i o', 'sl b lo len': into the live block b. -/
inductive IV where
  | any
  | bool (b : Bool)
  | int (k : IntKind) (n : Int)
  | str (s : ByteArray)
  | nil
  | ptr (b i o : Nat)
  | fptr (cs : List IV)
  | snil
  | sl (b lo len : Nat)
  | vs (s : Nat) (es : List (List IV))
  | fn (f : FuncId) (caps : List IV)
  | agg (cs : List IV)
  | tup (cs : List IV)
  deriving Inhabited

/-- Where a live block lies: the real block, the place of its first cell, the cells of an element, the cells of the real block. -/
structure Loc where
  R : Nat
  base : Nat
  size : Nat
  tot : Nat

abbrev Frz := Nat → Option Obj
abbrev Lay := Nat → Option Loc

def fcell (F : Frz) (R : Nat) (off : Nat) : Option Value :=
  match F R with
  | some (.cells c _ _) => c[off]?
  | _ => none

mutual
def VR (F : Frz) (ρ : Lay) : IV → Value → Prop
  | .any, _ => True
  | .bool b, v => v = .bool b
  | .int k n, v => v = .int k n
  | .str s, v => v = .string s
  | .nil, v => v = .pointer none
  | .ptr b i o, v => ∃ l, ρ b = some l ∧ v = .pointer (some ⟨l.R, l.base + i * l.size + o, none⟩)
  | .fptr cs, v => ∃ R off, v = .pointer (some ⟨R, off, none⟩) ∧ CellsAt F ρ cs (fcell F R) off
  | .snil, v => v = .slice none 0 0
  | .sl b lo len, v => ∃ l a c, ρ b = some l ∧ v = .slice (some a) len c ∧ len ≤ c ∧
      (len = 0 ∧ c = 0 ∨ a = ⟨l.R, l.base + lo * l.size, none⟩ ∧ l.base + (lo + c) * l.size ≤ l.tot)
  | .vs s es, v => ∃ A c, v = .slice A es.length c ∧ es.length ≤ c ∧
      (es ≠ [] → ∃ R off, A = some ⟨R, off, none⟩ ∧ RowsAt F ρ s es (fcell F R) off)
  | .fn f caps, v => ∃ us, v = .func (.func f) #[] us ∧ VRs F ρ caps us.toList
  | .agg cs, v => ∃ us, v = .agg us ∧ VRs F ρ cs us.toList
  | .tup cs, v => ∃ us, v = .tuple us ∧ VRs F ρ cs us.toList
def VRs (F : Frz) (ρ : Lay) : List IV → List Value → Prop
  | [], us => us = []
  | v :: vs, us => ∃ u us', us = u :: us' ∧ VR F ρ v u ∧ VRs F ρ vs us'
def CellsAt (F : Frz) (ρ : Lay) : List IV → (Nat → Option Value) → Nat → Prop
  | [], _, _ => True
  | v :: vs, g, off => (∃ u, g off = some u ∧ VR F ρ v u) ∧ CellsAt F ρ vs g (off + 1)
def RowsAt (F : Frz) (ρ : Lay) (s : Nat) : List (List IV) → (Nat → Option Value) → Nat → Prop
  | [], _, _ => True
  | e :: es, g, off => e.length = s ∧ CellsAt F ρ e g off ∧ RowsAt F ρ s es g (off + s)
end

mutual
/-- No reference to a live block from number n on. -/
def Bel (n : Nat) : IV → Prop
  | .ptr b _ _ => b < n
  | .sl b _ _ => b < n
  | .fptr cs => Bels n cs
  | .vs _ es => Belss n es
  | .fn _ cs => Bels n cs
  | .agg cs => Bels n cs
  | .tup cs => Bels n cs
  | _ => True
def Bels (n : Nat) : List IV → Prop
  | [] => True
  | v :: vs => Bel n v ∧ Bels n vs
def Belss (n : Nat) : List (List IV) → Prop
  | [] => True
  | v :: vs => Bels n v ∧ Belss n vs
end

def FLe (F F' : Frz) : Prop := ∀ R o, F R = some o → F' R = some o

theorem FLe.refl (F : Frz) : FLe F F := fun _ _ h => h
theorem FLe.trans {F F' F'' : Frz} (h : FLe F F') (h' : FLe F' F'') : FLe F F'' := fun R o k => h' R o (h R o k)

theorem fcell_le {F F' : Frz} (h : FLe F F') {R off : Nat} {u : Value} (k : fcell F R off = some u) : fcell F' R off = some u := by
  unfold fcell at *
  cases e : F R with
  | none => rw [e] at k; cases k
  | some o => rw [e] at k; rw [h R o e]; exact k

mutual
theorem VR.move {F F' : Frz} {ρ ρ' : Lay} {n : Nat} (hF : FLe F F') (hρ : ∀ b l, b < n → ρ b = some l → ρ' b = some l) : ∀ (v : IV) (u : Value), Bel n v → VR F ρ v u → VR F' ρ' v u
  | .any, _, _, _ => by simp [VR]
  | .bool _, _, _, h => by simpa [VR] using h
  | .int _ _, _, _, h => by simpa [VR] using h
  | .str _, _, _, h => by simpa [VR] using h
  | .nil, _, _, h => by simpa [VR] using h
  | .ptr b i o, _, hb, h => by
    simp only [VR, Bel] at *
    obtain ⟨l, hl, hv⟩ := h
    exact ⟨l, hρ _ _ hb hl, hv⟩
  | .fptr cs, _, hb, h => by
    simp only [VR, Bel] at *
    obtain ⟨R, off, hv, hc⟩ := h
    exact ⟨R, off, hv, CellsAt.move hF hρ cs _ _ off hb (fun i u hu => fcell_le hF hu) hc⟩
  | .snil, _, _, h => by simpa [VR] using h
  | .sl b lo len, _, hb, h => by
    simp only [VR, Bel] at *
    obtain ⟨l, A, c, hl, hv⟩ := h
    exact ⟨l, A, c, hρ _ _ hb hl, hv⟩
  | .vs s es, _, hb, h => by
    simp only [VR, Bel] at *
    obtain ⟨A, c, hv, hc, hr⟩ := h
    refine ⟨A, c, hv, hc, fun hne => ?_⟩
    obtain ⟨R, off, hA, hrows⟩ := hr hne
    exact ⟨R, off, hA, RowsAt.move hF hρ s es _ _ off hb (fun i u hu => fcell_le hF hu) hrows⟩
  | .fn f cs, _, hb, h => by
    simp only [VR, Bel] at *
    obtain ⟨us, hv, hc⟩ := h
    exact ⟨us, hv, VRs.move hF hρ cs _ hb hc⟩
  | .agg cs, _, hb, h => by
    simp only [VR, Bel] at *
    obtain ⟨us, hv, hc⟩ := h
    exact ⟨us, hv, VRs.move hF hρ cs _ hb hc⟩
  | .tup cs, _, hb, h => by
    simp only [VR, Bel] at *
    obtain ⟨us, hv, hc⟩ := h
    exact ⟨us, hv, VRs.move hF hρ cs _ hb hc⟩
theorem VRs.move {F F' : Frz} {ρ ρ' : Lay} {n : Nat} (hF : FLe F F') (hρ : ∀ b l, b < n → ρ b = some l → ρ' b = some l) : ∀ (vs : List IV) (us : List Value), Bels n vs → VRs F ρ vs us → VRs F' ρ' vs us
  | [], _, _, h => by simpa [VRs] using h
  | v :: vs, _, hb, h => by
    simp only [VRs, Bels] at *
    obtain ⟨u, us', he, h1, h2⟩ := h
    exact ⟨u, us', he, VR.move hF hρ v u hb.1 h1, VRs.move hF hρ vs us' hb.2 h2⟩
theorem CellsAt.move {F F' : Frz} {ρ ρ' : Lay} {n : Nat} (hF : FLe F F') (hρ : ∀ b l, b < n → ρ b = some l → ρ' b = some l) : ∀ (vs : List IV) (g g' : Nat → Option Value) (off : Nat), Bels n vs →
    (∀ i u, g i = some u → g' i = some u) → CellsAt F ρ vs g off → CellsAt F' ρ' vs g' off
  | [], _, _, _, _, _, _ => by simp [CellsAt]
  | v :: vs, g, g', off, hb, hg, h => by
    simp only [CellsAt, Bels] at *
    obtain ⟨⟨u, hu, h1⟩, h2⟩ := h
    exact ⟨⟨u, hg _ _ hu, VR.move hF hρ v u hb.1 h1⟩, CellsAt.move hF hρ vs g g' _ hb.2 hg h2⟩
theorem RowsAt.move {F F' : Frz} {ρ ρ' : Lay} {n : Nat} (hF : FLe F F') (hρ : ∀ b l, b < n → ρ b = some l → ρ' b = some l) (s : Nat) : ∀ (es : List (List IV)) (g g' : Nat → Option Value) (off : Nat), Belss n es →
    (∀ i u, g i = some u → g' i = some u) → RowsAt F ρ s es g off → RowsAt F' ρ' s es g' off
  | [], _, _, _, _, _, _ => by simp [RowsAt]
  | e :: es, g, g', off, hb, hg, h => by
    simp only [RowsAt, Belss] at *
    exact ⟨h.1, CellsAt.move hF hρ e g g' off hb.1 hg h.2.1, RowsAt.move hF hρ s es g g' _ hb.2 hg h.2.2⟩
end

mutual
/-- Related values name only numbers that are laid. -/
theorem VR.bel {F : Frz} {ρ : Lay} {n : Nat} (hρ : ∀ b l, ρ b = some l → b < n) : ∀ (v : IV) (u : Value), VR F ρ v u → Bel n v
  | .any, _, _ => by simp [Bel]
  | .bool _, _, _ => by simp [Bel]
  | .int _ _, _, _ => by simp [Bel]
  | .str _, _, _ => by simp [Bel]
  | .nil, _, _ => by simp [Bel]
  | .ptr b i o, _, h => by
    simp only [VR, Bel] at *
    obtain ⟨l, hl, _⟩ := h
    exact hρ _ _ hl
  | .fptr cs, _, h => by
    simp only [VR, Bel] at *
    obtain ⟨R, off, hv, hc⟩ := h
    exact CellsAt.bel hρ cs _ off hc
  | .snil, _, _ => by simp [Bel]
  | .sl b lo len, _, h => by
    simp only [VR, Bel] at *
    obtain ⟨l, A, c, hl, hv⟩ := h
    exact hρ _ _ hl
  | .vs s es, _, h => by
    simp only [VR, Bel] at *
    obtain ⟨A, c, hv, hc, hr⟩ := h
    cases es with
    | nil => simp [Belss]
    | cons e es =>
      obtain ⟨R, off, hA, hrows⟩ := hr (by simp)
      exact RowsAt.bel hρ s (e :: es) _ off hrows
  | .fn f cs, _, h => by
    simp only [VR, Bel] at *
    obtain ⟨us, hv, hc⟩ := h
    exact VRs.bel hρ cs _ hc
  | .agg cs, _, h => by
    simp only [VR, Bel] at *
    obtain ⟨us, hv, hc⟩ := h
    exact VRs.bel hρ cs _ hc
  | .tup cs, _, h => by
    simp only [VR, Bel] at *
    obtain ⟨us, hv, hc⟩ := h
    exact VRs.bel hρ cs _ hc
theorem VRs.bel {F : Frz} {ρ : Lay} {n : Nat} (hρ : ∀ b l, ρ b = some l → b < n) : ∀ (vs : List IV) (us : List Value), VRs F ρ vs us → Bels n vs
  | [], _, _ => by simp [Bels]
  | v :: vs, _, h => by
    simp only [VRs, Bels] at *
    obtain ⟨u, us', he, h1, h2⟩ := h
    exact ⟨VR.bel hρ v u h1, VRs.bel hρ vs us' h2⟩
theorem CellsAt.bel {F : Frz} {ρ : Lay} {n : Nat} (hρ : ∀ b l, ρ b = some l → b < n) : ∀ (vs : List IV) (g : Nat → Option Value) (off : Nat), CellsAt F ρ vs g off → Bels n vs
  | [], _, _, _ => by simp [Bels]
  | v :: vs, g, off, h => by
    simp only [CellsAt, Bels] at *
    obtain ⟨⟨u, hu, h1⟩, h2⟩ := h
    exact ⟨VR.bel hρ v u h1, CellsAt.bel hρ vs g _ h2⟩
theorem RowsAt.bel {F : Frz} {ρ : Lay} {n : Nat} (hρ : ∀ b l, ρ b = some l → b < n) (s : Nat) : ∀ (es : List (List IV)) (g : Nat → Option Value) (off : Nat), RowsAt F ρ s es g off → Belss n es
  | [], _, _, _ => by simp [Belss]
  | e :: es, g, off, h => by
    simp only [RowsAt, Belss] at *
    exact ⟨CellsAt.bel hρ e g off h.2.1, RowsAt.bel hρ s es g _ h.2.2⟩
end

/-- A live block: cells of an element, the element's type, the elements. -/
structure Blk where
  size : Nat
  ty : TypeId
  es : List (List IV)

abbrev Heap := List (Option Blk)

def BlkRel (F : Frz) (ρ : Lay) (k : Blk) (l : Loc) (w : World) : Prop :=
  ∃ cs : Array Value, w.heap[l.R]? = some (.cells cs k.ty (0, 0)) ∧ l.tot = cs.size ∧ l.size = k.size ∧ l.base + k.es.length * k.size ≤ cs.size ∧ RowsAt F ρ k.size k.es (cs[·]?) l.base

structure Rel (F : Frz) (ρ : Lay) (h : Heap) (w : World) : Prop where
  frz : ∀ R o, F R = some o → w.heap[R]? = some o
  liv : ∀ b k, h[b]? = some (some k) → ∃ l, ρ b = some l ∧ F l.R = none ∧ BlkRel F ρ k l w
  inj : ∀ b b' k k' l l', h[b]? = some (some k) → h[b']? = some (some k') → ρ b = some l → ρ b' = some l' → l.R = l'.R → b = b'
  low : ∀ b l, ρ b = some l → b < h.length

/-- The real blocks of the live blocks. -/
def Img (h : Heap) (ρ : Lay) (i : Nat) : Prop := ∃ b k l, h[b]? = some (some k) ∧ ρ b = some l ∧ l.R = i

structure Step (F : Frz) (ρ : Lay) (h : Heap) (w : World) (F' : Frz) (ρ' : Lay) (h' : Heap) (w' : World) : Prop where
  fF : FLe F F'
  fρ : ∀ b l, ρ b = some l → ρ' b = some l
  rel : Rel F' ρ' h' w'
  frame : ∀ i, i < w.heap.size → ¬ Img h ρ i → w'.heap[i]? = w.heap[i]?
  img : ∀ i, Img h' ρ' i → i < w.heap.size → Img h ρ i
  newF : ∀ R o, F' R = some o → F R = some o ∨ w.heap.size ≤ R ∨ Img h ρ R
  len : h.length ≤ h'.length
  old : ∀ b l, b < h.length → ρ' b = some l → ρ b = some l
  size : w.heap.size ≤ w'.heap.size
  os : w'.os = w.os
  tape : w'.tape = w.tape
  output : w'.output = w.output

theorem Step.refl {F : Frz} {ρ : Lay} {h : Heap} {w : World} (hr : Rel F ρ h w) : Step F ρ h w F ρ h w :=
  ⟨FLe.refl F, fun _ _ k => k, hr, fun _ _ _ => rfl, fun _ k _ => k, fun _ _ k => .inl k, Nat.le_refl _, fun _ _ _ k => k, Nat.le_refl _, rfl, rfl, rfl⟩

theorem Step.trans {F F1 F2 : Frz} {ρ ρ1 ρ2 : Lay} {h h1 h2 : Heap} {w w1 w2 : World} (s : Step F ρ h w F1 ρ1 h1 w1) (t : Step F1 ρ1 h1 w1 F2 ρ2 h2 w2) : Step F ρ h w F2 ρ2 h2 w2 where
  fF := s.fF.trans t.fF
  fρ := fun b l k => t.fρ b l (s.fρ b l k)
  rel := t.rel
  frame := fun i hi hn => by
    have h1 : ¬ Img h1 ρ1 i := fun k => hn (s.img i k hi)
    rw [t.frame i (Nat.lt_of_lt_of_le hi s.size) h1, s.frame i hi hn]
  img := fun i k hi => s.img i (t.img i k (Nat.lt_of_lt_of_le hi s.size)) hi
  newF := fun R o k => by
    rcases t.newF R o k with k | k | k
    · exact s.newF R o k
    · exact .inr (.inl (Nat.le_trans s.size k))
    · by_cases hR : R < w.heap.size
      · exact .inr (.inr (s.img R k hR))
      · exact .inr (.inl (by omega))
  len := Nat.le_trans s.len t.len
  old := fun b l hb k => s.old b l hb (t.old b l (Nat.lt_of_lt_of_le hb s.len) k)
  size := Nat.le_trans s.size t.size
  os := t.os.trans s.os
  tape := t.tape.trans s.tape
  output := t.output.trans s.output

/-- Values stay related along a step. -/
theorem Step.vr {F F' : Frz} {ρ ρ' : Lay} {h h' : Heap} {w w' : World} (s : Step F ρ h w F' ρ' h' w') {v : IV} {u : Value} (k : VR F ρ v u) (hr : Rel F ρ h w) : VR F' ρ' v u :=
  VR.move (n := h.length) s.fF (fun b l _ hl => s.fρ b l hl) v u (VR.bel hr.low v u k) k
theorem Step.vrs {F F' : Frz} {ρ ρ' : Lay} {h h' : Heap} {w w' : World} (s : Step F ρ h w F' ρ' h' w') {v : List IV} {u : List Value} (k : VRs F ρ v u) (hr : Rel F ρ h w) : VRs F' ρ' v u :=
  VRs.move (n := h.length) s.fF (fun b l _ hl => s.fρ b l hl) v u (VRs.bel hr.low v u k) k

theorem VR.mono {F F' : Frz} {ρ ρ' : Lay} {n : Nat} (hn : ∀ b l, ρ b = some l → b < n) (hF : FLe F F') (hρ : ∀ b l, ρ b = some l → ρ' b = some l) {v : IV} {u : Value} (k : VR F ρ v u) : VR F' ρ' v u :=
  VR.move (n := n) hF (fun b l _ hl => hρ b l hl) v u (VR.bel hn v u k) k

end Go.Ideal
