/- Words for the text of a function over the ideal memory, and what simp makes of them. -/
import Derived.Test.YtjfpggiglgkfeaaDIF
set_option linter.unusedVariables false
set_option linter.unusedSimpArgs false
namespace Go.Ideal

def oD (x : Option IV) (h : Heap) (K : IV → Prop) : Prop := oK (gOp (some true) (x.map fun v => (v, h)) h) fun p => K p.1
def oG (w : Option Bool) (x : Option IV) (h : Heap) (K : IV → Prop) : Prop := oK (gOp w (x.map fun v => (v, h)) h) fun p => K p.1
def oP (w : Option Bool) (x : Option (IV × Heap)) (h : Heap) (K : IV → Prop) : Prop := oK (gOp w x h) fun p => K p.1
def oA (x : Option (IV × Heap)) (h : Heap) (K : IV → Heap → Prop) : Prop := oK (gOp (some true) x h) fun p => K p.1 p.2
def oAG (w : Option Bool) (x : Option (IV × Heap)) (h : Heap) (K : IV → Heap → Prop) : Prop := oK (gOp w x h) fun p => K p.1 p.2
def oS (x : Option Heap) (h : Heap) (K : Heap → Prop) : Prop := oK (gOp (some true) (x.map fun h' => (IV.any, h')) h) fun p => K p.2
def gW (v : IV) (b : Bool) : Option Bool := match v with
  | .bool x => some (x == b)
  | .tup [] => some false
  | _ => none
def pickI (c x y : IV) (h : Heap) : Option (IV × Heap) := match c with
  | .bool b => some (if b then x else y, h)
  | _ => none
def nilI (x : IV) (h : Heap) : Option (IV × Heap) := match x with
  | .ptr b i o => some (.ptr b i o, h)
  | .fptr cs => some (.fptr cs, h)
  | .fn f cs => some (.fn f cs, h)
  | _ => none
def buildV (P : Program) (t : TypeId) (ps : List (Nat × IV)) : Option IV :=
  match zrO P t, flO P t with
  | some z, some fl => (fillI (fl[·]?) z ps).map IV.agg
  | _, _ => none
def buildSliceV (P : Program) (t : TypeId) (n : Nat) (ps : List (Nat × IV)) (h : Heap) : Option (IV × Heap) :=
  match elO P t with
  | some e => match zrO P e, szO P e with
    | some z, some s => if n * s ≤ 16777216 ∧ 0 < s ∧ z.length = s then
        (fillI (fun i => some (i * s, s)) (List.replicate n z).flatten ps).map fun cs => (.sl h.length 0 n, h ++ [some ⟨s, e, chunks s n cs⟩]) else none
    | _, _ => none
  | none => none
/-- What a new block will be. -/
def newA (P : Program) (t : TypeId) : Option (Option Nat × Blk) := (zrO P t).map fun z => (none, ⟨z.length, t, [z]⟩)
def newB (t : TypeId) (x : IV) : Option (Option Nat × Blk) := (cellsI x).map fun cs => (none, ⟨cs.length, t, [cs]⟩)
def newS (P : Program) (t : TypeId) (n : Nat) (ps : List (Nat × IV)) : Option (Option Nat × Blk) :=
  match elO P t with
  | some e => match zrO P e, szO P e with
    | some z, some s => if n * s ≤ 16777216 ∧ 0 < s ∧ z.length = s then
        (fillI (fun i => some (i * s, s)) (List.replicate n z).flatten ps).map fun cs => (some n, ⟨s, e, chunks s n cs⟩) else none
    | _, _ => none
  | none => none
/-- It reads the same behind an act. -/
def reads (x : Option IV) (v : IV) (h : Heap) : Prop := (x.map fun v => (v, h)) = some (v, h)
def readsG (w : Option Bool) (x : Option IV) (v : IV) (h : Heap) : Prop := match w with | some true => (x.map fun v => (v, h)) = some (v, h) | _ => True

section
variable {P : Program} {x v : IV} {h h' : Heap} {K : IV → Prop} {KH : IV → Heap → Prop}
@[simp] theorem oK_some {α : Type} (x : α) (K : α → Prop) : oK (some x) K = K x := rfl
@[simp] theorem oK_none {α : Type} (K : α → Prop) : oK none K = False := rfl
@[simp] theorem oD_some : oD (some v) h K = K v := rfl
@[simp] theorem oD_none : oD none h K = False := rfl
@[simp] theorem oG_true {x : Option IV} : oG (some true) x h K = oD x h K := rfl
@[simp] theorem oG_false {x : Option IV} : oG (some false) x h K = K (.tup []) := rfl
@[simp] theorem oP_some {p : IV × Heap} : oP (some true) (some p) h K = K p.1 := rfl
@[simp] theorem oP_false {p : Option (IV × Heap)} : oP (some false) p h K = K (.tup []) := rfl
@[simp] theorem oA_some {p : IV × Heap} : oA (some p) h KH = KH p.1 p.2 := rfl
@[simp] theorem oA_none : oA none h KH = False := rfl
@[simp] theorem oAG_true {p : Option (IV × Heap)} : oAG (some true) p h KH = oA p h KH := rfl
@[simp] theorem oAG_false {p : Option (IV × Heap)} : oAG (some false) p h KH = KH (.tup []) h := rfl
@[simp] theorem oS_some {K : Heap → Prop} : oS (some h') h K = K h' := rfl
@[simp] theorem oS_none {K : Heap → Prop} : oS none h K = False := rfl
@[simp] theorem gW_bool (b c : Bool) : gW (.bool b) c = some (b == c) := rfl
@[simp] theorem gW_tup (c : Bool) : gW (.tup []) c = some false := rfl
@[simp] theorem pickI_bool (b : Bool) (x y : IV) : pickI (.bool b) x y h = some (if b then x else y, h) := rfl
@[simp] theorem nilI_ptr (b i o : Nat) : nilI (.ptr b i o) h = some (.ptr b i o, h) := rfl
@[simp] theorem nilI_fptr (cs : List IV) : nilI (.fptr cs) h = some (.fptr cs, h) := rfl
@[simp] theorem nilI_fn (f : FuncId) (cs : List IV) : nilI (.fn f cs) h = some (.fn f cs, h) := rfl
@[simp] theorem callS_true {g : FuncId} {args : List IV} : callS P (some true) g args h KH = CallsI P g args h KH := rfl
@[simp] theorem callS_false {g : FuncId} {args : List IV} : callS P (some false) g args h KH = KH (.tup []) h := rfl
@[simp] theorem callK_false {f : IV} {args : List IV} : callK P (some false) f args h KH = KH (.tup []) h := rfl
@[simp] theorem callK_fn {g : FuncId} {caps args : List IV} : callK P (some true) (.fn g caps) args h KH = (goO P g = true ∧ CallsI P g (args ++ caps) h KH) := rfl
@[simp] theorem bK'_bool (b : Bool) (X Y : Prop) : bK' (.bool b) X Y = if b = true then X else Y := rfl
@[simp] theorem retK_nil : retK P [] h KH = KH (.tup []) h := rfl
@[simp] theorem retK_v : retK P [.v x] h KH = KH x h := rfl
@[simp] theorem retK_vv {y : IV} : retK P [.v x, .v y] h KH = KH (.tup [x, y]) h := rfl
theorem retK_c {t : TypeId} (hl : loadI P t x h = some v) : retK P [.c x t] h KH = KH v h := by simp [retK, resV, hl, tupI]
theorem retK_cv {t : TypeId} {y : IV} (hl : loadI P t x h = some v) : retK P [.c x t, .v y] h KH = KH (.tup [v, y]) h := by simp [retK, resV, hl, tupI]
@[simp] theorem reads_some : reads (some v) v h = True := by simp [reads]
@[simp] theorem readsG_true {x : Option IV} : readsG (some true) x v h = reads x v h := rfl
@[simp] theorem readsG_false {x : Option IV} : readsG (some false) x v h = True := rfl
end

/-! ### parts of code -/
def bodyC (f : Func) : Code := f.body.getD .skip
def cL : Code → Code
  | .seq x _ => x
  | .cond _ x _ => x
  | .block _ c => c
  | .loop c => c
  | c => c
def cR : Code → Code
  | .seq _ y => y
  | .cond _ _ y => y
  | c => c
theorem bK'_mono {v : IV} {X Y X' Y' : Prop} (hx : X → X') (hy : Y → Y') (p : bK' v X Y) : bK' v X' Y' := by
  unfold bK' at *
  split at p
  · split at p
    · rename_i h; rw [if_pos h]; exact hx p
    · rename_i h; rw [if_neg h]; exact hy p
  · exact p

/-! ### a call's end: what it leaves and what it hands back -/
/-- What is handed back and what is left, said in other words. -/
def Says (r : IV) (h : Heap) (r2 : IV) (h2 : Heap) : Prop :=
  ∀ (F : Frz) (ρ : Lay) (w : World) (u : Value), Rel F ρ h w → VR F ρ r u → ∃ F', Step F ρ h w F' ρ h2 w ∧ VR F' ρ r2 u
theorem Says.refl (r : IV) (h : Heap) : Says r h r h := fun F ρ w u hr hv => ⟨F, Step.refl hr, hv⟩
theorem Says.trans {r r1 r2 : IV} {h h1 h2 : Heap} (s : Says r h r1 h1) (t : Says r1 h1 r2 h2) : Says r h r2 h2 := by
  intro F ρ w u hr hv
  obtain ⟨F1, s1, v1⟩ := s F ρ w u hr hv
  obtain ⟨F2, s2, v2⟩ := t F1 ρ w u s1.rel v1
  exact ⟨F2, s1.trans s2, v2⟩
theorem CallsI.says {P : Program} {f : FuncId} {args : List IV} {h : Heap} {K K' : IV → Heap → Prop} (hc : CallsI P f args h K) (hk : ∀ r h', K r h' → ∃ r2 h2, Says r h' r2 h2 ∧ K' r2 h2) : CallsI P f args h K' := by
  intro F ρ w us hr hv
  refine (hc F ρ w us hr hv).mono ?_
  rintro e w' ⟨r, h', v, F', ρ', k, rfl, st, hv'⟩
  obtain ⟨r2, h2, hs, k2⟩ := hk r h' k
  obtain ⟨F2, s2, v2⟩ := hs F' ρ' w' v st.rel hv'
  exact ⟨r2, h2, v, F2, ρ', k2, rfl, st.trans s2, v2⟩
/-- The blocks that the call made are forgotten, where neither what it hands back nor what was there names one. -/
theorem CallsI.drop {P : Program} {f : FuncId} {args : List IV} {h : Heap} {K K' : IV → Heap → Prop} (hc : CallsI P f args h K)
    (hk : ∀ r h', K r h' → h.length ≤ h'.length → Bel h.length r ∧ (∀ (b : Nat) (k : Blk), b < h.length → h'[b]? = some (some k) → Belss h.length k.es) ∧ K' r (h'.take h.length)) : CallsI P f args h K' := by
  intro F ρ w us hr hv
  refine (hc F ρ w us hr hv).mono ?_
  rintro e w' ⟨r, h', v, F', ρ', k, rfl, st, hv'⟩
  obtain ⟨h1, h2, h3⟩ := hk r h' k st.len
  obtain ⟨q1, q2⟩ := Step.drop st.rel h.length st.len h2
  have hρ : ∀ b l, b < h.length → ρ' b = some l → (if b < h.length then ρ' b else none) = some l := fun b l hb e => by rw [if_pos hb]; exact e
  refine ⟨r, h'.take h.length, v, F', fun b => if b < h.length then ρ' b else none, h3, rfl, ⟨st.fF, fun b l e => ?_, q1, st.frame, fun i hi => st.img i (q2 i hi), st.newF, ?_, fun b l hb e => ?_, st.size, st.os, st.tape, st.output⟩, VR.move (n := h.length) (FLe.refl F') hρ r v h1 hv'⟩
  · rw [if_pos (hr.low b l e)]; exact st.fρ b l e
  · rw [List.length_take, Nat.min_eq_left st.len]; exact Nat.le_refl _
  · rw [if_pos hb] at e; exact st.old b l hb e
/-- The common case: nothing that was there has changed. -/
theorem CallsI.pure {P : Program} {f : FuncId} {args : List IV} {h : Heap} {K : IV → Heap → Prop} (hc : CallsI P f args h fun r h' => Bel h.length r ∧ h <+: h' ∧ ((∀ (b : Nat) (k : Blk), h[b]? = some (some k) → Belss h.length k.es) → K r h)) : CallsI P f args h K := by
  intro F ρ w us hr hv
  have hb : ∀ (b : Nat) (k : Blk), h[b]? = some (some k) → Belss h.length k.es := fun b k e => by
    obtain ⟨_, _, _, _, _, _, _, _, q⟩ := hr.liv b k e
    exact RowsAt.bel hr.low _ _ _ _ q
  refine (CallsI.drop hc ?_) F ρ w us hr hv
  rintro r h' ⟨h1, ⟨t, rfl⟩, h3⟩ _
  refine ⟨h1, fun b k hlt e => hb b k ?_, ?_⟩
  · rwa [List.getElem?_append_left hlt] at e
  · rw [List.take_left]; exact h3 hb
/-- A slice of a live block is handed back as a value. -/
theorem Says.freeze {h : Heap} {b lo len : Nat} {k : Blk} (hb : h[b]? = some (some k)) (hle : lo + len ≤ k.es.length) : Says (.sl b lo len) h (.vs k.size ((k.es.drop lo).take len)) (h.set b none) := by
  intro F ρ w u hr hv
  obtain ⟨F', s, hf⟩ := Step.freeze hr hb
  exact ⟨F', s, hf lo len u hle hv⟩
theorem Says.nil {h : Heap} (s : Nat) : Says .snil h (.vs s []) h := by
  intro F ρ w u hr hv
  refine ⟨F, Step.refl hr, ?_⟩
  simp only [VR] at hv ⊢
  subst hv
  exact ⟨none, 0, rfl, Nat.le_refl _, fun h => absurd rfl h⟩

end Go.Ideal
