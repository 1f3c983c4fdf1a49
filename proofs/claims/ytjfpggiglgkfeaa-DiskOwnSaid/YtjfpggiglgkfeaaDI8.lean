/- All operations together; calls; the rules for code over the ideal memory. -/
import Derived.Test.YtjfpggiglgkfeaaDI7
set_option linter.unusedVariables false
set_option linter.unusedSimpArgs false
namespace Go.Ideal

abbrev IAct := Nat → IV
def ieval (a : IAct) : Operand → IV
  | .tmp t => a t
  | .const v => toIV v
  | .global _ => .any
  | .func f => .fn f []
def iput (a : IAct) : Option Tmp → IV → IAct
  | some d, v => fun t => if t = d then v else a t
  | none, _ => a

/-- Every operation but a call of a function. -/
def opI (P : Program) (ev : Operand → IV) (o : Op) (h : Heap) : Option (IV × Heap) :=
  match o with
  | .move x => some (ev x, h)
  | .assign x => some (ev x, h)
  | .pick c x y => match ev c with
    | .bool b => some (if b then ev x else ev y, h)
    | _ => none
  | .alloc t => allocI P t h
  | .box t x => boxI t (ev x) h
  | .build t parts => (buildI P ev t parts).map fun v => (v, h)
  | .buildSlice t n parts => buildSliceI P ev t n parts h
  | .load t x => (loadI P t (ev x) h).map fun v => (v, h)
  | .store t x y => (storeI P t (ev x) (ev y) h).map fun h' => (.any, h')
  | .nilCheck x => match ev x with
    | .ptr b i o => some (.ptr b i o, h)
    | .fptr cs => some (.fptr cs, h)
    | .fn f cs => some (.fn f cs, h)
    | _ => none
  | .binOp op t x y _ => (binI P op t (ev x) (ev y)).map fun v => (v, h)
  | .unOp op _ x => (unI op (ev x)).map fun v => (v, h)
  | .convert s d x => (convI P s d (ev x) h).map fun v => (v, h)
  | .makeFunc fn first caps => match fn, first.toList with
    | .func f, [] => some (.fn f (caps.toList.map ev), h)
    | _, _ => none
  | .makeSlice t l c => makeSliceI P t (ev l) (ev c) h
  | .slice t x lo hi none => (sliceI P t (ev x) (lo.map ev) (hi.map ev) h).map fun v => (v, h)
  | .fieldAddr t x i => (fieldAddrI P t (ev x) i).map fun v => (v, h)
  | .field t x i => (fieldI P t (ev x) i).map fun v => (v, h)
  | .indexAddr t x i => (indexAddrI P t (ev x) (ev i) h).map fun v => (v, h)
  | .extract x i => (extractI (ev x) i).map fun v => (v, h)
  | .call c => match c.callee, c.args.toList, c.argTypes.toList with
    | .builtin .len, [x], [t] => (lenI P t (ev x)).map fun v => (v, h)
    | .builtin .append, [s, x], [t, t2] => appendI P t t2 (ev s) (ev x) h
    | .builtin .copy, [d, x], [t, _] => copyI P t (ev d) (ev x) h
    | .builtin .max, x :: xs, _ => (mmI true (ev x) (xs.map ev)).map fun v => (v, h)
    | .builtin .min, x :: xs, _ => (mmI false (ev x) (xs.map ev)).map fun v => (v, h)
    | _, _, _ => none
  | _ => none

theorem toList_eq {α : Type} {xs : Array α} {l : List α} (h : xs.toList = l) : xs = l.toArray := by rw [← h]

theorem VRs.map {F : Frz} {ρ : Lay} {ev : Operand → IV} {re : Operand → Value} (he : ∀ x, VR F ρ (ev x) (re x)) : ∀ xs : List Operand, VRs F ρ (xs.map ev) (xs.map re)
  | [] => by simp [VRs]
  | x :: xs => ⟨re x, xs.map re, rfl, he x, VRs.map he xs⟩

theorem opI_run {P : Program} {F : Frz} {ρ : Lay} {h h' : Heap} {w : World} (hr : Rel F ρ h w) (ev : Operand → IV) (re : Operand → Value) (he : ∀ x, VR F ρ (ev x) (re x)) (o : Oper) {v : IV} (ho : opI P ev o.op h = some (v, h')) :
    ∃ nx u W ρ', (execOp re o).run P w = .ok nx W ∧ (nx = .value u ∨ nx = .skip ∧ u = undef) ∧ Step F ρ h w F ρ' h' W ∧ VR F ρ' v u := by
  obtain ⟨dst, op, type, pos, after, guard⟩ := o
  -- an operation that leaves memory as it is
  have pure1 : ∀ {x : Option IV} {s : Sem Value}, x.map (fun v => (v, h)) = some (v, h') → (∀ v', x = some v' → ∃ u, s.run P w = .ok u w ∧ VR F ρ v' u) →
      ∃ nx u W ρ', (do pure (.value (← s)) : Sem Next).run P w = .ok nx W ∧ (nx = .value u ∨ nx = .skip ∧ u = undef) ∧ Step F ρ h w F ρ' h' W ∧ VR F ρ' v u := by
    intro x s hx hs
    simp only [Option.map_eq_some_iff, Prod.mk.injEq] at hx
    obtain ⟨v', hx, rfl, rfl⟩ := hx
    obtain ⟨u, h1, h2⟩ := hs v' hx
    exact ⟨_, u, w, ρ, by simp [h1], .inl rfl, Step.refl hr, h2⟩
  have new1 : ∀ {s : Sem Value}, (∃ u W ρ', s.run P w = .ok u W ∧ Step F ρ h w F ρ' h' W ∧ VR F ρ' v u) →
      ∃ nx u W ρ', (do pure (.value (← s)) : Sem Next).run P w = .ok nx W ∧ (nx = .value u ∨ nx = .skip ∧ u = undef) ∧ Step F ρ h w F ρ' h' W ∧ VR F ρ' v u := by
    rintro s ⟨u, W, ρ', h1, h2, h3⟩
    exact ⟨_, u, W, ρ', by simp [h1], .inl rfl, h2, h3⟩
  cases op <;> simp only [opI] at ho <;> (try cases ho) <;> simp only [execOp]
  case move x => exact ⟨_, re x, w, ρ, rfl, .inl rfl, Step.refl hr, he x⟩
  case assign x => exact ⟨_, re x, w, ρ, rfl, .inl rfl, Step.refl hr, he x⟩
  case pick c x y =>
    split at ho
    · rename_i b hb
      have hc := he c
      rw [hb] at hc
      simp only [VR] at hc
      simp only [Option.some.injEq, Prod.mk.injEq] at ho
      obtain ⟨rfl, rfl⟩ := ho
      refine ⟨_, if b then re x else re y, w, ρ, by simp [hc, asBool]; rfl, .inl ?_, Step.refl hr, ?_⟩
      · cases b <;> rfl
      · cases b
        · exact he y
        · exact he x
    · cases ho
  case alloc t => exact new1 (allocI_run hr ho)
  case box t x => exact new1 (boxI_run hr (he x) ho)
  case build t parts => exact pure1 ho fun v' hv => buildI_run ev re he hv
  case buildSlice t n parts => exact new1 (buildSliceI_run hr ev re he ho)
  case load t x => exact pure1 ho fun v' hv => loadI_run hr (he x) hv
  case store t x y =>
    simp only [Option.map_eq_some_iff, Prod.mk.injEq] at ho
    obtain ⟨h2, hs, rfl, rfl⟩ := ho
    obtain ⟨W, h1, h2⟩ := storeI_run hr (he x) (he y) hs
    exact ⟨.skip, undef, W, ρ, by simp [h1], .inr ⟨rfl, rfl⟩, h2, by simp [VR]⟩
  case nilCheck x =>
    have hx := he x
    split at ho
    · rename_i b i o heq
      cases ho
      rw [heq] at hx
      have hx' := hx
      simp only [VR] at hx'
      obtain ⟨l, _, h1⟩ := hx'
      exact ⟨_, re x, w, ρ, by rw [h1]; rfl, .inl rfl, Step.refl hr, hx⟩
    · rename_i cs heq
      cases ho
      rw [heq] at hx
      have hx' := hx
      simp only [VR] at hx'
      obtain ⟨R, off, h1, _⟩ := hx'
      exact ⟨_, re x, w, ρ, by rw [h1]; rfl, .inl rfl, Step.refl hr, hx⟩
    · rename_i f cs heq
      cases ho
      rw [heq] at hx
      have hx' := hx
      simp only [VR] at hx'
      obtain ⟨us, h1, _⟩ := hx'
      exact ⟨_, re x, w, ρ, by rw [h1]; rfl, .inl rfl, Step.refl hr, hx⟩
    · cases ho
  case binOp op t x y yt => exact pure1 ho fun v' hv => binI_run (he x) (he y) hv
  case unOp op t x => exact pure1 ho fun v' hv => unI_run (he x) hv
  case convert s d x => exact pure1 ho fun v' hv => convI_run hr (he x) hv
  case makeFunc fn first caps =>
    split at ho
    · rename_i f hf
      cases ho
      have h0 : first = #[] := by rw [toList_eq hf]
      subst h0
      exact ⟨_, .func (.func f) #[] (caps.map re), w, ρ, by simp [Instr.makeFunc], .inl rfl, Step.refl hr, caps.map re, rfl, by rw [Array.toList_map]; exact VRs.map he _⟩
    · cases ho
  case makeSlice t l c => exact new1 (makeSliceI_run hr (he l) (he c) ho)
  case slice t x lo hi mx =>
    cases mx with
    | some m => simp at ho
    | none =>
      simp only at ho
      refine pure1 ho fun v' hv => sliceI_run hr (he x) ?_ ?_ ?_ ?_ hv
      · intro v hv; cases lo with
        | none => cases hv
        | some y => cases hv; exact ⟨_, rfl, he y⟩
      · intro hv; cases lo with
        | none => rfl
        | some y => cases hv
      · intro v hv; cases hi with
        | none => cases hv
        | some y => cases hv; exact ⟨_, rfl, he y⟩
      · intro hv; cases hi with
        | none => rfl
        | some y => cases hv
  case fieldAddr t x i => exact pure1 ho fun v' hv => fieldAddrI_run (he x) hv
  case field t x i => exact pure1 ho fun v' hv => fieldI_run (he x) hv
  case indexAddr t x i => exact pure1 ho fun v' hv => indexAddrI_run hr (he x) (he i) hv
  case extract x i => exact pure1 ho fun v' hv => extractI_run (he x) hv
  case call c =>
    obtain ⟨callee, args, argTypes⟩ := c
    simp only at ho
    split at ho
    · rename_i x t ha ht
      rw [toList_eq ha, toList_eq ht]
      exact pure1 ho fun v' hv => by
        obtain ⟨z, h1, h2⟩ := lenI_run (w := w) (ty := type) (he x) hv
        exact ⟨z, by simpa [resolve, invoke, builtin] using h1, h2⟩
    · rename_i s x t t2 ha ht
      rw [toList_eq ha, toList_eq ht]
      obtain ⟨u, W, ρ', h1, h2, h3⟩ := appendI_run hr (ty := type) (he s) (he x) ho
      exact ⟨_, u, W, ρ', by simp [resolve, invoke, builtin, h1], .inl rfl, h2, h3⟩
    · rename_i d x t t2 ha ht
      rw [toList_eq ha, toList_eq ht]
      obtain ⟨u, W, h1, h2, h3⟩ := copyI_run hr (t2 := t2) (ty := type) (he d) (he x) ho
      exact ⟨_, u, W, ρ, by simp [resolve, invoke, builtin, h1], .inl rfl, h2, h3⟩
    · rename_i x xs ha
      rw [toList_eq ha]
      exact pure1 ho fun v' hv => by
        obtain ⟨z, h1, h2⟩ := mmI_run (P := P) (w := w) true _ _ _ v' _ (VRs.map he xs) (he x) hv
        exact ⟨z, by simpa [resolve, invoke, builtin, Builtin.max_] using h1, h2⟩
    · rename_i x xs ha
      rw [toList_eq ha]
      exact pure1 ho fun v' hv => by
        obtain ⟨z, h1, h2⟩ := mmI_run (P := P) (w := w) false _ _ _ v' _ (VRs.map he xs) (he x) hv
        exact ⟨z, by simpa [resolve, invoke, builtin, Builtin.min_] using h1, h2⟩
    · cases ho
end Go.Ideal
