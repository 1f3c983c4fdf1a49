/- Building, allocating, addressing, slicing on the ideal memory. -/
import Derived.Test.YtjfpggiglgkfeaaDI2
import Derived.Laws.MakeOwn
import Derived.Great.BuildSlice
set_option linter.unusedVariables false
set_option linter.unusedSimpArgs false
namespace Go.Ideal

theorem foldl_sets : ∀ (vs : List Value) (k off : Nat) (cells : Array Value), off + k + vs.length ≤ cells.size →
    ((vs.zipIdx k).foldl (fun cs (p : Value × Nat) => cs.setIfInBounds (off + p.2) p.1) cells).toList = cells.toList.take (off + k) ++ vs ++ cells.toList.drop (off + k + vs.length)
  | [], k, off, cells, _ => by simp
  | v :: vs, k, off, cells, h => by
    simp only [List.zipIdx_cons, List.foldl_cons]
    rw [show off + k + (v :: vs).length = off + k + (vs.length + 1) by simp] at h ⊢
    rw [foldl_sets vs (k + 1) off _ (by simp; omega), Array.toList_setIfInBounds]
    have := list_seg_step cells.toList (off + k) v vs (by simpa using h)
    simpa [Nat.add_assoc] using this

def fillI (pl : Nat → Option (Nat × Nat)) (cs : List IV) : List (Nat × IV) → Option (List IV)
  | [] => some cs
  | (i, v) :: rest =>
    match pl i, cellsI v with
    | some (off, size), some c => if c.length = size ∧ off + size ≤ cs.length then fillI pl (splice off c cs) rest else none
    | _, _ => none

theorem splice_vrs {F : Frz} {ρ : Lay} {cs new : List IV} {us nu : List Value} {o : Nat} (h : VRs F ρ cs us) (h' : VRs F ρ new nu) : VRs F ρ (splice o new cs) (us.take o ++ nu ++ us.drop (o + nu.length)) := by
  unfold splice
  rw [h'.length]
  exact ((h.take o).append h').append (h.drop _)

theorem fillI_run {F : Frz} {ρ : Lay} (pl : Nat → Option (Nat × Nat)) (ev : Operand → IV) (re : Operand → Value) (he : ∀ x, VR F ρ (ev x) (re x)) : ∀ (parts : List (Nat × Operand)) (cs cs' : List IV) (cells : Array Value),
    VRs F ρ cs cells.toList → fillI pl cs (parts.map fun p => (p.1, ev p.2)) = some cs' → ∃ cells', Instr.fill pl cells (parts.map fun p => (p.1, re p.2)) = some cells' ∧ VRs F ρ cs' cells'.toList
  | [], cs, cs', cells, h, hf => by
    simp [fillI] at hf; subst hf
    exact ⟨cells, by simp [Instr.fill], h⟩
  | (i, x) :: parts, cs, cs', cells, h, hf => by
    simp only [List.map_cons, fillI] at hf
    split at hf
    · rename_i off size c hp hc
      split at hf
      · rename_i hcond
        have hv := cellsI_at hc (he x)
        have hvl := hv.length
        have hcl := h.length
        simp only [Array.length_toList] at hvl hcl
        have hfold := foldl_sets (re x).cells.toList 0 off cells (by simp; omega)
        simp only [Nat.add_zero] at hfold
        obtain ⟨cells', h1, h2⟩ := fillI_run pl ev re he parts (splice off c cs) cs' ((re x).cells.zipIdx.foldl (fun cs (p : Value × Nat) => cs.setIfInBounds (off + p.2) p.1) cells) (by
          rw [← Array.foldl_toList, Array.toList_zipIdx, hfold]
          exact splice_vrs h hv) hf
        refine ⟨cells', ?_, h2⟩
        simp only [List.map_cons, Instr.fill, hp]
        rw [if_neg (by simp; omega)]
        exact h1
      · cases hf
    · cases hf

/-! ### build -/
def buildI (P : Program) (ev : Operand → IV) (t : TypeId) (parts : Array (Nat × Operand)) : Option IV :=
  match zrO P t, flO P t with
  | some z, some fl => (fillI (fl[·]?) z (parts.toList.map fun p => (p.1, ev p.2))).map IV.agg
  | _, _ => none
theorem buildI_run {P : Program} {F : Frz} {ρ : Lay} {w : World} (ev : Operand → IV) (re : Operand → Value) (he : ∀ x, VR F ρ (ev x) (re x)) {t : TypeId} {parts : Array (Nat × Operand)} {v : IV} (h : buildI P ev t parts = some v) :
    ∃ u, (Instr.build t (parts.map fun (i, x) => (i, re x))).run P w = .ok u w ∧ VR F ρ v u := by
  unfold buildI at h
  split at h
  · rename_i z fl hz hf
    simp only [Option.map_eq_some_iff] at h
    obtain ⟨cs', hfill, rfl⟩ := h
    unfold zrO at hz
    cases hi : P.info? t with
    | none => rw [hi] at hz; cases hz
    | some it =>
      rw [hi] at hz
      cases hzero : it.zero with
      | none => simp [hzero] at hz
      | some zv =>
        simp [hzero] at hz
        unfold flO at hf
        split at hf
        · rename_i fs hu
          obtain ⟨cells', h1, h2⟩ := fillI_run (F := F) (ρ := ρ) (fl[·]?) ev re he parts.toList z cs' zv.cells (by rw [← hz]; exact VRs.toIV F ρ _) hfill
          refine ⟨.agg cells', ?_, cells', rfl, h2⟩
          apply run_build
          have hpl : fs.toList.mapM (fun f => (P.info? f.type).map fun i => (f.offset, i.size)) = some fl := by
            rw [← hf]
            congr 1
            funext f
            unfold szO
            cases P.info? f.type <;> rfl
          simp only [Program.built, hi, hu, hzero, hpl]
          rw [← h1, Array.toList_map]
          congr 1
          funext i
          simp
        · cases hf
  · cases h

/-! ### alloc, box -/
theorem run_newVar {P : Program} (w : World) (t : TypeId) (v : Value) : (newVar t v).run P w = .ok ⟨w.heap.size, 0, none⟩ (w.alloc (.cells v.cells t)) := by
  simp [newVar, newRow]
def allocI (P : Program) (t : TypeId) (h : Heap) : Option (IV × Heap) :=
  (zrO P t).map fun z => (.ptr h.length 0 0, h ++ [some ⟨z.length, t, [z]⟩])
theorem push_one {F : Frz} {ρ : Lay} {h : Heap} {w : World} (hr : Rel F ρ h w) (t : TypeId) {cs : List IV} {us : Array Value} (hv : VRs F ρ cs us.toList) :
    ∃ ρ', Step F ρ h w F ρ' (h ++ [some ⟨cs.length, t, [cs]⟩]) (w.alloc (.cells us t)) ∧ VR F ρ' (.ptr h.length 0 0) (.pointer (some ⟨w.heap.size, 0, none⟩)) := by
  have hlen := hv.length
  simp only [Array.length_toList] at hlen
  have s := Step.push (W := w.alloc (.cells us t)) hr us ⟨cs.length, t, [cs]⟩ (heap_alloc_new w _) (fun i hi => heap_alloc_old w _ i hi) (by show _ ≤ (w.heap.push _).size; simp) rfl rfl rfl (by simp; omega) (by
    refine ⟨rfl, CellsAt.mk hv fun j u hj => ?_, by simp [RowsAt]⟩
    simpa using hj)
  exact ⟨_, s, _, Lay.upd_same _ _ _, by simp⟩
theorem allocI_run {P : Program} {F : Frz} {ρ : Lay} {h h' : Heap} {w : World} (hr : Rel F ρ h w) {t : TypeId} {v : IV} (ha : allocI P t h = some (v, h')) :
    ∃ u W ρ', (Instr.alloc t true (.tuple #[])).run P w = .ok u W ∧ Step F ρ h w F ρ' h' W ∧ VR F ρ' v u := by
  unfold allocI zrO at ha
  cases hi : P.info? t with
  | none => simp [hi] at ha
  | some it =>
    cases hz : it.zero with
    | none => simp [hi, hz] at ha
    | some z =>
      simp [hi, hz] at ha
      obtain ⟨rfl, rfl⟩ := ha
      obtain ⟨ρ', s, hv⟩ := push_one hr t (VRs.toIV F ρ z.cells.toList)
      refine ⟨_, _, ρ', ?_, by simpa using s, hv⟩
      simp [Instr.alloc, zeroValue, typeInfo, hi, hz, run_newVar]
def boxI (t : TypeId) (x : IV) (h : Heap) : Option (IV × Heap) :=
  (cellsI x).map fun cs => (.ptr h.length 0 0, h ++ [some ⟨cs.length, t, [cs]⟩])
theorem boxI_run {P : Program} {F : Frz} {ρ : Lay} {h h' : Heap} {w : World} (hr : Rel F ρ h w) {t : TypeId} {x v : IV} {y : Value} (hx : VR F ρ x y) (ha : boxI t x h = some (v, h')) :
    ∃ u W ρ', (Instr.box t y).run P w = .ok u W ∧ Step F ρ h w F ρ' h' W ∧ VR F ρ' v u := by
  unfold boxI at ha
  simp only [Option.map_eq_some_iff, Prod.mk.injEq] at ha
  obtain ⟨cs, hc, rfl, rfl⟩ := ha
  obtain ⟨ρ', s, hv⟩ := push_one hr t (cellsI_at hc hx)
  exact ⟨_, _, ρ', by simp [Instr.box, run_newVar], s, hv⟩

/-! ### buildSlice, makeSlice -/
theorem flat_replicate (z : List IV) : ∀ n, (List.replicate n z).flatten.length = n * z.length
  | 0 => by simp
  | n + 1 => by rw [List.replicate_succ, List.flatten_cons, List.length_append, flat_replicate z n, Nat.add_mul]; omega
theorem vrs_made {F : Frz} {ρ : Lay} (z : List IV) (zu : Array Value) (hz : VRs F ρ z zu.toList) (n : Nat) : VRs F ρ (List.replicate n z).flatten ((Array.range (n * z.length)).map (zu[· % zu.size]!)).toList := by
  have hl : z.length = zu.size := by simpa using hz.length
  rw [VRs.iff]
  refine ⟨by rw [flat_replicate]; simp, fun j v u hv hu => ?_⟩
  have hj : j < n * z.length := by have := (List.getElem?_eq_some_iff.1 hv).1; rwa [flat_replicate] at this
  have hpos : 0 < z.length := by
    rcases Nat.eq_zero_or_pos z.length with h0 | h0
    · rw [h0] at hj; simp at hj
    · exact h0
  have key : ∀ (m i : Nat), i < m * z.length → (List.replicate m z).flatten[i]? = z[i % z.length]? := by
    intro m
    induction m with
    | zero => intro i hi; simp at hi
    | succ m ih =>
      intro i hi
      rw [List.replicate_succ, List.flatten_cons]
      by_cases h1 : i < z.length
      · rw [List.getElem?_append_left h1, Nat.mod_eq_of_lt h1]
      · rw [List.getElem?_append_right (by omega), ih (i - z.length) (by rw [Nat.add_mul] at hi; omega), Nat.mod_eq_sub_mod (a := i) (b := z.length) (by omega)]
  rw [key n j hj] at hv
  have hlt : j % zu.size < zu.size := Nat.mod_lt _ (by omega)
  simp [hj] at hu
  subst hu
  obtain ⟨u, hu, hvr⟩ := hz.get hv
  rw [hl] at hu
  simp [hlt] at hu
  subst hu
  rw [getElem!_pos zu _ hlt]
  exact hvr

/-- The elements of a flat list of cells. -/
def chunks (s : Nat) : Nat → List IV → List (List IV)
  | 0, _ => []
  | n + 1, cs => cs.take s :: chunks s n (cs.drop s)
theorem chunks_len (s : Nat) : ∀ n cs, (chunks s n cs).length = n
  | 0, _ => rfl
  | n + 1, cs => by simp [chunks, chunks_len s n]
theorem chunks_rows {F : Frz} {ρ : Lay} {s : Nat} {g : Nat → Option Value} : ∀ (n : Nat) (cs : List IV) (off : Nat), cs.length = n * s → CellsAt F ρ cs g off → RowsAt F ρ s (chunks s n cs) g off
  | 0, cs, off, _, _ => by simp [chunks, RowsAt]
  | n + 1, cs, off, hl, h => by
    rw [Nat.add_mul] at hl
    refine ⟨by simp; omega, CellsAt.take s h, chunks_rows n _ _ (by simp; omega) (CellsAt.drop s h)⟩
theorem chunks_flatten (s : Nat) : ∀ es : List (List IV), (∀ e ∈ es, e.length = s) → chunks s es.length es.flatten = es
  | [], _ => rfl
  | e :: es, h => by
    have he := h e (by simp)
    simp only [List.length_cons, chunks, List.flatten_cons]
    rw [List.take_left' he, List.drop_left' he, chunks_flatten s es fun e' h' => h e' (by simp [h'])]

theorem push_slice {F : Frz} {ρ : Lay} {h : Heap} {w : World} (hr : Rel F ρ h w) (t : TypeId) {s n c : Nat} {es : List (List IV)} {us : Array Value} (hn : es.length = n) (hc : n ≤ c) (hsz : us.size = c * s) (hv : RowsAt F ρ s es (us[·]?) 0) {W : World}
    (hW : W.heap = w.heap.push (.cells us t)) (hos : W.os = w.os) (htape : W.tape = w.tape) (hout : W.output = w.output) :
    ∃ ρ', Step F ρ h w F ρ' (h ++ [some ⟨s, t, es⟩]) W ∧ VR F ρ' (.sl h.length 0 n) (.slice (some ⟨w.heap.size, 0, none⟩) n c) := by
  have hnew : W.heap[w.heap.size]? = some (.cells us t (0, 0)) := by rw [hW]; simp
  have hold : ∀ i, i < w.heap.size → W.heap[i]? = w.heap[i]? := fun i hi => by rw [hW, Array.getElem?_push, if_neg (Nat.ne_of_lt hi)]
  have s := Step.push (W := W) hr us ⟨s, t, es⟩ hnew hold (by rw [hW]; simp) hos htape hout (by simp only; rw [hn, hsz]; exact Nat.mul_le_mul_right _ hc) hv
  refine ⟨_, s, _, _, _, Lay.upd_same _ _ _, rfl, hc, .inr ⟨by simp, by simp; omega⟩⟩

def buildSliceI (P : Program) (ev : Operand → IV) (t : TypeId) (n : Nat) (parts : Array (Nat × Operand)) (h : Heap) : Option (IV × Heap) :=
  match elO P t with
  | some e => match zrO P e, szO P e with
    | some z, some s => if n * s ≤ 16777216 ∧ 0 < s ∧ z.length = s then
        (fillI (fun i => some (i * s, s)) (List.replicate n z).flatten (parts.toList.map fun p => (p.1, ev p.2))).map fun cs => (.sl h.length 0 n, h ++ [some ⟨s, e, chunks s n cs⟩]) else none
    | _, _ => none
  | none => none
theorem fillI_len (pl : Nat → Option (Nat × Nat)) : ∀ (ps : List (Nat × IV)) (cs cs' : List IV), fillI pl cs ps = some cs' → cs'.length = cs.length
  | [], cs, cs', h => by simp [fillI] at h; rw [h]
  | (i, v) :: ps, cs, cs', h => by
    simp only [fillI] at h
    split at h
    · split at h
      · rename_i hc
        rw [fillI_len pl ps _ _ h]; simp [splice]; omega
      · cases h
    · cases h
theorem buildSliceI_run {P : Program} {F : Frz} {ρ : Lay} {h h' : Heap} {w : World} (hr : Rel F ρ h w) (ev : Operand → IV) (re : Operand → Value) (he : ∀ x, VR F ρ (ev x) (re x)) {t : TypeId} {n : Nat} {parts : Array (Nat × Operand)} {v : IV}
    (hb : buildSliceI P ev t n parts h = some (v, h')) : ∃ u W ρ', (Instr.buildSlice t n (parts.map fun (i, x) => (i, re x))).run P w = .ok u W ∧ Step F ρ h w F ρ' h' W ∧ VR F ρ' v u := by
  unfold buildSliceI at hb
  split at hb
  · rename_i e hel
    split at hb
    · rename_i z s hz hs
      split at hb
      · rename_i hcond
        obtain ⟨hsmall, hpos, hzl⟩ := hcond
        simp only [Option.map_eq_some_iff, Prod.mk.injEq] at hb
        obtain ⟨cs, hfill, rfl, rfl⟩ := hb
        have hu : P.underlying t = some (.slice e) := by
          unfold elO at hel; split at hel
          · rename_i e' hu; cases hel; exact hu
          · cases hel
        unfold zrO at hz
        unfold szO at hs
        cases hi : P.info? e with
        | none => simp [hi] at hz
        | some ie =>
          cases hzero : ie.zero with
          | none => simp [hi, hzero] at hz
          | some zv =>
            simp [hi, hzero] at hz hs
            have hzr : VRs F ρ z zv.cells.toList := by rw [← hz]; exact VRs.toIV F ρ _
            obtain ⟨cells', h1, h2⟩ := fillI_run (F := F) (ρ := ρ) (fun i => some (i * s, s)) ev re he parts.toList _ cs ((Array.range (n * s)).map (zv.cells[· % zv.cells.size]!)) (by rw [← hzl]; exact vrs_made z zv.cells hzr n) hfill
            have hcl : cs.length = n * s := by rw [fillI_len _ _ _ _ hfill, flat_replicate, hzl]
            have hsz : cells'.size = n * s := by have := h2.length; simp at this; omega
            obtain ⟨ρ', st, hv⟩ := push_slice hr e (chunks_len s n cs) (Nat.le_refl n) hsz (chunks_rows n cs 0 hcl (CellsAt.mk h2 fun j u hj => by simpa using hj)) (W := w.alloc (.cells cells' e)) rfl rfl rfl rfl
            refine ⟨_, _, ρ', ?_, st, hv⟩
            by_cases h0 : n * s = 0
            · have hn0 : n = 0 := by
                rcases Nat.mul_eq_zero.1 h0 with h0 | h0
                · exact h0
                · omega
              subst hn0
              rw [← hs] at h1
              simp only [Nat.zero_mul] at h1
              have h1' : Instr.fill (fun i => some (i * ie.size, ie.size)) #[] (List.map (fun p => (p.fst, re p.snd)) parts.toList) = some cells' := by simpa [Array.range_zero'] using h1
              have h1d : ∀ f : Nat → Value, Array.map f (Array.range 0) = #[] := fun f => by simp [Array.range_zero']
              simp [Instr.buildSlice, run_underlying hu, sizeOf, typeInfo, hi, newRow, h1', h1d]
            · refine run_buildSlice w t e n _ cells' ie zv hu hi hzero (by rw [hs]; omega) (by rw [hs]; exact h0) ?_
              rw [hs, ← h1, Array.toList_map]
      · cases hb
    · cases hb
  · cases hb

def makeSliceI (P : Program) (t : TypeId) (l c : IV) (h : Heap) : Option (IV × Heap) :=
  match l, c, elO P t with
  | .int _ n, .int _ m, some e => match zrO P e, szO P e, byO P e with
    | some z, some s, some by_ => if 0 ≤ n ∧ n ≤ m ∧ m ≤ 1073741824 ∧ by_ ≤ 65536 ∧ 0 < s ∧ z.length = s then some (.sl h.length 0 n.toNat, h ++ [some ⟨s, e, List.replicate n.toNat z⟩]) else none
    | _, _, _ => none
  | _, _, _ => none
theorem makeSliceI_run {P : Program} {F : Frz} {ρ : Lay} {h h' : Heap} {w : World} (hr : Rel F ρ h w) {t : TypeId} {l c v : IV} {lu cu : Value} (hl : VR F ρ l lu) (hc : VR F ρ c cu) (hm : makeSliceI P t l c h = some (v, h')) :
    ∃ u W ρ', (Instr.makeSlice t lu cu).run P w = .ok u W ∧ Step F ρ h w F ρ' h' W ∧ VR F ρ' v u := by
  unfold makeSliceI at hm
  split at hm
  · rename_i k1 n k2 m e hel
    split at hm
    · rename_i z s by_ hz hs hby
      split at hm
      · rename_i hcond
        obtain ⟨h0, hnm, hmm, hbb, hpos, hzl⟩ := hcond
        simp only [Option.some.injEq, Prod.mk.injEq] at hm
        obtain ⟨rfl, rfl⟩ := hm
        simp only [VR] at hl hc
        subst hl; subst hc
        have hu : P.underlying t = some (.slice e) := by
          unfold elO at hel; split at hel
          · rename_i e' hu; cases hel; exact hu
          · cases hel
        unfold zrO at hz
        unfold szO at hs
        unfold byO at hby
        cases hi : P.info? e with
        | none => simp [hi] at hz
        | some ie =>
          cases hzero : ie.zero with
          | none => simp [hi, hzero] at hz
          | some zv =>
            simp [hi, hzero] at hz hs hby
            have hzr : VRs F ρ z zv.cells.toList := by rw [← hz]; exact VRs.toIV F ρ _
            have hzs : zv.cells.size = s := by have := hzr.length; simp at this; omega
            have hbytes : (ie.bytes : Int) * m ≤ 281474976710656 := by
              rw [hby]
              have : (by_ : Int) * m ≤ 65536 * 1073741824 := Int.mul_le_mul (by omega) hmm (by omega) (by omega)
              omega
            have hrun := run_make (P := P) w t e ie zv hu hi hzero k1 k2 n m h0 hnm hbytes (by omega)
            have hmade := vrs_made z zv.cells hzr m.toNat
            have hsz : (madeCells zv.cells (m.toNat * ie.size)).size = m.toNat * s := by rw [size_madeCells, hs]
            have hcells : CellsAt F ρ (List.replicate m.toNat z).flatten ((madeCells zv.cells (m.toNat * ie.size))[·]?) 0 := CellsAt.mk hmade fun j u hj => by
              rw [hzl] at hj
              unfold madeCells
              rw [hs]
              rw [Array.getElem?_toList] at hj
              simpa using hj
            have hrows := RowsAt.of_flat (s := s) (fun e he => by rw [List.eq_of_mem_replicate he]; exact hzl) hcells
            have hrows' : RowsAt F ρ s (List.replicate n.toNat z) ((madeCells zv.cells (m.toNat * ie.size))[·]?) 0 := by
              have := RowsAt.take n.toNat hrows
              rwa [List.take_replicate, Nat.min_eq_left (by omega)] at this
            obtain ⟨ρ', st, hv⟩ := push_slice hr e (n := n.toNat) (c := m.toNat) (by simp) (by omega) hsz hrows' (W := w.alloc (.cells (madeCells zv.cells (m.toNat * ie.size)) e)) rfl rfl rfl rfl
            exact ⟨_, _, ρ', hrun, st, hv⟩
      · cases hm
    · cases hm
  · cases hm

end Go.Ideal
