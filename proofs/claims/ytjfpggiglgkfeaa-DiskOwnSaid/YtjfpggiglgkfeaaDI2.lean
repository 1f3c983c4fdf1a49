/- What each operation does on the ideal memory, and that the model does the same. -/
import Derived.Test.YtjfpggiglgkfeaaDI1
set_option linter.unusedVariables false
set_option linter.unusedSimpArgs false
namespace Go.Ideal

def toIV : Value → IV
  | .bool b => .bool b
  | .int k n => .int k n
  | .string s => .str s
  | .pointer none => .nil
  | .slice none 0 0 => .snil
  | .func (.func f) ⟨[]⟩ ⟨[]⟩ => .fn f []
  | _ => .any

theorem VR.toIV (F : Frz) (ρ : Lay) (v : Value) : VR F ρ (toIV v) v := by
  unfold Ideal.toIV
  split <;> simp [VR, VRs]

theorem VRs.toIV (F : Frz) (ρ : Lay) : ∀ vs : List Value, VRs F ρ (vs.map Ideal.toIV) vs
  | [] => by simp [VRs]
  | v :: vs => ⟨v, vs, rfl, VR.toIV F ρ v, VRs.toIV F ρ vs⟩

/-! ### what the operations ask of the types -/
def szO (P : Program) (t : TypeId) : Option Nat := (P.info? t).map (·.size)
def byO (P : Program) (t : TypeId) : Option Nat := (P.info? t).map (·.bytes)
def zrO (P : Program) (t : TypeId) : Option (List IV) := ((P.info? t).bind (·.zero)).map fun z => z.cells.toList.map toIV
def agO (P : Program) (t : TypeId) : Option Bool := (P.underlying t).map fun | .struct _ => true | .array _ _ => true | _ => false
def elO (P : Program) (t : TypeId) : Option TypeId := match P.underlying t with | some (.slice e) => some e | _ => none
/-- The fields of a struct: their places and sizes. -/
def flO (P : Program) (t : TypeId) : Option (List (Nat × Nat)) := match P.underlying t with | some (.struct fs) => fs.toList.mapM fun f => (szO P f.type).map fun s => (f.offset, s) | _ => none
/-- A field: its place, its size, whether it is a struct or an array. -/
def fdO (P : Program) (t : TypeId) (i : Nat) : Option (Nat × Nat × Bool) :=
  match P.underlying t with
  | some (.struct fs) => match fs[i]? with
    | some f => match szO P f.type, agO P f.type with
      | some s, some a => some (f.offset, s, a)
      | _, _ => none
    | none => none
  | _ => none

theorem run_sizeOf {P : Program} {t : TypeId} {n : Nat} (h : szO P t = some n) (w : World) : (sizeOf t).run P w = .ok n w := by
  unfold szO at h
  cases e : P.info? t with
  | none => rw [e] at h; cases h
  | some i => rw [e] at h; simp at h; simp [sizeOf, typeInfo, e, h]
theorem run_isAgg {P : Program} {t : TypeId} {b : Bool} (h : agO P t = some b) (w : World) : (isAgg t).run P w = .ok b w := by
  unfold agO at h
  cases e : P.underlying t with
  | none => rw [e] at h; cases h
  | some d =>
    rw [e] at h
    simp only [Option.map_some, Option.some.injEq] at h
    unfold isAgg
    rw [Sem.run_bind, run_underlying e]
    subst h
    cases d <;> rfl

/-- The cells from where a pointer points to, to the end of the element. -/
def cellsOf (h : Heap) : IV → Option (List IV)
  | .fptr cs => some cs
  | .ptr b i o => match h[b]? with
    | some (some k) => (k.es[i]?).map (·.drop o)
    | _ => none
  | _ => none

theorem cellsOf_at {F : Frz} {ρ : Lay} {h : Heap} {w : World} (hr : Rel F ρ h w) {p : IV} {u : Value} {cs : List IV} (hp : VR F ρ p u) (hc : cellsOf h p = some cs) :
    ∃ R off, u = .pointer (some ⟨R, off, none⟩) ∧ CellsAt F ρ cs (fun j => w.cell? ⟨R, j, none⟩) off := by
  cases p <;> simp only [cellsOf] at hc <;> try cases hc
  case ptr b i o =>
    simp only [VR] at hp
    obtain ⟨l, hl, rfl⟩ := hp
    cases hb : h[b]? with
    | none => rw [hb] at hc; simp at hc
    | some x =>
      cases x with
      | none => rw [hb] at hc; simp at hc
      | some k =>
        rw [hb] at hc
        simp only [Option.map_eq_some_iff] at hc
        obtain ⟨e, he, rfl⟩ := hc
        obtain ⟨l', hl', _, cs', h1, h2, h3, h4, h5⟩ := hr.liv b k hb
        rw [hl] at hl'; cases hl'
        refine ⟨_, _, rfl, ?_⟩
        have := CellsAt.drop o (RowsAt.get h5 he).2
        rw [← h3] at this
        exact CellsAt.sub this fun j u' _ _ hj => by simpa [World.cell?, h1] using hj
  case fptr =>
    simp only [VR] at hp
    obtain ⟨R, off, rfl, hcells⟩ := hp
    refine ⟨R, off, rfl, CellsAt.sub hcells fun j u' _ _ hj => ?_⟩
    unfold fcell at hj
    cases e : F R with
    | none => rw [e] at hj; cases hj
    | some o =>
      rw [e] at hj
      have := hr.frz R o e
      cases o <;> simp at hj
      simpa [World.cell?, this] using hj

def loadI (P : Program) (t : TypeId) (p : IV) (h : Heap) : Option IV :=
  match cellsOf h p, agO P t, szO P t with
  | some cs, some true, some n => if n ≤ cs.length then some (.agg (cs.take n)) else none
  | some cs, some false, some _ => cs.head?
  | _, _, _ => none

theorem loadI_run {P : Program} {F : Frz} {ρ : Lay} {h : Heap} {w : World} (hr : Rel F ρ h w) {t : TypeId} {p v : IV} {u : Value} (hp : VR F ρ p u) (hl : loadI P t p h = some v) :
    ∃ x, (Instr.loadAt t u).run P w = .ok x w ∧ VR F ρ v x := by
  unfold loadI at hl
  split at hl
  · rename_i cs n hc ha hs
    split at hl
    · rename_i hn
      cases hl
      obtain ⟨R, off, rfl, hcells⟩ := cellsOf_at hr hp hc
      obtain ⟨us, hus, hget⟩ := CellsAt.get (CellsAt.take n hcells)
      have hlen : us.length = n := by rw [← hus.length, List.length_take]; omega
      have hload := run_loadCells_list (P := P) w ⟨R, off, none⟩ us fun j x hj => by rw [Addr.add_lit]; exact hget j x hj
      rw [hlen] at hload
      refine ⟨.agg us.toArray, ?_, us.toArray, rfl, by simpa using hus⟩
      simp [Instr.loadAt, Instr.sureAddr, loadVar, run_isAgg ha, run_sizeOf hs, hload]
    · cases hl
  · rename_i cs n hc ha hs
    obtain ⟨R, off, rfl, hcells⟩ := cellsOf_at hr hp hc
    cases cs with
    | nil => cases hl
    | cons c cs =>
      cases hl
      obtain ⟨⟨x, hx, hv⟩, _⟩ := hcells
      refine ⟨x, ?_, hv⟩
      simp only at hx
      simp [Instr.loadAt, Instr.sureAddr, loadVar, run_isAgg ha, hx]
  · cases hl

/-- The cells of a value that is stored. -/
def cellsI : IV → Option (List IV)
  | .any => none
  | .tup _ => none
  | .agg cs => some cs
  | v => some [v]
/-- What fits into one cell. -/
def oneI : IV → Bool
  | .any => false
  | .tup _ => false
  | .agg _ => false
  | _ => true
theorem oneI_one {F : Frz} {ρ : Lay} {v : IV} {u : Value} (h : oneI v = true) (hv : VR F ρ v u) : u.oneCell' = true := by
  cases v <;> simp [oneI] at h <;> simp only [VR] at hv
  case bool => subst hv; rfl
  case int => subst hv; rfl
  case str => subst hv; rfl
  case nil => subst hv; rfl
  case ptr => obtain ⟨_, _, rfl⟩ := hv; rfl
  case fptr => obtain ⟨_, _, rfl, _⟩ := hv; rfl
  case snil => subst hv; rfl
  case sl => obtain ⟨_, _, _, _, rfl, _⟩ := hv; rfl
  case vs => obtain ⟨_, _, rfl, _⟩ := hv; rfl
  case fn => obtain ⟨_, rfl, _⟩ := hv; rfl
theorem oneI_all {F : Frz} {ρ : Lay} {vs : List IV} {us : List Value} (h : vs.all oneI = true) (hv : VRs F ρ vs us) : ∀ u ∈ us, u.oneCell' = true := by
  intro u hu
  obtain ⟨j, hj⟩ := List.getElem?_of_mem hu
  obtain ⟨v, hv1, hv2⟩ := hv.getI hj
  exact oneI_one (List.all_eq_true.1 h v (List.mem_of_getElem? hv1)) hv2
theorem cellsI_at {F : Frz} {ρ : Lay} {v : IV} {u : Value} {cs : List IV} (hc : cellsI v = some cs) (hv : VR F ρ v u) : VRs F ρ cs u.cells.toList := by
  have one : ∀ x : Value, x.oneCell' = true → x.cells = #[x] := fun x hx => by cases x <;> first | rfl | simp [Value.oneCell'] at hx
  cases v
  case any => simp [cellsI] at hc
  case tup => simp [cellsI] at hc
  case agg es =>
    simp [cellsI] at hc; subst hc
    simp only [VR] at hv
    obtain ⟨us, rfl, h⟩ := hv
    exact h
  all_goals
    simp only [cellsI, Option.some.injEq] at hc
    subst hc
    rw [one u (oneI_one (by rfl) hv)]
    exact ⟨u, [], rfl, hv, by simp [VRs]⟩

def splice (o : Nat) (new cs : List IV) : List IV := cs.take o ++ new ++ cs.drop (o + new.length)

def storeI (P : Program) (t : TypeId) (p x : IV) (h : Heap) : Option Heap :=
  match p, cellsI x, szO P t with
  | .ptr b i o, some new, some n => match h[b]? with
    | some (some k) => match k.es[i]? with
      | some e => if new.length = n ∧ o + n ≤ e.length ∧ new.all oneI = true then some (h.set b (some { k with es := k.es.set i (splice o new e) })) else none
      | none => none
    | _ => none
  | _, _, _ => none

theorem rows_set {F : Frz} {ρ : Lay} {s : Nat} {g g' : Nat → Option Value} : ∀ {es : List (List IV)} {off i : Nat} {e' : List IV}, RowsAt F ρ s es g off → i < es.length → e'.length = s → CellsAt F ρ e' g' (off + i * s) →
    (∀ j u, (j < off + i * s ∨ off + i * s + s ≤ j) → g j = some u → g' j = some u) → RowsAt F ρ s (es.set i e') g' off
  | [], _, _, _, _, h, _, _, _ => by simp at h
  | e :: es, off, 0, e', h, _, he, hc, hg => by
    simp only [RowsAt, List.set_cons_zero] at *
    exact ⟨he, by simpa using hc, RowsAt.shift h.2.2 fun j u _ k => hg _ u (.inr (by simp)) k⟩
  | e :: es, off, i + 1, e', h, hi, he, hc, hg => by
    simp only [RowsAt, List.set_cons_succ] at *
    have e1 : off + (i + 1) * s = off + s + i * s := by rw [Nat.add_mul]; omega
    rw [e1] at hc hg
    refine ⟨h.1, CellsAt.sub h.2.1 fun j u _ h2 k => hg j u (.inl (by have := h.1; omega)) k, rows_set h.2.2 (by simpa using hi) he hc hg⟩

theorem storeI_run {P : Program} {F : Frz} {ρ : Lay} {h h' : Heap} {w : World} (hr : Rel F ρ h w) {t : TypeId} {p x : IV} {u y : Value} (hp : VR F ρ p u) (hx : VR F ρ x y) (hs : storeI P t p x h = some h') :
    ∃ W, (Instr.storeAt t u y).run P w = .ok () W ∧ Step F ρ h w F ρ h' W := by
  unfold storeI at hs
  split at hs
  · rename_i b i o new n hc hsz
    split at hs
    · rename_i k hb
      split at hs
      · rename_i e he
        split at hs
        · rename_i hcond
          obtain ⟨hn, hfit, hone⟩ := hcond
          cases hs
          simp only [VR] at hp
          obtain ⟨l, hl, rfl⟩ := hp
          obtain ⟨l', hl', hF, cs, g1, g2, g3, g4, g5⟩ := hr.liv b k hb
          rw [hl] at hl'; cases hl'
          have hrow := RowsAt.get g5 he
          have hi : i < k.es.length := (List.getElem?_eq_some_iff.1 he).1
          have hvs := cellsI_at hc hx
          have hvl := hvs.length
          have hfit2 : l.base + i * k.size + k.size ≤ cs.size := by
            have : (i + 1) * k.size ≤ k.es.length * k.size := Nat.mul_le_mul_right _ hi
            rw [Nat.add_mul] at this
            omega
          have hrow1 := hrow.1
          have hst := run_storeCells_at P l.R (l.base + i * l.size + o) k.ty y.cells.toList 0 cs w g1 (by rw [g3]; omega) (oneI_all hone hvs)
          simp only [Nat.add_zero, Nat.zero_add] at hst
          refine ⟨_, ?_, Step.write hr hb hl (cs.toList.take (l.base + i * l.size + o) ++ y.cells.toList ++ cs.toList.drop (l.base + i * l.size + o + y.cells.toList.length)).toArray _ (setRow_heap w l.R cs _ k.ty _ g1) (fun j hj => setRow_other w l.R j _ hj) (by simp [World.setRow]) rfl rfl rfl ?_ ?_ ?_⟩
          · have hcs : y.cells.size = n := by rw [← hn, hvl]; simp
            simp only [Instr.storeAt, Instr.sureAddr, storeVar, Sem.run_bind, Sem.run_pure, Result.andThen_ok, run_sizeOf hsz, hcs, ne_eq, not_true_eq_false, if_false]
            exact hst
          · simp only [List.size_toArray, List.length_append, List.length_take, List.length_drop, Array.length_toList]
            rw [g3, g2]
            simp only [Array.length_toList] at hvl
            omega
          · simp only [List.size_toArray, List.length_append, List.length_take, List.length_drop, Array.length_toList, List.length_set]
            rw [g3]
            simp only [Array.length_toList] at hvl
            omega
          · simp only [Array.length_toList] at hvl
            refine rows_set g5 hi ?_ ?_ ?_
            · simp [splice]; omega
            · have eL : (splice o new e) = e.take o ++ new ++ e.drop (o + new.length) := rfl
              rw [eL]
              have c1 := CellsAt.take o hrow.2
              have c3 := CellsAt.drop (o + new.length) hrow.2
              refine CellsAt.append (CellsAt.append (CellsAt.sub c1 ?_) (CellsAt.mk hvs ?_)) (CellsAt.shift c3 ?_)
              · intro j u' h1 h2 hj
                simp only [List.length_take] at h2
                simp only [List.getElem?_toArray] at *
                rw [List.append_assoc, List.getElem?_append_left (by simp; rw [g3]; omega), List.getElem?_take, if_pos (by rw [g3]; omega)]
                simpa using hj
              · intro j u' hj
                have hj' : j < y.cells.toList.length := (List.getElem?_eq_some_iff.1 hj).1
                simp only [List.length_take, List.getElem?_toArray, Array.length_toList] at *
                rw [List.append_assoc, List.getElem?_append_right (by simp; rw [g3]; omega), List.getElem?_append_left (by simp; rw [g3]; omega)]
                rw [← hj]; congr 1; simp; rw [g3]; omega
              · intro j u' hj hg'
                simp only [List.length_append, List.length_take, List.length_drop, List.getElem?_toArray, Array.length_toList] at *
                rw [List.getElem?_append_right (by simp; rw [g3]; omega), List.getElem?_drop]
                simp only [List.length_append, List.length_take, Array.length_toList, Array.getElem?_toList]
                rw [← hg']; congr 1; rw [g3]; omega
            · intro j u' hj hg'
              simp only [List.getElem?_toArray] at *
              have hjlt : j < cs.size := (Array.getElem?_eq_some_iff.1 hg').1
              by_cases hlow : j < l.base + i * l.size + o
              · rw [List.append_assoc, List.getElem?_append_left (by simp; omega), List.getElem?_take, if_pos hlow]
                simpa using hg'
              · rw [List.getElem?_append_right (by simp; rw [g3] at *; omega), List.getElem?_drop]
                simp only [List.length_append, List.length_take, Array.length_toList, Array.getElem?_toList]
                rw [← hg']; congr 1; rw [g3] at *; omega
        · cases hs
      · cases hs
    · cases hs
  · cases hs

end Go.Ideal
