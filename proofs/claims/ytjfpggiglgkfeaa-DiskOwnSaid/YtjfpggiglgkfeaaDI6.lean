/- Comparisons, conversions, copy, min and max on the ideal memory; all operations together. -/
import Derived.Test.YtjfpggiglgkfeaaDI5
import Derived.Laws.StructEq
import Derived.Laws.BytesArg
import Derived.WalkSpells
set_option linter.unusedVariables false
set_option linter.unusedSimpArgs false
namespace Go.Ideal

/-! ### structs of numbers and Bools compared -/
def eqFs (P : Program) (g : TypeId → Option (List Bool)) : List Field → Nat → Option (List Bool)
  | [], _ => some []
  | f :: fs, off =>
    if (f.name == "_") || (f.offset != off) then none else
    match g f.type, agO P f.type, szO P f.type with
    | some ks, some ag, some s => if s = ks.length ∧ (ag = false → s = 1) then (eqFs P g fs (off + s)).map (ks ++ ·) else none
    | _, _, _ => none
/-- The cells of a type that holds numbers and Bools alone: true: a Bool. -/
def eqKs (P : Program) : Nat → TypeId → Option (List Bool)
  | 0, _ => none
  | d + 1, t =>
    match P.underlying t with
    | some .bool => some [true]
    | some (.int _) => some [false]
    | some (.struct fs) => if P.stoodInHeld t then none else eqFs P (eqKs P d) fs.toList 0
    | _ => none
def eqO (P : Program) (t : TypeId) : Option (List Bool) := if P.eqGuardType P.depth t then none else eqKs P 10000 t

def cmpI : List Bool → List IV → List IV → Option Bool
  | [], _, _ => some true
  | true :: ks, .bool a :: xs, .bool b :: ys => (cmpI ks xs ys).map ((a == b) && ·)
  | false :: ks, .int k a :: xs, .int k' b :: ys => if k = k' then (cmpI ks xs ys).map ((a == b) && ·) else none
  | _, _, _ => none
theorem cmpI_append : ∀ (ks ks' : List Bool) (xs ys : List IV) (r : Bool), cmpI (ks ++ ks') xs ys = some r → ∃ r1 r2, cmpI ks (xs.take ks.length) (ys.take ks.length) = some r1 ∧ cmpI ks' (xs.drop ks.length) (ys.drop ks.length) = some r2 ∧ r = (r1 && r2) ∧ ks.length ≤ xs.length ∧ ks.length ≤ ys.length
  | [], ks', xs, ys, r, h => ⟨true, r, by simp [cmpI], by simpa using h, by simp, by simp, by simp⟩
  | k :: ks, ks', xs, ys, r, h => by
    cases k <;> cases xs with
    | nil => simp [cmpI] at h
    | cons x xs =>
      cases ys with
      | nil => cases x <;> simp [cmpI] at h
      | cons y ys =>
        cases x <;> cases y <;> simp only [List.cons_append, cmpI] at h <;> try cases h
        first
        | (simp only [Option.map_eq_some_iff] at h
           obtain ⟨r', h, rfl⟩ := h
           obtain ⟨r1, r2, h1, h2, rfl, h3, h4⟩ := cmpI_append ks ks' xs ys r' h
           exact ⟨_, r2, by simp [cmpI, h1]; rfl, by simpa using h2, by simp [Bool.and_assoc], by simpa using h3, by simpa using h4⟩)
        | (split at h
           · rename_i hk
             simp only [Option.map_eq_some_iff] at h
             obtain ⟨r', h, rfl⟩ := h
             obtain ⟨r1, r2, h1, h2, rfl, h3, h4⟩ := cmpI_append ks ks' xs ys r' h
             exact ⟨_, r2, by simp [cmpI, h1, hk]; rfl, by simpa using h2, by simp [Bool.and_assoc], by simpa using h3, by simpa using h4⟩
           · cases h)

theorem eqFields_run {P : Program} {F : Frz} {ρ : Lay} {w : World} {d : Nat} {g : TypeId → Option (List Bool)}
    (hg : ∀ t ks xs ys x y r, g t = some ks → (agO P t = some true → ∃ us vs, x = .agg us ∧ y = .agg vs ∧ VRs F ρ xs us.toList ∧ VRs F ρ ys vs.toList) → (agO P t = some false → ∃ a b, xs = [a] ∧ ys = [b] ∧ VR F ρ a x ∧ VR F ρ b y) →
      cmpI ks xs ys = some r → (Op.equalIn d t x y).run P w = .ok r w) {us vs : Array Value} {xs ys : List IV} (hx : VRs F ρ xs us.toList) (hy : VRs F ρ ys vs.toList) :
    ∀ (fs : List Field) (off : Nat) (ks : List Bool) (r : Bool), eqFs P g fs off = some ks → cmpI ks (xs.drop off) (ys.drop off) = some r → (Op.eqFields d us vs fs).run P w = .ok r w
  | [], off, ks, r, h, hc => by
    simp [eqFs] at h; subst h
    simp [cmpI] at hc; subst hc
    simp [Op.eqFields]
  | f :: fs, off, ks, r, h, hc => by
    simp only [eqFs] at h
    split at h
    · cases h
    · rename_i hn
      simp only [Bool.or_eq_true, beq_iff_eq, bne_iff_ne, ne_eq, not_or, Decidable.not_not] at hn
      obtain ⟨hn, rfl⟩ := hn
      split at h
      · rename_i k1 ag s hg1 hag hs
        split at h
        · rename_i hcond
          obtain ⟨rfl, h1⟩ := hcond
          simp only [Option.map_eq_some_iff] at h
          obtain ⟨ks', h, rfl⟩ := h
          obtain ⟨r1, r2, c1, c2, rfl, l1, l2⟩ := cmpI_append _ _ _ _ _ hc
          simp only [List.drop_drop, List.length_drop] at c2 l1 l2
          have ih := eqFields_run hg hx hy fs (f.offset + k1.length) ks' r2 h c2
          have e1 : ∃ x y, (part f.type us f.offset).run P w = .ok x w ∧ (part f.type vs f.offset).run P w = .ok y w ∧ (Op.equalIn d f.type x y).run P w = .ok r1 w := by
            cases ag with
            | true =>
              refine ⟨.agg (us.extract f.offset (f.offset + k1.length)), .agg (vs.extract f.offset (f.offset + k1.length)), by simp [part, run_isAgg hag, run_sizeOf hs], by simp [part, run_isAgg hag, run_sizeOf hs], ?_⟩
              refine hg _ k1 _ _ _ _ r1 hg1 (fun _ => ⟨_, _, rfl, rfl, ?_, ?_⟩) (fun h => by rw [hag] at h; cases h) c1
              · simpa [Array.toList_extract, List.extract] using (hx.drop f.offset).take k1.length
              · simpa [Array.toList_extract, List.extract] using (hy.drop f.offset).take k1.length
            | false =>
              have hone := h1 rfl
              have lx : f.offset < xs.length := by omega
              have ly : f.offset < ys.length := by omega
              obtain ⟨x, hx1, hx2⟩ := hx.get (List.getElem?_eq_getElem lx)
              obtain ⟨y, hy1, hy2⟩ := hy.get (List.getElem?_eq_getElem ly)
              rw [Array.getElem?_toList] at hx1 hy1
              refine ⟨x, y, by simp [part, run_isAgg hag, hx1], by simp [part, run_isAgg hag, hy1], ?_⟩
              refine hg _ k1 _ _ _ _ r1 hg1 (fun h => by rw [hag] at h; cases h) (fun _ => ⟨_, _, ?_, ?_, hx2, hy2⟩) c1
              · rw [hone, List.drop_eq_getElem_cons lx]; rfl
              · rw [hone, List.drop_eq_getElem_cons ly]; rfl
          obtain ⟨x, y, p1, p2, p3⟩ := e1
          rw [Op.eqFields]
          simp only [ne_eq, hn, not_false_eq_true, if_true, Sem.run_bind, p1, p2, p3, Result.andThen_ok]
          cases r1
          · simp
          · simpa using ih
        · cases h
      · cases h

theorem eqKs_run {P : Program} {F : Frz} {ρ : Lay} {w : World} : ∀ (d : Nat) (t : TypeId) (ks : List Bool) (xs ys : List IV) (x y : Value) (r : Bool), eqKs P d t = some ks →
    (agO P t = some true → ∃ us vs, x = .agg us ∧ y = .agg vs ∧ VRs F ρ xs us.toList ∧ VRs F ρ ys vs.toList) → (agO P t = some false → ∃ a b, xs = [a] ∧ ys = [b] ∧ VR F ρ a x ∧ VR F ρ b y) →
    cmpI ks xs ys = some r → (Op.equalIn d t x y).run P w = .ok r w
  | 0, t, ks, _, _, _, _, _, h, _, _, _ => by simp [eqKs] at h
  | d + 1, t, ks, xs, ys, x, y, r, h, ha, hb, hc => by
    simp only [eqKs] at h
    split at h
    · rename_i hu
      cases h
      obtain ⟨a, b, rfl, rfl, va, vb⟩ := hb (by simp [agO, hu])
      cases a <;> (try (simp [cmpI] at hc; done))
      cases b <;> (try (simp [cmpI] at hc; done))
      simp only [cmpI] at hc
      simp only [VR] at va vb
      subst va; subst vb
      simp only [Option.map_some, Bool.and_true, Option.some.injEq] at hc
      subst hc
      exact run_equalIn_bool' w d t _ _ hu
    · rename_i kk hu
      cases h
      obtain ⟨a, b, rfl, rfl, va, vb⟩ := hb (by simp [agO, hu])
      cases a <;> (try (simp [cmpI] at hc; done))
      cases b <;> (try (simp [cmpI] at hc; done))
      simp only [cmpI] at hc
      split at hc
      · rename_i hk
        subst hk
        simp only [VR] at va vb
        subst va; subst vb
        simp only [Option.map_some, Bool.and_true, Option.some.injEq] at hc
        subst hc
        exact run_equalIn_int w d t _ _ _ _ hu
      · cases hc
    · rename_i fs hu
      split at h
      · cases h
      · rename_i hs
        obtain ⟨us, vs, rfl, rfl, hx, hy⟩ := ha (by simp [agO, hu])
        have hf : P.fieldsOf t = fs := by simp [Program.fieldsOf, hu]
        rw [run_equalIn_struct (P := P) w d t us vs (by rw [hf]; exact hu) (by simpa using hs), hf]
        exact eqFields_run (fun t ks xs ys x y r => eqKs_run d t ks xs ys x y r) hx hy fs.toList 0 ks r h (by simpa using hc)
    · cases h

/-! ### == and != -/
inductive Kn where | bo | pt | sl | fu | ag | no
def knO (P : Program) (t : TypeId) : Kn :=
  match P.underlying t with
  | some .bool => .bo
  | some (.pointer _) => .pt
  | some (.slice _) => .sl
  | some (.func _ _ _) => .fu
  | some (.struct _) => .ag
  | _ => .no
def eqI (P : Program) (t : TypeId) (x y : IV) : Option Bool :=
  match knO P t, x, y with
  | .bo, .bool a, .bool b => some (a == b)
  | .pt, .nil, .nil => some true
  | .pt, .nil, .ptr _ _ _ => some false
  | .pt, .nil, .fptr _ => some false
  | .pt, .ptr _ _ _, .nil => some false
  | .pt, .fptr _, .nil => some false
  | .sl, .snil, .snil => some true
  | .sl, .sl _ _ _, .snil => some false
  | .sl, .vs _ es, .snil => if es = [] then none else some false
  | .ag, .agg xs, .agg ys => match eqO P t with
    | some ks => if ks.length = xs.length ∧ ks.length = ys.length then cmpI ks xs ys else none
    | none => none
  | _, _, _ => none
theorem knO_bo {P : Program} {t : TypeId} (h : knO P t = .bo) : P.underlying t = some .bool := by
  unfold knO at h; split at h <;> first | assumption | cases h
theorem knO_pt {P : Program} {t : TypeId} (h : knO P t = .pt) : ∃ e, P.underlying t = some (.pointer e) := by
  unfold knO at h; split at h <;> first | exact ⟨_, by assumption⟩ | cases h
theorem knO_sl {P : Program} {t : TypeId} (h : knO P t = .sl) : ∃ e, P.underlying t = some (.slice e) := by
  unfold knO at h; split at h <;> first | exact ⟨_, by assumption⟩ | cases h
theorem knO_ag {P : Program} {t : TypeId} (h : knO P t = .ag) : ∃ e, P.underlying t = some (.struct e) := by
  unfold knO at h; split at h <;> first | exact ⟨_, by assumption⟩ | cases h
theorem equal_pn {P : Program} {w : World} {t e : TypeId} (hu : P.underlying t = some (.pointer e)) (d : Nat) (b : Option Addr) : (Op.equalIn (d + 1) t (.pointer none) (.pointer b)).run P w = .ok b.isNone w := by
  simp only [Op.equalIn, Sem.run_bind, run_underlying hu, Result.andThen_ok]; rfl
theorem equal_np {P : Program} {w : World} {t e : TypeId} (hu : P.underlying t = some (.pointer e)) (d : Nat) (b : Addr) : (Op.equalIn (d + 1) t (.pointer (some b)) (.pointer none)).run P w = .ok false w := by
  simp only [Op.equalIn, Sem.run_bind, run_underlying hu, Result.andThen_ok]; rfl
theorem equal_sn {P : Program} {w : World} {t e : TypeId} (hu : P.underlying t = some (.slice e)) (d : Nat) (l c l' c' : Nat) : (Op.equalIn (d + 1) t (.slice none l c) (.slice none l' c')).run P w = .ok true w := by
  simp only [Op.equalIn, Sem.run_bind, run_underlying hu, Result.andThen_ok]; rfl
theorem equal_ns {P : Program} {w : World} {t e : TypeId} (hu : P.underlying t = some (.slice e)) (d : Nat) (a : Addr) (l c l' c' : Nat) : (Op.equalIn (d + 1) t (.slice (some a) l c) (.slice none l' c')).run P w = .ok false w := by
  simp only [Op.equalIn, Sem.run_bind, run_underlying hu, Result.andThen_ok]; rfl
theorem eqI_run {P : Program} {F : Frz} {ρ : Lay} {w : World} {t : TypeId} {x y : IV} {u v : Value} {r : Bool} (hx : VR F ρ x u) (hy : VR F ρ y v) (h : eqI P t x y = some r) :
    (Op.equal t u v).run P w = .ok r w ∧ (∀ (op : BinOp) (ox oy : Operand), (eqGuard op t ox oy u v).run P w = .ok () w) ∧
      binOp .eql t u v = (do pure (.bool (← Op.equal t u v))) ∧ binOp .neq t u v = (do pure (.bool (!(← Op.equal t u v)))) := by
  unfold eqI at h
  split at h
  · rename_i a b hk
    have hu := knO_bo hk
    simp only [VR] at hx hy
    subst hx; subst hy
    simp only [Option.some.injEq] at h; subst h
    exact ⟨run_equalIn_bool' w 9999 t _ _ hu, fun op _ _ => by cases op <;> simp [eqGuard], rfl, rfl⟩
  · rename_i hk
    obtain ⟨e, hu⟩ := knO_pt hk
    simp only [VR] at hx hy
    subst hx; subst hy
    simp only [Option.some.injEq] at h; subst h
    exact ⟨equal_pn hu 9999 none, fun op _ _ => by cases op <;> simp [eqGuard], rfl, rfl⟩
  · rename_i hk
    obtain ⟨e, hu⟩ := knO_pt hk
    simp only [VR] at hx hy
    subst hx; obtain ⟨l, _, rfl⟩ := hy
    simp only [Option.some.injEq] at h; subst h
    exact ⟨equal_pn hu 9999 (some _), fun op _ _ => by cases op <;> simp [eqGuard], rfl, rfl⟩
  · rename_i hk
    obtain ⟨e, hu⟩ := knO_pt hk
    simp only [VR] at hx hy
    subst hx; obtain ⟨R, off, rfl, _⟩ := hy
    simp only [Option.some.injEq] at h; subst h
    exact ⟨equal_pn hu 9999 (some _), fun op _ _ => by cases op <;> simp [eqGuard], rfl, rfl⟩
  · rename_i hk
    obtain ⟨e, hu⟩ := knO_pt hk
    simp only [VR] at hx hy
    subst hy; obtain ⟨l, _, rfl⟩ := hx
    simp only [Option.some.injEq] at h; subst h
    exact ⟨equal_np hu 9999 _, fun op _ _ => by cases op <;> simp [eqGuard], rfl, rfl⟩
  · rename_i hk
    obtain ⟨e, hu⟩ := knO_pt hk
    simp only [VR] at hx hy
    subst hy; obtain ⟨R, off, rfl, _⟩ := hx
    simp only [Option.some.injEq] at h; subst h
    exact ⟨equal_np hu 9999 _, fun op _ _ => by cases op <;> simp [eqGuard], rfl, rfl⟩
  · rename_i hk
    obtain ⟨e, hu⟩ := knO_sl hk
    simp only [VR] at hx hy
    subst hx; subst hy
    simp only [Option.some.injEq] at h; subst h
    exact ⟨equal_sn hu 9999 _ _ _ _, fun op _ _ => by cases op <;> simp [eqGuard], rfl, rfl⟩
  · rename_i hk
    obtain ⟨e, hu⟩ := knO_sl hk
    simp only [VR] at hx hy
    subst hy; obtain ⟨l, a, c, _, rfl, _⟩ := hx
    simp only [Option.some.injEq] at h; subst h
    exact ⟨equal_ns hu 9999 _ _ _ _ _, fun op _ _ => by cases op <;> simp [eqGuard], rfl, rfl⟩
  · rename_i s es hk
    obtain ⟨e, hu⟩ := knO_sl hk
    split at h
    · cases h
    · rename_i hne
      simp only [VR] at hx hy
      subst hy; obtain ⟨A, c, rfl, _, hr⟩ := hx
      obtain ⟨R, off, rfl, _⟩ := hr hne
      simp only [Option.some.injEq] at h; subst h
      exact ⟨equal_ns hu 9999 _ _ _ _ _, fun op _ _ => by cases op <;> simp [eqGuard], rfl, rfl⟩
  · rename_i xs ys hk
    obtain ⟨fs, hu⟩ := knO_ag hk
    split at h
    · rename_i ks hk
      split at h
      · simp only [VR] at hx hy
        obtain ⟨us, rfl, hx⟩ := hx
        obtain ⟨vs, rfl, hy⟩ := hy
        unfold eqO at hk
        split at hk
        · cases hk
        · rename_i hgd
          exact ⟨eqKs_run 10000 t ks xs ys _ _ r hk (fun _ => ⟨us, vs, rfl, rfl, hx, hy⟩) (fun h => by simp [agO, hu] at h) h, fun op ox oy => run_eqGuard_agg w op t ox oy us vs (by simpa using hgd), rfl, rfl⟩
      · cases h
    · cases h
  · cases h

def strI (op : BinOp) (a b : ByteArray) : Option IV :=
  match op with
  | .eql => some (.bool (a.toList == b.toList))
  | .neq => some (.bool !(a.toList == b.toList))
  | _ => none
def binI (P : Program) (op : BinOp) (t : TypeId) (x y : IV) : Option IV :=
  match x, y with
  | .int k a, .int k' b => arithI op k a k' b
  | .str a, .str b => strI op a b
  | x, y => match op with
    | .eql => (eqI P t x y).map .bool
    | .neq => (eqI P t x y).map fun r => .bool !r
    | _ => none
theorem binI_run {P : Program} {F : Frz} {ρ : Lay} {w : World} {op : BinOp} {t : TypeId} {x y z : IV} {u v : Value} {ox oy : Operand} (hx : VR F ρ x u) (hy : VR F ρ y v) (h : binI P op t x y = some z) :
    ∃ r, (do eqGuard op t ox oy u v; binOp op t u v : Sem Value).run P w = .ok r w ∧ VR F ρ z r := by
  unfold binI at h
  split at h
  · rename_i k a k' b
    simp only [VR] at hx hy
    subst hx; subst hy
    obtain ⟨r, h1, h2⟩ := arithI_run (P := P) (F := F) (ρ := ρ) (w := w) (t := t) h
    refine ⟨r, ?_, h2⟩
    have : (eqGuard op t ox oy (.int k a) (.int k' b)).run P w = .ok () w := by cases op <;> simp [eqGuard]
    simp [this, h1]
  · rename_i a b
    simp only [VR] at hx hy
    subst hx; subst hy
    unfold strI at h
    split at h <;> cases h
    · exact ⟨_, by simp [eqGuard, binOp, Op.stringOp]; rfl, by simp [VR]⟩
    · exact ⟨_, by simp [eqGuard, binOp, Op.stringOp]; rfl, by simp [VR]⟩
  · split at h
    · simp only [Option.map_eq_some_iff] at h
      obtain ⟨r, h, rfl⟩ := h
      obtain ⟨e1, e2, e3, e4⟩ := eqI_run (w := w) hx hy h
      refine ⟨.bool r, ?_, by simp [VR]⟩
      simp only [Sem.run_bind, e2, Result.andThen_ok]
      rw [e3]
      simp [e1]
    · simp only [Option.map_eq_some_iff] at h
      obtain ⟨r, h, rfl⟩ := h
      obtain ⟨e1, e2, e3, e4⟩ := eqI_run (w := w) hx hy h
      refine ⟨.bool !r, ?_, by simp [VR]⟩
      simp only [Sem.run_bind, e2, Result.andThen_ok]
      rw [e4]
      simp [e1]
    · cases h

def unI (op : UnOp) (x : IV) : Option IV :=
  match op, x with
  | .not, .bool b => some (.bool !b)
  | .neg, .int k n => some (.int k (k.wrap (0 - n)))
  | _, _ => none
theorem unI_run {P : Program} {F : Frz} {ρ : Lay} {w : World} {op : UnOp} {x z : IV} {u : Value} (hx : VR F ρ x u) (h : unI op x = some z) : ∃ r, (Op.unary op u).run P w = .ok r w ∧ VR F ρ z r := by
  unfold unI at h
  split at h <;> try cases h
  all_goals
    simp only [VR] at hx
    subst hx
    exact ⟨_, by simp [Op.unary, Op.intArith]; rfl, by simp [VR]⟩

end Go.Ideal
