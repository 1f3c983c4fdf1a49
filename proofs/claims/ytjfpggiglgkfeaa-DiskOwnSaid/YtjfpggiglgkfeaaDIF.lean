/- The rule for a region whose order is open; code evaluated by sight; functions. -/
import Derived.Test.YtjfpggiglgkfeaaDIE
import Derived.Eval
set_option linter.unusedVariables false
set_option linter.unusedSimpArgs false
namespace Go.Ideal

/-! ### what is asked of such a region by sight -/
def ordC (ops : Array Oper) (B : List Nat) : List Nat → Bool
  | [] => true
  | j :: js => decide (j < ops.size) && !js.contains j && (j :: js).all (fun i => !preB B i j) && (match ops[j]? with | some o => kindO o.op != 3 || js.all (fun k => preB B j k) | none => false) && ordC ops B js
def chkD (P : Program) (n : Nat) (ops : Array Oper) (B ord allocs : List Nat) : Bool :=
  ops.toList.all (chkOp P n) &&
  (List.range ops.size).all (fun j => match ops[j]? with
    | none => false
    | some o =>
      o.after.toList.all (fun e => !Region.binds .any e || decide (e.on < j)) &&
      decide (B.getD j 0 < 2 ^ j) &&
      (List.range j).all (fun i => !preB B i j || (o.after.toList.any (fun e => Region.binds .any e && (e.on == i || preB B i e.on)) && (B.getD i 0 ||| B.getD j 0) == B.getD j 0)) &&
      (List.range j).all (fun i => match ops[i]? with
        | none => false
        | some oi => (oi.apart ops o || preB B i j) && (!(kindO oi.op == 3 && kindO o.op == 3) || preB B i j)) &&
      decide (kindO o.op ≤ 3) && (kindO o.op != 2 || allocs.contains j) && ord.contains j) &&
  ordC ops B ord

theorem ordC_ok {ops : Array Oper} {B : List Nat} : ∀ {ord : List Nat}, ordC ops B ord = true → OrdOk ops B ord
  | [], _ => trivial
  | j :: js, h => by
    simp only [ordC, Bool.and_eq_true, decide_eq_true_eq, Bool.not_eq_true', List.contains_eq_mem, decide_eq_false_iff_not] at h
    obtain ⟨⟨⟨⟨h1, h2⟩, h3⟩, h4⟩, h5⟩ := h
    refine ⟨h1, h2, fun i hi hm => ?_, fun o ho hk k hkm => ?_, ordC_ok h5⟩
    · have := List.all_eq_true.1 h3 i hm
      simp [hi] at this
    · rw [ho] at h4
      simp only [Bool.or_eq_true, bne_iff_ne, ne_eq, hk, not_true_eq_false, false_or] at h4
      exact List.all_eq_true.1 h4 k hkm

theorem preB_lt {B : List Nat} {i j : Nat} (h : B.getD j 0 < 2 ^ j) (hp : preB B i j = true) : i < j := by
  rcases Nat.lt_or_ge i j with hlt | hge
  · exact hlt
  · unfold preB at hp
    rw [Nat.testBit_lt_two_pow (Nat.lt_of_lt_of_le h (Nat.pow_le_pow_right (by omega) hge))] at hp
    cases hp

section
variable {P : Program} {n : Nat} {ops : Array Oper} {B ord allocs : List Nat}
theorem chkD_at (h : chkD P n ops B ord allocs = true) {j : Nat} {o : Oper} (ho : ops[j]? = some o) :
    chkOp P n o = true ∧ (∀ e ∈ o.after, Region.binds .any e = true → e.on < j) ∧ B.getD j 0 < 2 ^ j ∧
      (∀ i, i < j → preB B i j = true → (∃ e ∈ o.after, Region.binds .any e = true ∧ (e.on = i ∨ preB B i e.on = true)) ∧ (B.getD i 0 ||| B.getD j 0) = B.getD j 0) ∧
      (∀ i oi, i < j → ops[i]? = some oi → (oi.apart ops o = true ∨ preB B i j = true) ∧ (kindO oi.op = 3 → kindO o.op = 3 → preB B i j = true)) ∧ kindO o.op ≤ 3 ∧ (kindO o.op = 2 → j ∈ allocs) ∧ j ∈ ord := by
  have hlt : j < ops.size := (Array.getElem?_eq_some_iff.1 ho).1
  unfold chkD at h
  simp only [Bool.and_eq_true] at h
  obtain ⟨⟨h1, h2⟩, h3⟩ := h
  have hj := List.all_eq_true.1 h2 j (by simpa using hlt)
  simp only [ho, Bool.and_eq_true, decide_eq_true_eq] at hj
  obtain ⟨⟨⟨⟨⟨⟨g1, g2⟩, g3⟩, g4⟩, g5⟩, g6⟩, g7⟩ := hj
  refine ⟨List.all_eq_true.1 h1 o (by have := Array.mem_of_getElem? ho; simpa using this), fun e he hb => ?_, g2, fun i hi hp => ?_, fun i oi hi hoi => ?_, g5, fun hk => ?_, by simpa using g7⟩
  · have := List.all_eq_true.1 g1 e (by simpa using he)
    simpa [hb] using this
  · have := List.all_eq_true.1 g3 i (by simpa using hi)
    simp only [hp, Bool.not_true, Bool.false_or, Bool.and_eq_true, beq_iff_eq] at this
    refine ⟨?_, this.2⟩
    obtain ⟨e, he, hb⟩ := List.any_eq_true.1 this.1
    simp only [Bool.and_eq_true, Bool.or_eq_true, beq_iff_eq] at hb
    exact ⟨e, by simpa using he, hb.1, hb.2⟩
  · have := List.all_eq_true.1 g4 i (by simpa using hi)
    simp only [hoi, Bool.and_eq_true, Bool.or_eq_true, Bool.not_eq_true', Bool.and_eq_false_iff, beq_eq_false_iff_ne, ne_eq] at this
    refine ⟨this.1, fun h1 h2 => ?_⟩
    rcases this.2 with (h | h) | h
    · exact absurd h1 h
    · exact absurd h2 h
    · exact h
  · simp only [Bool.or_eq_true, bne_iff_ne, ne_eq, List.contains_eq_mem, decide_eq_true_eq] at g6
    exact g6.resolve_left fun h => h hk
theorem chkD_chk (h : chkD P n ops B ord allocs = true) : DChk P n ops B where
  op := fun j o ho => (chkD_at h ho).1
  edge := fun j o ho => (chkD_at h ho).2.1
  sound := fun j o i ho hp => ((chkD_at h ho).2.2.2.1 i (preB_lt (chkD_at h ho).2.2.1 hp) hp).1
  trans := fun i j k hk hij hjk => by
    have ho := Array.getElem?_eq_getElem hk
    have h1 := ((chkD_at h ho).2.2.2.1 j (preB_lt (chkD_at h ho).2.2.1 hjk) hjk).2
    unfold preB at *
    rw [← h1, Nat.testBit_or, hij, Bool.true_or]
  apart := fun i j oi oj hlt hi hj => ((chkD_at h hj).2.2.2.2.1 i oi hlt hi).1
  eff := fun i j oi oj hlt hi hj h1 h2 => ((chkD_at h hj).2.2.2.2.1 i oi hlt hi).2 h1 h2
  kind := fun j o ho => (chkD_at h ho).2.2.2.2.2.1
end

theorem idxOf_inj {l : List Nat} {i j : Nat} (hi : i ∈ l) (hj : j ∈ l) (h : l.idxOf i = l.idxOf j) : i = j := by
  have h1 := List.getElem_idxOf (List.idxOf_lt_length_of_mem hi)
  have h2 := List.getElem_idxOf (List.idxOf_lt_length_of_mem hj)
  rw [← h1, ← h2]
  congr 1

/-- Numbers laid aside. -/
theorem Step.reserve {F : Frz} {ρ : Lay} {h : Heap} {w : World} (hr : Rel F ρ h w) (k : Nat) : Step F ρ h w F ρ (h ++ List.replicate k none) w := by
  have hget : ∀ (b : Nat) (x : Blk), (h ++ List.replicate k none)[b]? = some (some x) → h[b]? = some (some x) := by
    intro b x e
    rcases Nat.lt_or_ge b h.length with hb | hb
    · rwa [List.getElem?_append_left hb] at e
    · rw [List.getElem?_append_right hb, List.getElem?_replicate] at e
      split at e <;> cases e
  exact ⟨FLe.refl F, fun _ _ e => e, ⟨hr.frz, fun b x e => hr.liv b x (hget b x e), fun b b' x x' l l' e e' => hr.inj b b' x x' l l' (hget b x e) (hget b' x' e'), fun b l e => by have := hr.low b l e; simp; omega⟩,
    fun _ _ _ => rfl, fun i ⟨b, x, l, e, h1, h2⟩ _ => ⟨b, x, l, hget b x e, h1, h2⟩, fun _ _ e => .inl e, by simp, fun _ _ _ e => e, Nat.le_refl _, rfl, rfl, rfl⟩

theorem IWp.draw {P : Program} {n : Nat} {Q : IExit → IAct → Heap → Prop} {a : IAct} {h : Heap} {id : Nat} {ops : Array Oper} {B ord allocs : List Nat} (hm : P.follows .mixedOrders = true) (hc : chkD P n ops B ord allocs = true)
    (hi : DRun P ops B (fun j => h.length + allocs.idxOf j) (fun a' h' => Q .normal a' h') ord a [] [] (h ++ List.replicate allocs.length none)) : IWp P n (.region id ops true) Q a h := by
  intro F ρ w ra hr ar
  have c := chkD_chk hc
  have hord : OrdOk ops B ord := by
    unfold chkD at hc
    simp only [Bool.and_eq_true] at hc
    exact ordC_ok hc.2
  have s1 : Step F ρ h w F ρ (h ++ List.replicate allocs.length none) { w with drawn := w.drawn + 1 } := (Step.of_heap (W := { w with drawn := w.drawn + 1 }) hr rfl rfl rfl rfl).trans (Step.reserve (w := { w with drawn := w.drawn + 1 }) (hr.of_heap rfl) _)
  have hdead : ∀ (b : Nat) (x : Blk), h.length ≤ b → (h ++ List.replicate allocs.length none)[b]? = some (some x) → False := by
    intro b x hb e
    rw [List.getElem?_append_right hb, List.getElem?_replicate] at e
    split at e <;> cases e
  refine wp_region_any hm (DInv.any (K := fun a' h' => Q .normal a' h') (h0 := h) (a0 := a) (F0 := F) (ρ0 := ρ) (w0 := w) (idOf := fun j => h.length + allocs.idxOf j) c ?_ ops.size (Array.replicate ops.size false) (fun _ => false) F ρ { w with drawn := w.drawn + 1 } ra ord a [] [] (h ++ List.replicate allocs.length none) (fun _ => .any) ?_ (by simp) ?_ ?_)
  · rintro ra' w' ⟨a', h', F', ρ', k, st, ar'⟩
    exact ⟨.normal, a', h', F', ρ', k, rfl, st, ar'⟩
  · intro j
    by_cases hj : j < ops.size <;> simp [hj]
  · have : (List.range ops.size).filter (fun _ => !false) = List.range ops.size := List.filter_eq_self.2 fun _ _ => rfl
    rw [this]; simp
  · have hkn : ∀ i, KnX ops ord i = false := by
      intro i
      by_cases hi : i < ops.size
      · have := (chkD_at hc (Array.getElem?_eq_getElem hi)).2.2.2.2.2.2.2
        simp [KnX, this]
      · simp [KnX, hi]
    have hax : ∀ i, AX ops a (fun _ => IV.any) (fun _ => false) i = a := by
      intro i
      induction i with
      | zero => rfl
      | succ i ih => funext t; simp [AX, ih]
    have hk2 : ∀ (j : Nat) (o : Oper), ops[j]? = some o → kindO o.op = 2 → j ∈ allocs := fun j o ho hk => (chkD_at hc ho).2.2.2.2.2.2.1 hk
    refine ⟨fun j hj => (by cases hj), fun j hj => (by cases hj), fun j hj => (by rw [hkn] at hj; cases hj), hord, ?_, ?_, by simpa [fillP] using s1, ?_, ?_, ?_, ?_, by simp, by simp, ?_, ?_, ?_, ?_, hi⟩
    · rw [AX_ext hkn, hax]
    · rw [hax]; exact ar
    · intro j o ho hk
      have := List.idxOf_lt_length_of_mem (hk2 j o ho hk)
      simp; omega
    · intro i j oi oj hi hj h1 h2 e
      exact idxOf_inj (hk2 i oi hi h1) (hk2 j oj hj h2) (by omega)
    · intro j o ho hk _ k e
      exact hdead _ k (by omega) e
    · intro j o ho hk _ _
      cases he : ρ (h.length + allocs.idxOf j) with
      | none => rfl
      | some l => have := hr.low _ l he; omega
    · intro j o ho hk hm
      exact absurd (chkD_at hc ho).2.2.2.2.2.2.2 hm
    · intro j o ho hk hm
      exact absurd (chkD_at hc ho).2.2.2.2.2.2.2 hm
    · intro j o ho hk hm
      exact absurd (chkD_at hc ho).2.2.2.2.2.2.2 hm
    · intro j o ho hk hm
      exact absurd (chkD_at hc ho).2.2.2.2.2.2.2 hm

/-! ### code by sight -/
structure DI where
  B : List Nat
  ord : List Nat
  allocs : List Nat
def bK (v : IV) (X Y : Prop) : Prop := match v with | .bool true => X | .bool false => Y | _ => False
def bK' (v : IV) (X Y : Prop) : Prop := match v with | .bool b => if b = true then X else Y | _ => False

def hold (h : Heap) : List Nat → Heap
  | [] => h
  | j :: js => h ++ List.replicate (j :: js).length none
theorem hold_eq (h : Heap) : ∀ l : List Nat, hold h l = h ++ List.replicate l.length none
  | [] => by simp [hold]
  | _ :: _ => rfl

def IC (P : Program) (n : Nat) (D : Nat → DI) : Code → (IExit → IAct → Heap → Prop) → IAct → Heap → Prop
  | .skip, Q, a, h => Q .normal a h
  | .region id ops dr, Q, a, h =>
    match dr with
    | true => DRun P ops (D id).B (fun j => h.length + (D id).allocs.idxOf j) (fun a' h' => Q .normal a' h') (D id).ord a [] [] (hold h (D id).allocs)
    | false => IRun P ops (fun a' h' => Q .normal a' h') ops.toList a h
  | .seq x y, Q, a, h => IC P n D x (iThen (IC P n D y Q) Q) a h
  | .cond c x y, Q, a, h => bK' (ieval a c) (IC P n D x Q a h) (IC P n D y Q a h)
  | .block id c, Q, a, h => IC P n D c (iBlock id Q) a h
  | .loop c, Q, a, h => ILoop P n c Q a h
  | .exit id, Q, a, h => Q (.exit id) a h
  | .ret, Q, a, h => Q .ret a h
  | _, _, _, _ => False

def chkC (P : Program) (n : Nat) (D : Nat → DI) : Code → Bool
  | .skip => true
  | .region id ops dr => match dr with
    | true => chkD P n ops (D id).B (D id).ord (D id).allocs
    | false => ops.toList.all (chkOp P n)
  | .seq x y => chkC P n D x && chkC P n D y
  | .cond _ x y => chkC P n D x && chkC P n D y
  | .block _ c => chkC P n D c
  | .loop c => chkC P n D c
  | .exit _ => true
  | .ret => true
  | _ => false

theorem iThen_mono {next next' : IAct → Heap → Prop} {Q : IExit → IAct → Heap → Prop} (hn : ∀ a h, next a h → next' a h) : ∀ e a h, iThen next Q e a h → iThen next' Q e a h := by
  intro e a h hq
  cases e <;> first | exact hn _ _ hq | exact hq

theorem IC.sound {P : Program} {n : Nat} {D : Nat → DI} (hm : P.follows .mixedOrders = true) : ∀ (c : Code), chkC P n D c = true → ∀ (Q : IExit → IAct → Heap → Prop) (a : IAct) (h : Heap), IC P n D c Q a h → IWp P n c Q a h
  | .skip, _, Q, a, h, hi => IWp.skip hi
  | .region id ops dr, hc, Q, a, h, hi => by
    cases dr with
    | true => simp only [IC, hold_eq] at hi; exact IWp.draw hm hc hi
    | false => exact IWp.region hc hi
  | .seq x y, hc, Q, a, h, hi => by
    simp only [chkC, Bool.and_eq_true] at hc
    exact IWp.seq ((IC.sound hm x hc.1 _ a h hi).mono (iThen_mono fun a' h' h1 => IC.sound hm y hc.2 Q a' h' h1))
  | .cond c x y, hc, Q, a, h, hi => by
    simp only [chkC, Bool.and_eq_true] at hc
    simp only [IC, bK'] at hi
    split at hi
    · rename_i b hb
      refine IWp.cond hb (fun ht => ?_) (fun hf => ?_)
      · rw [if_pos ht] at hi; exact IC.sound hm x hc.1 Q a h hi
      · rw [if_neg (by simp [hf])] at hi; exact IC.sound hm y hc.2 Q a h hi
    · exact hi.elim
  | .block id c, hc, Q, a, h, hi => IWp.block (IC.sound hm c hc _ a h hi)
  | .loop c, hc, Q, a, h, hi => IWp.loop hi
  | .exit id, _, Q, a, h, hi => IWp.exit hi
  | .ret, _, Q, a, h, hi => IWp.ret hi
  | .rangeFunc .., hc, _, _, _, _ => by simp [chkC] at hc
  | .scope _, hc, _, _, _, _ => by simp [chkC] at hc
  | .label _, hc, _, _, _, _ => by simp [chkC] at hc
  | .goto _, hc, _, _, _, _ => by simp [chkC] at hc
  | .refuse _, hc, _, _, _, _ => by simp [chkC] at hc

theorem IOp.mono {P : Program} {ops : Array Oper} {o : Oper} {a : IAct} {h : Heap} {K K' : IV → Heap → Prop} (hk : ∀ v h', K v h' → K' v h') (hi : IOp P ops o a h K) : IOp P ops o a h K' := by
  unfold IOp at hi ⊢
  split at hi
  · unfold callS at hi ⊢
    split at hi
    · exact hi.mono hk
    · exact hk _ _ hi
    · exact hi
  · unfold callK at hi ⊢
    split at hi
    · split at hi
      · exact ⟨hi.1, hi.2.mono hk⟩
      · exact hi
    · exact hk _ _ hi
    · exact hi
  · have hm : ∀ {x : Option (IV × Heap)} {f : IV × Heap → Heap}, oK x (fun p => K p.1 (f p)) → oK x (fun p => K' p.1 (f p)) := by
      intro x f hx
      unfold oK at hx ⊢
      split at hx
      · exact hk _ _ hx
      · exact hx
    split at hi
    · exact hm (f := fun _ => h) hi
    · exact hm (f := fun _ => h) hi
    · exact hm (f := fun p => p.2) hi
theorem IRun.mono {P : Program} {ops : Array Oper} {K K' : IAct → Heap → Prop} (hk : ∀ a h, K a h → K' a h) : ∀ (l : List Oper) (a : IAct) (h : Heap), IRun P ops K l a h → IRun P ops K' l a h
  | [], a, h, hi => hk a h hi
  | o :: os, a, h, hi => by
    simp only [IRun] at hi ⊢
    exact hi.mono fun v h' h1 => IRun.mono hk os _ h' h1
theorem oK_mono {α : Type} {x : Option α} {K K' : α → Prop} (hk : ∀ v, K v → K' v) (hi : oK x K) : oK x K' := by
  unfold oK at hi ⊢
  split at hi
  · exact hk _ hi
  · exact hi
theorem DRun.mono {P : Program} {ops : Array Oper} {B : List Nat} {idOf : Nat → Nat} {K K' : IAct → Heap → Prop} (hk : ∀ a h, K a h → K' a h) : ∀ (l : List Nat) (a : IAct) (lds : List (Nat × IAct × IV)) (pend : List (Nat × Blk)) (h : Heap), DRun P ops B idOf K l a lds pend h → DRun P ops B idOf K' l a lds pend h
  | [], a, _, pend, h, hi => hk _ _ hi
  | j :: js, a, lds, pend, h, hi => by
    simp only [DRun] at hi ⊢
    split at hi
    · exact hi
    · split at hi
      · exact oK_mono (fun p h1 => DRun.mono hk js _ _ _ _ h1) hi
      · exact oK_mono (fun p h1 => DRun.mono hk js _ _ _ _ h1) hi
      · split at hi
        · exact oK_mono (fun p h1 => DRun.mono hk js _ _ _ _ h1) hi
        · exact DRun.mono hk js _ _ _ _ hi
        · exact hi
      · exact hi.mono fun v h' h1 => ⟨h1.1, DRun.mono hk js _ _ _ _ h1.2⟩
      · exact hi
theorem ILoop.mono {P : Program} {n : Nat} {c : Code} {Q Q' : IExit → IAct → Heap → Prop} {a : IAct} {h : Heap} (hq : ∀ e a h, Q e a h → Q' e a h) (hl : ILoop P n c Q a h) : ILoop P n c Q' a h := by
  intro F ρ w ra hr ar b k cs
  obtain ⟨e, ra', w', ⟨ie, a', h', F', ρ', k', rest⟩, harr⟩ := hl F ρ w ra hr ar b k cs
  exact ⟨e, ra', w', ⟨ie, a', h', F', ρ', hq _ _ _ k', rest⟩, harr⟩
theorem IC.mono {P : Program} {n : Nat} {D : Nat → DI} : ∀ (c : Code) {Q Q' : IExit → IAct → Heap → Prop} {a : IAct} {h : Heap}, (∀ e a h, Q e a h → Q' e a h) → IC P n D c Q a h → IC P n D c Q' a h
  | .skip, Q, Q', a, h, hq, hi => hq _ _ _ hi
  | .region id ops dr, Q, Q', a, h, hq, hi => by
    cases dr with
    | true => exact DRun.mono (fun a h => hq .normal a h) _ _ _ _ _ hi
    | false => exact IRun.mono (fun a h => hq .normal a h) _ _ _ hi
  | .seq x y, Q, Q', a, h, hq, hi => by
    refine IC.mono x ?_ hi
    intro e a' h' h1
    cases e with
    | normal => exact IC.mono y hq h1
    | exit id => exact hq _ _ _ h1
    | ret => exact hq _ _ _ h1
  | .cond c x y, Q, Q', a, h, hq, hi => by
    simp only [IC, bK'] at hi ⊢
    split at hi
    · split at hi
      · rename_i hb; rw [if_pos hb]; exact IC.mono x hq hi
      · rename_i hb; rw [if_neg hb]; exact IC.mono y hq hi
    · exact hi
  | .block id c, Q, Q', a, h, hq, hi => by
    refine IC.mono c ?_ hi
    intro e a' h' h1
    cases e with
    | normal => exact hq _ _ _ h1
    | ret => exact hq _ _ _ h1
    | exit id' =>
      simp only [iBlock] at h1 ⊢
      split
      · rename_i hid; rw [if_pos hid] at h1; exact hq _ _ _ h1
      · rename_i hid; rw [if_neg hid] at h1; exact hq _ _ _ h1
  | .loop c, Q, Q', a, h, hq, hi => ILoop.mono hq hi
  | .exit id, Q, Q', a, h, hq, hi => hq _ _ _ hi
  | .ret, Q, Q', a, h, hq, hi => hq _ _ _ hi
  | .rangeFunc .., _, _, _, _, _, hi => hi
  | .scope _, _, _, _, _, _, hi => hi
  | .label _, _, _, _, _, _, hi => hi
  | .goto _, _, _, _, _, _, hi => hi
  | .refuse _, _, _, _, _, _, hi => hi

/-- One round more. -/
theorem ILoop.round {P : Program} {n : Nat} {D : Nat → DI} (hm : P.follows .mixedOrders = true) {c : Code} (hc : chkC P n D c = true) {Q : IExit → IAct → Heap → Prop} {L : IAct → Heap → Prop} (hL : ∀ a h, L a h → ILoop P n c Q a h) {a : IAct} {h : Heap} (hi : IC P n D c (iThen L Q) a h) : ILoop P n c Q a h :=
  ILoop.unfold ((IC.sound hm c hc _ a h hi).mono (iThen_mono hL))

/-! ### functions -/
inductive RV where
  | v (x : IV)
  | c (x : IV) (ty : TypeId)
def resV (P : Program) (h : Heap) : List RV → Option (List IV)
  | [] => some []
  | .v x :: rs => (resV P h rs).map (x :: ·)
  | .c x ty :: rs => match loadI P ty x h with
    | some v => (resV P h rs).map (v :: ·)
    | none => none
def rvOf (a : IAct) : ResultVar → RV
  | .tmp t => .v (a t)
  | .cell t ty => .c (a t) ty
theorem resV_eq {P : Program} {a : IAct} {h : Heap} : ∀ rs : List ResultVar, resI P a h rs = resV P h (rs.map (rvOf a))
  | [] => rfl
  | .tmp t :: rs => by simp [resI, resV, rvOf, resV_eq rs]
  | .cell t ty :: rs => by
    simp only [resI, resV, rvOf, List.map_cons, resV_eq rs]
    cases loadI P ty (a t) h <;> rfl
def retK (P : Program) (l : List RV) (h : Heap) (K : IV → Heap → Prop) : Prop := oK ((resV P h l).map tupI) fun r => K r h
def finK (P : Program) (rs : List ResultVar) (K : IV → Heap → Prop) : IExit → IAct → Heap → Prop
  | .exit _, _, _ => False
  | .normal, a, h => retK P (rs.map (rvOf a)) h K
  | .ret, a, h => retK P (rs.map (rvOf a)) h K

theorem CallsI.ofIC {P : Program} {f : FuncId} {fn : Func} {c : Code} {D : Nat → DI} {args : List IV} {h : Heap} {K : IV → Heap → Prop} (hm : P.follows .mixedOrders = true) (hf : P.funcs[f]? = some fn) (hb : fn.body = some c) (hn : args.length ≤ fn.ntmps) (hc : chkC P fn.ntmps D c = true)
    (hi : IC P fn.ntmps D c (finK P fn.results.toList K) (actI args) h) : CallsI P f args h K := by
  refine CallsI.of hf hb hn ((IC.sound hm c hc _ _ h hi).mono ?_)
  have key : ∀ a' h', retK P (fn.results.toList.map (rvOf a')) h' K → ∃ r, retI P a' h' fn.results.toList = some r ∧ K r h' := by
    intro a' h' hr
    unfold retK oK at hr
    rw [← resV_eq] at hr
    split at hr
    · rename_i r hr'; exact ⟨r, hr', hr⟩
    · exact hr.elim
  intro e a' h' hq
  cases e with
  | normal => exact ⟨.inl rfl, key a' h' hq⟩
  | ret => exact ⟨.inr rfl, key a' h' hq⟩
  | exit id => exact hq.elim

end Go.Ideal
