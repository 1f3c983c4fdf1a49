/- Contracts and the rules for code over the ideal memory. -/
import Derived.Test.YtjfpggiglgkfeaaDI8
set_option linter.unusedVariables false
set_option linter.unusedSimpArgs false
namespace Go.Ideal

/-- The call of function f at args, from h on: K of what it returns and of the memory behind it. -/
def CallsI (P : Program) (f : FuncId) (args : List IV) (h : Heap) (K : IV → Heap → Prop) : Prop :=
  ∀ (F : Frz) (ρ : Lay) (w : World) (us : Array Value), Rel F ρ h w → VRs F ρ args us.toList →
    Calls P f us w fun e w' => ∃ r h' v F' ρ', K r h' ∧ e = .returned v ∧ Step F ρ h w F' ρ' h' w' ∧ VR F' ρ' r v

theorem CallsI.mono {P : Program} {f : FuncId} {args : List IV} {h : Heap} {K K' : IV → Heap → Prop} (hc : CallsI P f args h K) (hk : ∀ r h', K r h' → K' r h') : CallsI P f args h K' :=
  fun F ρ w us hr hv => (hc F ρ w us hr hv).mono fun _ _ ⟨r, h', v, F', ρ', k, rest⟩ => ⟨r, h', v, F', ρ', hk r h' k, rest⟩

structure ARel (F : Frz) (ρ : Lay) (n : Nat) (a : IAct) (ra : Act) : Prop where
  size : ra.tmps.size = n
  defers : ra.defers = []
  tmps : ∀ t, VR F ρ (a t) (ra.tmps.getD t undef)

theorem ARel.eval {F : Frz} {ρ : Lay} {n : Nat} {a : IAct} {ra : Act} (h : ARel F ρ n a ra) (x : Operand) : VR F ρ (ieval a x) (ra.eval x) := by
  cases x with
  | tmp t => exact h.tmps t
  | const v => exact VR.toIV F ρ v
  | global g => simp [ieval, VR]
  | func f => exact ⟨#[], rfl, by simp [VRs]⟩
theorem ARel.step {F F' : Frz} {ρ ρ' : Lay} {h h' : Heap} {w w' : World} {n : Nat} {a : IAct} {ra : Act} (ar : ARel F ρ n a ra) (hr : Rel F ρ h w) (s : Step F ρ h w F' ρ' h' w') : ARel F' ρ' n a ra :=
  ⟨ar.size, ar.defers, fun t => s.vr (ar.tmps t) hr⟩
theorem ARel.put {F : Frz} {ρ : Lay} {n : Nat} {a : IAct} {ra : Act} (ar : ARel F ρ n a ra) {dst : Option Tmp} (hd : dst.all (· < n) = true) {v : IV} {u : Value} (hv : VR F ρ v u) : ARel F ρ n (iput a dst v) (ra.put dst u) := by
  cases dst with
  | none => exact ar
  | some d =>
    simp at hd
    refine ⟨by simp [Act.put, ar.size], ar.defers, fun t => ?_⟩
    simp only [iput, Act.put]
    by_cases ht : t = d
    · subst ht
      have : t < ra.tmps.size := by rw [ar.size]; exact hd
      simp [this, hv]
    · rw [if_neg ht]
      have := ar.tmps t
      simpa [Array.getElem?_setIfInBounds_ne (Ne.symm ht)] using this

/-- Is operation o wanted? 'none': it can't be told. -/
def wantI (ops : Array Oper) (o : Oper) (a : IAct) : Option Bool :=
  match o.guard with
  | none => some true
  | some (j, want) => match (ops[j]?).bind (·.dst) with
    | some t => match a t with
      | .bool b => some (b == want)
      | .tup [] => some false
      | _ => none
    | none => none
theorem wantI_run {F : Frz} {ρ : Lay} {n : Nat} {a : IAct} {ra : Act} (ar : ARel F ρ n a ra) {ops : Array Oper} {o : Oper} {b : Bool} (h : wantI ops o a = some b) (hops : ∀ o' ∈ ops.toList, o'.dst.all (· < n) = true) : Region.wanted o (yielded ops ra.tmps) = b := by
  unfold wantI at h
  unfold Region.wanted
  cases hg : o.guard with
  | none => rw [hg] at h; simpa using h
  | some jw =>
    obtain ⟨j, want⟩ := jw
    rw [hg] at h
    simp only at h ⊢
    cases ht : (ops[j]?).bind (·.dst) with
    | none => rw [ht] at h; cases h
    | some t =>
      rw [ht] at h
      simp only at h
      have hlt : t < ra.tmps.size := by
        rw [ar.size]
        simp only [Option.bind_eq_some_iff] at ht
        obtain ⟨o', ho', hd⟩ := ht
        have := hops o' (by have := Array.mem_of_getElem? ho'; simpa using this)
        simpa [hd] using this
      have htm := ar.tmps t
      have hget : ra.tmps[t]? = some (ra.tmps.getD t undef) := by simp [hlt]
      unfold yielded
      rw [ht, Option.bind_some, hget]
      generalize ra.tmps.getD t undef = v at htm
      cases hat : a t <;> rw [hat] at h htm <;> (try simp only at h) <;> (try cases h)
      · simp only [VR] at htm
        subst htm
        rfl
      · rename_i cs
        cases cs with
        | nil =>
          cases h
          simp only [VR, VRs] at htm
          obtain ⟨us, rfl, hus⟩ := htm
          rfl
        | cons c cs => simp at h

/-- Is g a function with a body that is entered by a call? -/
def goO (P : Program) (g : FuncId) : Bool := match P.funcs[g]? with | some fn => fn.name != "runtime.NumGoroutine" && fn.body.isSome | none => false
theorem goO_run {P : Program} {g : FuncId} (h : goO P g = true) (args : Array Value) (w : World) : (callFunc g args).run P w = .ok (.enter g args) w := by
  unfold goO at h
  cases e : P.funcs[g]? with
  | none => rw [e] at h; cases h
  | some fn =>
    rw [e] at h
    simp at h
    obtain ⟨h1, h2⟩ := h
    obtain ⟨c, hb⟩ := Option.isSome_iff_exists.1 h2
    simp [callFunc, run_program, e, h1, hb]

/-! ### kinds of operations: 0: of values alone; 1: looks at memory; 2: makes a block; 3: acts on memory; 4: not covered -/
def kindO : Op → Nat
  | .move _ | .assign _ | .pick .. | .build .. | .nilCheck _ | .binOp .. | .unOp .. | .makeFunc .. | .fieldAddr .. | .field .. | .extract .. => 0
  | .load .. | .slice .. | .indexAddr .. | .convert .. => 1
  | .alloc _ | .box .. | .buildSlice .. | .makeSlice .. => 2
  | .store .. => 3
  | .call c => match c.callee with
    | .builtin .len | .builtin .max | .builtin .min => 0
    | .builtin .append | .builtin .copy => 3
    | .value _ => 3
    | _ => 4
  | _ => 4

/-- Every live block of h is live in h2, with the same content. -/
def HLe (h h2 : Heap) : Prop := ∀ (b : Nat) (k : Blk), h[b]? = some (some k) → h2[b]? = some (some k)
theorem cellsOf_mono {h h2 : Heap} (hle : HLe h h2) {p : IV} {cs : List IV} (hc : cellsOf h p = some cs) : cellsOf h2 p = some cs := by
  cases p <;> simp only [cellsOf] at hc ⊢ <;> try exact hc
  case ptr b i o =>
    cases hb : h[b]? with
    | none => rw [hb] at hc; simp at hc
    | some x =>
      cases x with
      | none => rw [hb] at hc; simp at hc
      | some k => rw [hb] at hc; rw [hle b k hb]; exact hc
theorem srcI_mono {h h2 : Heap} (hle : HLe h h2) {n : Nat} {p : IV} {es : List (List IV)} (hc : srcI h n p = some es) : srcI h2 n p = some es := by
  cases p <;> simp only [srcI] at hc ⊢ <;> try exact hc
  case sl b lo len =>
    cases hb : h[b]? with
    | none => rw [hb] at hc; simp at hc
    | some x =>
      cases x with
      | none => rw [hb] at hc; simp at hc
      | some k => rw [hb] at hc; rw [hle b k hb]; exact hc
/-- An operation that only looks gives the same where more is live. -/
theorem opI_mono {P : Program} {ev : Operand → IV} {op : Op} {h h' h2 : Heap} {v : IV} (hk : kindO op ≤ 1) (ho : opI P ev op h = some (v, h')) (hle : HLe h h2) : h' = h ∧ opI P ev op h2 = some (v, h2) := by
  have m1 : ∀ {x x2 : Option IV}, x.map (fun v => (v, h)) = some (v, h') → (∀ v', x = some v' → x2 = some v') → h' = h ∧ x2.map (fun v => (v, h2)) = some (v, h2) := by
    intro x x2 hx hs
    simp only [Option.map_eq_some_iff, Prod.mk.injEq] at hx
    obtain ⟨v', hx, rfl, rfl⟩ := hx
    exact ⟨rfl, by rw [hs _ hx]; rfl⟩
  cases op
  case move => simp only [opI] at ho ⊢; cases ho; exact ⟨rfl, rfl⟩
  case assign => simp only [opI] at ho ⊢; cases ho; exact ⟨rfl, rfl⟩
  case pick c x y =>
    simp only [opI] at ho ⊢
    cases hc : ev c <;> rw [hc] at ho <;> simp only at ho ⊢ <;> cases ho
    exact ⟨rfl, rfl⟩
  case build => exact m1 ho fun _ h => h
  case load t x =>
    refine m1 ho fun v' hv => ?_
    unfold loadI at hv ⊢
    cases hc : cellsOf h (ev x) with
    | none => rw [hc] at hv; simp at hv
    | some cs => rw [hc] at hv; rw [cellsOf_mono hle hc]; exact hv
  case nilCheck x =>
    simp only [opI] at ho ⊢
    cases hc : ev x <;> rw [hc] at ho <;> simp only at ho ⊢ <;> cases ho <;> exact ⟨rfl, rfl⟩
  case binOp => exact m1 ho fun _ h => h
  case unOp => exact m1 ho fun _ h => h
  case convert s d x =>
    refine m1 ho fun v' hv => ?_
    unfold convI at hv ⊢
    split at hv
    · exact hv
    · split at hv
      · rename_i e he
        split at hv
        · rename_i hb
          split at hv
          · rename_i xs hxs
            simp only [Option.bind_eq_some_iff] at hxs
            obtain ⟨es, h1, h2'⟩ := hxs
            simp only [he, if_pos hb, srcI_mono hle h1, Option.bind_some, h2']
            exact hv
          · cases hv
        · cases hv
      · cases hv
  case makeFunc fn first caps =>
    simp only [opI] at ho ⊢
    split at ho
    · cases ho; exact ⟨rfl, rfl⟩
    · cases ho
  case slice t x lo hi mx =>
    cases mx with
    | some m => simp [opI] at ho
    | none =>
      refine m1 ho fun v' hv => ?_
      unfold sliceI at hv ⊢
      split at hv
      · exact hv
      · rename_i b lo' len n hx hn
        split at hv
        · rename_i l m k h1 h2' hb
          simp only [h1, h2', hle b k hb]
          exact hv
        · cases hv
      · exact hv
      · cases hv
  case fieldAddr => exact m1 ho fun _ h => h
  case field => exact m1 ho fun _ h => h
  case indexAddr t x i =>
    refine m1 ho fun v' hv => ?_
    unfold indexAddrI at hv ⊢
    split at hv
    · exact hv
    · rename_i n b lo len k i hn hx hi
      split at hv
      · rename_i hc
        simp only [if_pos hc]
        split at hv
        · rename_i kb hb
          simp only [hle b kb hb]; exact hv
        · cases hv
      · cases hv
    · cases hv
  case extract => exact m1 ho fun _ h => h
  case call c =>
    obtain ⟨callee, args, argTypes⟩ := c
    simp only [opI] at ho ⊢
    split at ho
    · exact m1 ho fun _ h => h
    · simp [kindO] at hk
    · simp [kindO] at hk
    · exact m1 ho fun _ h => h
    · exact m1 ho fun _ h => h
    · cases ho
  all_goals (first | exact absurd hk (by simp [kindO]) | exact absurd ho (by simp [opI]))

def oK {α : Type} (x : Option α) (K : α → Prop) : Prop := match x with | some v => K v | none => False
/-- An operation under its guard. -/
def gOp (w : Option Bool) (x : Option (IV × Heap)) (h : Heap) : Option (IV × Heap) :=
  match w with | some true => x | some false => some (.tup [], h) | none => none
/-- A call under its guard: of a function that is named, or of a function value. -/
def callK (P : Program) (w : Option Bool) (f : IV) (args : List IV) (h : Heap) (K : IV → Heap → Prop) : Prop :=
  match w with
  | some true => match f with | .fn g caps => goO P g = true ∧ CallsI P g (args ++ caps) h K | _ => False
  | some false => K (.tup []) h
  | none => False
def callS (P : Program) (w : Option Bool) (g : FuncId) (args : List IV) (h : Heap) (K : IV → Heap → Prop) : Prop :=
  match w with
  | some true => CallsI P g args h K
  | some false => K (.tup []) h
  | none => False
/-- One operation: K of its value and of the memory behind it. -/
def IOp (P : Program) (ops : Array Oper) (o : Oper) (a : IAct) (h : Heap) (K : IV → Heap → Prop) : Prop :=
  match o.op with
  | .call ⟨.value (.func g), args, _⟩ => callS P (wantI ops o a) g (args.toList.map (ieval a)) h K
  | .call ⟨.value f, args, _⟩ => callK P (wantI ops o a) (ieval a f) (args.toList.map (ieval a)) h K
  | op => match kindO op with
    | 0 => oK (gOp (wantI ops o a) (opI P (ieval a) op h) h) fun p => K p.1 h
    | 1 => oK (gOp (wantI ops o a) (opI P (ieval a) op h) h) fun p => K p.1 h
    | _ => oK (gOp (wantI ops o a) (opI P (ieval a) op h) h) fun p => K p.1 p.2
theorem IOp.low {P : Program} {op : Op} {w : Option Bool} {a : IAct} {h : Heap} {K : IV → Heap → Prop} (hk : kindO op ≤ 1) (hx : oK (gOp w (opI P (ieval a) op h) h) fun p => K p.1 h) : oK (gOp w (opI P (ieval a) op h) h) fun p => K p.1 p.2 := by
  unfold oK at *
  cases hw : w with
  | none => simp [gOp, hw] at hx
  | some b =>
    cases b with
    | true =>
      cases ho : opI P (ieval a) op h with
      | none => simp [gOp, hw, ho] at hx
      | some p =>
        obtain ⟨v, h'⟩ := p
        simp only [gOp, hw, ho] at hx ⊢
        rw [(opI_mono hk ho (h2 := h) fun _ _ e => e).1]; exact hx
    | false => simp only [gOp, hw] at hx ⊢; exact hx

/-- What is asked of an operation by sight. -/
def chkOp (P : Program) (n : Nat) (o : Oper) : Bool :=
  o.dst.all (· < n) && match o.op with
    | .call ⟨.value (.func g), _, _⟩ => goO P g
    | _ => true

def IPost (F : Frz) (ρ : Lay) (n : Nat) (h : Heap) (w : World) (K : IAct → Heap → Prop) (ra' : Act) (w' : World) : Prop :=
  ∃ a' h' F' ρ', K a' h' ∧ Step F ρ h w F' ρ' h' w' ∧ ARel F' ρ' n a' ra'

theorem VR.undef (F : Frz) (ρ : Lay) : VR F ρ (.tup []) undef := ⟨#[], rfl, by simp [VRs]⟩

theorem chkOp_dst {P : Program} {n : Nat} {o : Oper} (h : chkOp P n o = true) : o.dst.all (· < n) = true := by
  unfold chkOp at h
  simp only [Bool.and_eq_true] at h
  exact h.1

/-- An operation that is wanted, in the model: its value and the memory behind it. -/
theorem IOp.run {P : Program} {n : Nat} {ops : Array Oper} {o : Oper} {a : IAct} {h : Heap} {K : IV → Heap → Prop} (hi : IOp P ops o a h K) (hc : chkOp P n o = true) (hw : wantI ops o a = some true) {F : Frz} {ρ : Lay} {w : World} {ra : Act} (hr : Rel F ρ h w)
    (he : ∀ x, VR F ρ (ieval a x) (ra.eval x)) {Q : Exit → Act → World → Prop} {KR : Act → World → Prop} (hk : ∀ v u h' F' ρ' w', K v h' → Step F ρ h w F' ρ' h' w' → VR F' ρ' v u → KR (ra.put o.dst u) w') : o.wp P ra w KR Q := by
  have other : oK (gOp (wantI ops o a) (opI P (ieval a) o.op h) h) (fun p => K p.1 p.2) → o.wp P ra w KR Q := by
    intro hx
    rw [hw] at hx
    unfold gOp at hx
    cases ho : opI P (ieval a) o.op h with
    | none => simp only [ho, oK] at hx
    | some p =>
      simp only [ho, oK] at hx
      obtain ⟨v, h'⟩ := p
      obtain ⟨nx, u, W, ρ', h1, h2, h3, h4⟩ := opI_run hr (ieval a) ra.eval he o ho
      have hpost := hk v u h' F ρ' W hx h3 h4
      unfold Oper.wp
      rw [h1]
      rcases h2 with rfl | ⟨rfl, rfl⟩
      · exact hpost
      · exact hpost
  have call : ∀ (f : Operand) (args : Array Operand) (ats : Array TypeId) (g : FuncId) (caps : List IV), o.op = .call ⟨.value f, args, ats⟩ → ieval a f = .fn g caps → goO P g = true → CallsI P g (args.toList.map (ieval a) ++ caps) h K → o.wp P ra w KR Q := by
    intro f args ats g caps heq hf hg hcall
    obtain ⟨dst, op, type, pos, after, guard⟩ := o
    simp only at heq
    subst heq
    have hfv := he f
    rw [hf] at hfv
    simp only [VR] at hfv
    obtain ⟨us, hus, hcaps⟩ := hfv
    unfold Oper.wp
    have hrun : (execOp ra.eval { dst, op := .call ⟨.value f, args, ats⟩, type, pos, after, guard }).run P w = .ok (.enter g (args.map ra.eval ++ us)) w := by
      simp only [execOp, resolve, Deferred.ofValue, hus, invoke, Sem.run_bind, Sem.run_pure, Result.andThen_ok]
      rw [goO_run hg]
      simp
    rw [hrun]
    simp only [Oper.upon]
    refine (hcall F ρ w _ hr ?_).mono ?_
    · simp only [Array.toList_append, Array.toList_map]
      exact (VRs.map he _).append hcaps
    · rintro e w' ⟨r, h', v, F', ρ', k, rfl, st, hv⟩
      exact hk r v h' F' ρ' w' k st hv
  unfold IOp at hi
  split at hi
  · rename_i g args ats heq
    rw [hw] at hi
    simp only [callS] at hi
    have hg : goO P g = true := by
      unfold chkOp at hc
      rw [heq] at hc
      simp only [Bool.and_eq_true] at hc
      exact hc.2
    exact call _ _ _ g [] heq rfl hg (by simpa using hi)
  · rename_i f args ats _ heq
    rw [hw] at hi
    simp only [callK] at hi
    split at hi
    · rename_i g caps hf
      exact call _ _ _ g caps heq hf hi.1 hi.2
    · exact hi.elim
  · split at hi
    · rename_i hk; exact other (IOp.low (by omega) hi)
    · rename_i hk; exact other (IOp.low (by omega) hi)
    · exact other hi
/-- An operation that isn't wanted. -/
theorem IOp.skip {P : Program} {ops : Array Oper} {o : Oper} {a : IAct} {h : Heap} {K : IV → Heap → Prop} (hi : IOp P ops o a h K) (hw : wantI ops o a = some false) : K (.tup []) h := by
  unfold IOp at hi
  rw [hw] at hi
  split at hi
  · exact hi
  · exact hi
  · split at hi <;> exact hi
theorem IOp.want {P : Program} {ops : Array Oper} {o : Oper} {a : IAct} {h : Heap} {K : IV → Heap → Prop} (hi : IOp P ops o a h K) : ∃ b, wantI ops o a = some b := by
  cases hw : wantI ops o a with
  | some b => exact ⟨b, rfl⟩
  | none =>
    unfold IOp at hi
    rw [hw] at hi
    split at hi
    · exact hi.elim
    · exact hi.elim
    · split at hi <;> exact hi.elim

/-- The operations of a region, one after the other. -/
def IRun (P : Program) (ops : Array Oper) (K : IAct → Heap → Prop) : List Oper → IAct → Heap → Prop
  | [], a, h => K a h
  | o :: os, a, h => IOp P ops o a h fun v h' => IRun P ops K os (iput a o.dst v) h'

theorem IPost.trans {F F1 : Frz} {ρ ρ1 : Lay} {n : Nat} {h h1 : Heap} {w w1 : World} {K : IAct → Heap → Prop} {ra' : Act} {w' : World} (s : Step F ρ h w F1 ρ1 h1 w1) (p : IPost F1 ρ1 n h1 w1 K ra' w') : IPost F ρ n h w K ra' w' := by
  obtain ⟨a', h', F', ρ', k, st, ar⟩ := p
  exact ⟨a', h', F', ρ', k, s.trans st, ar⟩

theorem IRun.run {P : Program} {n : Nat} {ops : Array Oper} (hops : ∀ o ∈ ops.toList, o.dst.all (· < n) = true) {K : IAct → Heap → Prop} {Q : Exit → Act → World → Prop} : ∀ (l : List Oper) (a : IAct) (h : Heap), (∀ o ∈ l, chkOp P n o = true) → IRun P ops K l a h →
    ∀ {F : Frz} {ρ : Lay} {w : World} {ra : Act}, Rel F ρ h w → ARel F ρ n a ra → (∀ ra' w', IPost F ρ n h w K ra' w' → Q .normal ra' w') → wpList P ops Q l ra w
  | [], a, h, hl, hi, F, ρ, w, ra, hr, ar, hQ => by
    exact wpList_nil (hQ _ _ ⟨a, h, F, ρ, hi, Step.refl hr, ar⟩)
  | o :: os, a, h, hl, hi, F, ρ, w, ra, hr, ar, hQ => by
    simp only [IRun] at hi
    have hd := hl o (by simp)
    have hl' : ∀ o' ∈ os, chkOp P n o' = true := fun o' h' => hl o' (by simp [h'])
    refine wpList_step fun K' hK' => ?_
    obtain ⟨b, hw⟩ := hi.want
    rw [wantI_run ar hw hops]
    cases b with
    | true =>
      simp only [if_true]
      refine IOp.run hi hd hw hr ar.eval fun v u h' F' ρ' w' hk st hv => ?_
      exact hK' _ _ (IRun.run hops os _ h' hl' hk st.rel ((ar.step hr st).put (chkOp_dst hd) hv) fun ra' w' p => hQ _ _ (p.trans st))
    | false =>
      simp only [Bool.false_eq_true, if_false]
      exact hK' _ _ (IRun.run hops os _ h hl' (hi.skip hw) hr (ar.put (chkOp_dst hd) (VR.undef F ρ)) hQ)

/-! ### code -/
inductive IExit where
  | normal | exit (id : Nat) | ret
def IExit.to : IExit → Exit
  | .normal => .normal
  | .exit id => .exit id
  | .ret => .ret

def CPost (F : Frz) (ρ : Lay) (n : Nat) (h : Heap) (w : World) (Q : IExit → IAct → Heap → Prop) (e : Exit) (ra' : Act) (w' : World) : Prop :=
  ∃ ie a' h' F' ρ', Q ie a' h' ∧ e = ie.to ∧ Step F ρ h w F' ρ' h' w' ∧ ARel F' ρ' n a' ra'
theorem CPost.trans {F F1 : Frz} {ρ ρ1 : Lay} {n : Nat} {h h1 : Heap} {w w1 : World} {Q : IExit → IAct → Heap → Prop} {e : Exit} {ra' : Act} {w' : World} (p : CPost F1 ρ1 n h1 w1 Q e ra' w') (s : Step F ρ h w F1 ρ1 h1 w1) : CPost F ρ n h w Q e ra' w' := by
  obtain ⟨ie, a', h', F', ρ', k, he, st, ar⟩ := p
  exact ⟨ie, a', h', F', ρ', k, he, s.trans st, ar⟩

def IWp (P : Program) (n : Nat) (c : Code) (Q : IExit → IAct → Heap → Prop) (a : IAct) (h : Heap) : Prop :=
  ∀ (F : Frz) (ρ : Lay) (w : World) (ra : Act), Rel F ρ h w → ARel F ρ n a ra → c.wp P (CPost F ρ n h w Q) ra w

section
variable {P : Program} {n : Nat} {Q : IExit → IAct → Heap → Prop} {a : IAct} {h : Heap}

theorem IWp.mono {c : Code} {Q' : IExit → IAct → Heap → Prop} (hc : IWp P n c Q a h) (hq : ∀ e a' h', Q e a' h' → Q' e a' h') : IWp P n c Q' a h :=
  fun F ρ w ra hr ar => wp_mono (hc F ρ w ra hr ar) fun _ _ _ ⟨ie, a', h', F', ρ', k, rest⟩ => ⟨ie, a', h', F', ρ', hq _ _ _ k, rest⟩

theorem IWp.skip (hq : Q .normal a h) : IWp P n .skip Q a h := fun F ρ w ra hr ar => wp_skip ⟨.normal, a, h, F, ρ, hq, rfl, Step.refl hr, ar⟩
theorem IWp.exit {id : Nat} (hq : Q (.exit id) a h) : IWp P n (.exit id) Q a h := fun F ρ w ra hr ar => wp_exit ⟨.exit id, a, h, F, ρ, hq, rfl, Step.refl hr, ar⟩
theorem IWp.ret (hq : Q .ret a h) : IWp P n .ret Q a h := fun F ρ w ra hr ar => wp_ret ⟨.ret, a, h, F, ρ, hq, rfl, Step.refl hr, ar⟩

/-- Behind a normal end: 'next'; else Q. -/
def iThen (next : IAct → Heap → Prop) (Q : IExit → IAct → Heap → Prop) : IExit → IAct → Heap → Prop
  | .normal, a, h => next a h
  | e, a, h => Q e a h
theorem IWp.seq {x y : Code} (hx : IWp P n x (iThen (IWp P n y Q) Q) a h) : IWp P n (.seq x y) Q a h := by
  intro F ρ w ra hr ar
  refine wp_seq (Code.wp_mono ?_ (hx F ρ w ra hr ar))
  rintro e ra1 w1 ⟨ie, a1, h1, F1, ρ1, k, rfl, st, ar1⟩
  cases ie with
  | normal => exact Code.wp_mono (fun e ra2 w2 p => p.trans st) (k F1 ρ1 w1 ra1 st.rel ar1)
  | exit id => exact ⟨.exit id, a1, h1, F1, ρ1, k, rfl, st, ar1⟩
  | ret => exact ⟨.ret, a1, h1, F1, ρ1, k, rfl, st, ar1⟩
theorem IWp.cond {c : Operand} {x y : Code} {t : Bool} (hc : ieval a c = .bool t) (hx : t = true → IWp P n x Q a h) (hy : t = false → IWp P n y Q a h) : IWp P n (.cond c x y) Q a h := by
  intro F ρ w ra hr ar
  have hv := ar.eval c
  rw [hc] at hv
  simp only [VR] at hv
  refine wp_cond hv ?_
  cases t with
  | true => exact hx rfl F ρ w ra hr ar
  | false => exact hy rfl F ρ w ra hr ar
def iBlock (id : Nat) (Q : IExit → IAct → Heap → Prop) : IExit → IAct → Heap → Prop
  | .exit id', a, h => if id' = id then Q .normal a h else Q (.exit id') a h
  | e, a, h => Q e a h
theorem IWp.block {id : Nat} {c : Code} (hc : IWp P n c (iBlock id Q) a h) : IWp P n (.block id c) Q a h := by
  intro F ρ w ra hr ar
  refine wp_block (Code.wp_mono ?_ (hc F ρ w ra hr ar))
  rintro e ra1 w1 ⟨ie, a1, h1, F1, ρ1, k, rfl, st, ar1⟩
  cases ie with
  | normal => exact ⟨.normal, a1, h1, F1, ρ1, k, rfl, st, ar1⟩
  | ret => exact ⟨.ret, a1, h1, F1, ρ1, k, rfl, st, ar1⟩
  | exit id' =>
    simp only [iBlock] at k
    simp only [IExit.to, Exit.inBlock]
    split
    · rename_i hid; rw [if_pos hid] at k; exact ⟨.normal, a1, h1, F1, ρ1, k, rfl, st, ar1⟩
    · rename_i hid; rw [if_neg hid] at k; exact ⟨.exit id', a1, h1, F1, ρ1, k, rfl, st, ar1⟩
theorem IWp.region {id : Nat} {ops : Array Oper} (hd : ops.toList.all (chkOp P n) = true) (hi : IRun P ops (fun a' h' => Q .normal a' h') ops.toList a h) : IWp P n (.region id ops false) Q a h := by
  intro F ρ w ra hr ar
  have hd' : ∀ o ∈ ops.toList, chkOp P n o = true := fun o ho => List.all_eq_true.1 hd o ho
  refine wp_region_list (IRun.run (fun o ho => chkOp_dst (hd' o ho)) ops.toList a h hd' hi hr ar ?_)
  rintro ra' w' ⟨a', h', F', ρ', k, st, ar'⟩
  exact ⟨.normal, a', h', F', ρ', k, rfl, st, ar'⟩

/-- A loop, at the begin of a round. -/
def ILoop (P : Program) (n : Nat) (c : Code) (Q : IExit → IAct → Heap → Prop) (a : IAct) (h : Heap) : Prop :=
  ∀ (F : Frz) (ρ : Lay) (w : World) (ra : Act), Rel F ρ h w → ARel F ρ n a ra → ∀ (b : Frame) (k : List Item) (cs : List Frame),
    ∃ e ra' w', CPost F ρ n h w Q e ra' w' ∧ Arrives P (lone (b.at ra (.code c :: .inLoop c :: k)) cs w) b k cs e ra' w'
theorem ILoop.unfold {c : Code} (hc : IWp P n c (iThen (ILoop P n c Q) Q) a h) : ILoop P n c Q a h := by
  intro F ρ w ra hr ar b k cs
  obtain ⟨e, ra2, w2, ⟨ie, a2, h2, F2, ρ2, hq, rfl, st2, ar2⟩, harr⟩ := hc F ρ w ra hr ar b (.inLoop c :: k) cs
  cases ie with
  | normal =>
    obtain ⟨e, a', w', hp, harr2⟩ := hq F2 ρ2 w2 ra2 st2.rel ar2 b k cs
    exact ⟨e, a', w', hp.trans st2, .of_steps (Steps.trans harr (.one step_inLoop)) harr2⟩
  | exit id => exact ⟨_, ra2, w2, ⟨.exit id, a2, h2, F2, ρ2, hq, rfl, st2, ar2⟩, .pass (x := .inLoop c) rfl (fun _ _ => .inl (by simp [IExit.to])) harr⟩
  | ret => exact ⟨_, ra2, w2, ⟨.ret, a2, h2, F2, ρ2, hq, rfl, st2, ar2⟩, .pass (x := .inLoop c) rfl (fun _ _ => .inl (by simp [IExit.to])) harr⟩
theorem IWp.loop {c : Code} (hl : ILoop P n c Q a h) : IWp P n (.loop c) Q a h := by
  intro F ρ w ra hr ar b k cs
  obtain ⟨e, a', w', hp, harr⟩ := hl F ρ w ra hr ar b k cs
  exact ⟨e, a', w', hp, .of_steps (.one step_loop) harr⟩
end

/-! ### functions -/
def resI (P : Program) (a : IAct) (h : Heap) : List ResultVar → Option (List IV)
  | [] => some []
  | .tmp t :: rs => (resI P a h rs).map (a t :: ·)
  | .cell t ty :: rs => match loadI P ty (a t) h with
    | some v => (resI P a h rs).map (v :: ·)
    | none => none
def tupI : List IV → IV
  | [v] => v
  | vs => .tup vs
/-- What a function returns. -/
def retI (P : Program) (a : IAct) (h : Heap) (rs : List ResultVar) : Option IV := (resI P a h rs).map tupI
theorem loadI_var {P : Program} {F : Frz} {ρ : Lay} {h : Heap} {w : World} (hr : Rel F ρ h w) {t : TypeId} {p v : IV} {u : Value} (hp : VR F ρ p u) (hl : loadI P t p h = some v) :
    ∃ x, (do loadVar t (← asAddr u) : Sem Value).run P w = .ok x w ∧ VR F ρ v x := by
  obtain ⟨x, h1, h2⟩ := loadI_run hr hp hl
  refine ⟨x, ?_, h2⟩
  cases hc : cellsOf h p with
  | none => simp [loadI, hc] at hl
  | some cs =>
    obtain ⟨R, off, rfl, _⟩ := cellsOf_at hr hp hc
    simpa [Instr.loadAt, Instr.sureAddr, asAddr] using h1
theorem resI_run {P : Program} {F : Frz} {ρ : Lay} {h : Heap} {w : World} (hr : Rel F ρ h w) {n : Nat} {a : IAct} {ra : Act} (ar : ARel F ρ n a ra) : ∀ (rs : List ResultVar) (vs : List IV), resI P a h rs = some vs →
    ∃ us, (rs.mapM fun r => match r with | .tmp t => pure (ra.tmps.getD t undef) | .cell b t => do loadVar t (← asAddr (ra.tmps.getD b undef)) : Sem (List Value)).run P w = .ok us w ∧ VRs F ρ vs us
  | [], vs, h => by simp [resI] at h; subst h; exact ⟨[], by simp, by simp [VRs]⟩
  | .tmp t :: rs, vs, h => by
    simp only [resI, Option.map_eq_some_iff] at h
    obtain ⟨vs', h, rfl⟩ := h
    obtain ⟨us, h1, h2⟩ := resI_run (w := w) hr ar rs vs' h
    refine ⟨ra.tmps.getD t undef :: us, ?_, _, us, rfl, ar.tmps t, h2⟩
    rw [List.mapM_cons]
    simp only [Sem.run_bind, Sem.run_pure, Result.andThen_ok]
    rw [h1]
    rfl
  | .cell b t :: rs, vs, h => by
    simp only [resI] at h
    split at h
    · rename_i v hv
      simp only [Option.map_eq_some_iff] at h
      obtain ⟨vs', h, rfl⟩ := h
      obtain ⟨us, h1, h2⟩ := resI_run (w := w) hr ar rs vs' h
      obtain ⟨x, h3, h4⟩ := loadI_var hr (ar.tmps b) hv
      refine ⟨x :: us, ?_, _, us, rfl, h4, h2⟩
      rw [List.mapM_cons]
      simp only [Sem.run_bind] at h3 ⊢
      rw [h3]
      simp only [Result.andThen_ok]
      rw [h1]
      rfl
    · cases h
theorem retI_run {P : Program} {F : Frz} {ρ : Lay} {h : Heap} {w : World} (hr : Rel F ρ h w) {n : Nat} {a : IAct} {ra : Act} (ar : ARel F ρ n a ra) {fn : Func} {v : IV} (hv : retI P a h fn.results.toList = some v) : ∃ u, (results fn ra.tmps).run P w = .ok u w ∧ VR F ρ v u := by
  unfold retI at hv
  simp only [Option.map_eq_some_iff] at hv
  obtain ⟨vs, hv, rfl⟩ := hv
  obtain ⟨us, h1, h2⟩ := resI_run (P := P) (w := w) hr ar _ vs hv
  have hm : (results fn ra.tmps).run P w = .ok (if h : us.toArray.size = 1 then us.toArray[0] else .tuple us.toArray) w := by
    unfold results
    rw [Array.mapM_eq_mapM_toList]
    simp only [bind_map_left, Sem.run_bind]
    erw [h1]
    rfl
  have hl := h2.length
  by_cases h1' : us.length = 1
  · match vs, us, hl, h2, hm with
    | [v], [u], _, h2, hm =>
      simp only [VRs] at h2
      obtain ⟨u', us', he, h3, _⟩ := h2
      cases he
      exact ⟨u, by simpa using hm, h3⟩
  · rw [dif_neg (by simpa using h1')] at hm
    refine ⟨_, hm, ?_⟩
    have : tupI vs = .tup vs := by
      match vs, hl with
      | [], _ => rfl
      | [x], hl => exact absurd hl.symm h1'
      | _ :: _ :: _, _ => rfl
    rw [this]
    exact ⟨us.toArray, rfl, by simpa using h2⟩
/-- The frame at the begin. -/
def actI (args : List IV) : IAct := fun t => args.getD t (.tup [])

/-- A function's contract from its body. -/
theorem CallsI.of {P : Program} {f : FuncId} {fn : Func} {c : Code} {args : List IV} {h : Heap} {K : IV → Heap → Prop} (hf : P.funcs[f]? = some fn) (hb : fn.body = some c) (hn : args.length ≤ fn.ntmps)
    (hw : IWp P fn.ntmps c (fun e a' h' => (e = .normal ∨ e = .ret) ∧ ∃ r, retI P a' h' fn.results.toList = some r ∧ K r h') (actI args) h) : CallsI P f args h K := by
  intro F ρ w us hr hv
  have hl := hv.length
  simp only [Array.length_toList] at hl
  refine calls_of_wp hf hb (Code.wp_mono ?_ (hw F ρ w _ hr ⟨by simp; omega, rfl, fun t => ?_⟩))
  · rintro e ra w' ⟨ie, a', h', F', ρ', ⟨hie, r, hret, hk⟩, rfl, st, ar⟩
    obtain ⟨u, h1, h2⟩ := retI_run (P := P) (w := w') st.rel ar hret
    have hp : ∃ v, (results fn ra.tmps).run P w' = .ok v w' ∧ ∃ r h' v' F' ρ', K r h' ∧ Ending.returned v = .returned v' ∧ Step F ρ h w F' ρ' h' w' ∧ VR F' ρ' r v' := ⟨u, h1, r, h', u, F', ρ', hk, rfl, st, h2⟩
    rcases hie with rfl | rfl
    · exact ⟨ar.defers, hp⟩
    · exact ⟨ar.defers, hp⟩
  · unfold actI
    by_cases ht : t < us.size
    · obtain ⟨u, hu1, hu2⟩ := hv.get (j := t) (v := args[t]'(by omega)) (by simp [show t < args.length by omega])
      rw [Array.getElem?_toList] at hu1
      have : args.getD t (.tup []) = args[t]'(by omega) := by simp [List.getD, show t < args.length by omega]
      rw [this]
      simp only [Array.getD_eq_getD_getElem?]
      rw [Array.getElem?_append_left ht, hu1]
      exact hu2
    · have : args.getD t (.tup []) = .tup [] := by simp [List.getD, show args.length ≤ t by omega]
      rw [this]
      simp only [Array.getD_eq_getD_getElem?]
      rw [Array.getElem?_append_right (by omega)]
      by_cases ht2 : t - us.size < fn.ntmps - us.size
      · simp [ht2]; exact VR.undef F ρ
      · simp [ht2]; exact VR.undef F ρ

end Go.Ideal
