/- Regions whose order is open, continued: the evaluation in one order, and what it is held to. -/
import Derived.Test.YtjfpggiglgkfeaaDIA
set_option linter.unusedVariables false
set_option linter.unusedSimpArgs false
namespace Go.Ideal

def preB (B : List Nat) (i j : Nat) : Bool := (B.getD j 0).testBit i
def fillP (idOf : Nat → Nat) : List (Nat × Blk) → Heap → Heap
  | [], h => h
  | p :: ps, h => fillP idOf ps (h.set (idOf p.1) (some p.2))
/-- What was looked up before operation j must read the same behind it, if it may be looked up later. -/
def oblI (P : Program) (ops : Array Oper) (B : List Nat) (j : Nat) (h : Heap) : List (Nat × IAct × IV) → Prop
  | [] => True
  | q :: qs => if preB B q.1 j then oblI P ops B j h qs else
    (match ops[q.1]? with | some o => (match wantI ops o q.2.1 with | some true => opI P (ieval q.2.1) o.op h = some (q.2.2, h) | _ => True) | none => True) ∧ oblI P ops B j h qs

def DRun (P : Program) (ops : Array Oper) (B : List Nat) (idOf : Nat → Nat) (K : IAct → Heap → Prop) : List Nat → IAct → List (Nat × IAct × IV) → List (Nat × Blk) → Heap → Prop
  | [], a, _, pend, h => K a (fillP idOf pend h)
  | j :: js, a, lds, pend, h =>
    match ops[j]? with
    | none => False
    | some o =>
      match kindO o.op with
      | 0 => oK (gOp (wantI ops o a) (opI P (ieval a) o.op h) h) fun p => DRun P ops B idOf K js (iput a o.dst p.1) lds pend h
      | 1 => oK (gOp (wantI ops o a) (opI P (ieval a) o.op h) h) fun p => DRun P ops B idOf K js (iput a o.dst p.1) ((j, a, p.1) :: lds) pend h
      | 2 => match wantI ops o a with
        | some true => oK (newI P (ieval a) o.op) fun p => DRun P ops B idOf K js (iput a o.dst (mkV p.1 (idOf j))) lds (pend ++ [(j, p.2)]) h
        | some false => DRun P ops B idOf K js (iput a o.dst (.tup [])) lds pend h
        | none => False
      | 3 => IOp P ops o a (fillP idOf (pend.filter fun p => preB B p.1 j) h) fun v h' =>
          oblI P ops B j h' lds ∧ DRun P ops B idOf K js (iput a o.dst v) lds (pend.filter fun p => !preB B p.1 j) h'
      | _ => False

/-! ### frames that know some of the operations' values -/
def AX (ops : Array Oper) (a0 : IAct) (vals : Nat → IV) (X : Nat → Bool) : Nat → IAct
  | 0 => a0
  | i + 1 => fun t => if X i = true ∧ (ops[i]?).bind (·.dst) = some t then vals i else AX ops a0 vals X i t

structure DChk (P : Program) (n : Nat) (ops : Array Oper) (B : List Nat) : Prop where
  op : ∀ (j : Nat) (o : Oper), ops[j]? = some o → chkOp P n o = true
  edge : ∀ (j : Nat) (o : Oper), ops[j]? = some o → ∀ e ∈ o.after, Region.binds .any e = true → e.on < j
  sound : ∀ (j : Nat) (o : Oper) (i : Nat), ops[j]? = some o → preB B i j = true → ∃ e ∈ o.after, Region.binds .any e = true ∧ (e.on = i ∨ preB B i e.on = true)
  trans : ∀ i j k, k < ops.size → preB B i j = true → preB B j k = true → preB B i k = true
  apart : ∀ (i j : Nat) (oi oj : Oper), i < j → ops[i]? = some oi → ops[j]? = some oj → oi.apart ops oj = true ∨ preB B i j = true
  eff : ∀ (i j : Nat) (oi oj : Oper), i < j → ops[i]? = some oi → ops[j]? = some oj → kindO oi.op = 3 → kindO oj.op = 3 → preB B i j = true
  kind : ∀ (j : Nat) (o : Oper), ops[j]? = some o → kindO o.op ≤ 3

section
variable {P : Program} {n : Nat} {ops : Array Oper} {B : List Nat} {a0 : IAct} {vals : Nat → IV}

theorem DChk.lt (c : DChk P n ops B) : ∀ (j : Nat), j < ops.size → ∀ i, preB B i j = true → i < j := by
  intro j
  induction j using Nat.strongRecOn with
  | _ j ih =>
    intro hj i hp
    obtain ⟨e, he, hb, h | h⟩ := c.sound j _ i (Array.getElem?_eq_getElem hj) hp
    · rw [← h]; exact c.edge j _ (Array.getElem?_eq_getElem hj) e he hb
    · have h1 := c.edge j _ (Array.getElem?_eq_getElem hj) e he hb
      have := ih e.on h1 (by omega) i h
      omega

def Clos (ops : Array Oper) (B : List Nat) (X : Nat → Bool) : Prop := ∀ j, X j = true → j < ops.size ∧ ∀ i, preB B i j = true → X i = true

theorem AX_vals {vals' : Nat → IV} {X : Nat → Bool} (h : ∀ i, X i = true → vals' i = vals i) : ∀ i, AX ops a0 vals' X i = AX ops a0 vals X i
  | 0 => rfl
  | i + 1 => by
    funext t
    simp only [AX, AX_vals h i]
    split
    · rename_i hc; exact h i hc.1
    · rfl
theorem AX_ext {X Y : Nat → Bool} (h : ∀ i, X i = Y i) : ∀ i, AX ops a0 vals X i = AX ops a0 vals Y i
  | 0 => rfl
  | i + 1 => by funext t; simp only [AX, AX_ext h i, h i]

/-- The operations that write a slot that operation j names, and j's own slot, are ordered against j. -/
theorem DChk.writes (c : DChk P n ops B) {i j : Nat} {oi oj : Oper} (hi : ops[i]? = some oi) (hj : ops[j]? = some oj) {t : Tmp} (ht : oi.dst = some t) (hl : t ∈ oj.looksAt ops ∨ oj.dst = some t) (hne : i ≠ j) :
    i < j ∧ preB B i j = true ∨ j < i ∧ preB B j i = true := by
  rcases Nat.lt_or_gt_of_ne hne with hlt | hlt
  · rcases c.apart i j oi oj hlt hi hj with ha | hp
    · obtain ⟨h1, h2, h3⟩ := Oper.apart_spec ha
      rcases hl with hl | hl
      · exact absurd hl (h1 t ht)
      · exact absurd hl (h2 t ht)
    · exact .inl ⟨hlt, hp⟩
  · rcases c.apart j i oj oi hlt hj hi with ha | hp
    · obtain ⟨h1, h2, h3⟩ := Oper.apart_spec ha
      rcases hl with hl | hl
      · exact absurd hl (h3 t ht)
      · exact absurd ht (h2 t hl)
    · exact .inr ⟨hlt, hp⟩

theorem AX_add (c : DChk P n ops B) {X : Nat → Bool} (hX : Clos ops B X) {j : Nat} {o : Oper} (hj : ops[j]? = some o) (hXj : X j = false) (v : IV) :
    AX ops a0 (fun i => if i = j then v else vals i) (fun i => decide (i = j) || X i) ops.size = iput (AX ops a0 vals X ops.size) o.dst v := by
  have hjlt : j < ops.size := (Array.getElem?_eq_some_iff.1 hj).1
  -- below j nothing has changed
  have low : ∀ i, i ≤ j → AX ops a0 (fun i => if i = j then v else vals i) (fun i => decide (i = j) || X i) i = AX ops a0 vals X i := by
    intro i
    induction i with
    | zero => intro _; rfl
    | succ i ih =>
      intro hi
      have hne : i ≠ j := by omega
      funext t
      simp only [AX, ih (by omega), hne, decide_false, Bool.false_or, if_false]
  have high : ∀ i, j < i → i ≤ ops.size → AX ops a0 (fun i => if i = j then v else vals i) (fun i => decide (i = j) || X i) i = iput (AX ops a0 vals X i) o.dst v := by
    intro i
    induction i with
    | zero => intro h; omega
    | succ i ih =>
      intro hi hle
      by_cases he : i = j
      · subst he
        funext t
        simp only [AX, low i (Nat.le_refl _), decide_true, Bool.true_or, hXj, hj, Option.bind_some, true_and, if_true, Bool.false_eq_true, false_and, if_false]
        cases hd : o.dst with
        | none => simp [iput]
        | some d => simp only [iput, Option.some.injEq]; by_cases htd : t = d <;> simp [htd, eq_comm]
      · have ih' := ih (by omega) (by omega)
        funext t
        simp only [AX, ih', he, decide_false, Bool.false_or, if_false]
        by_cases hc : X i = true ∧ (ops[i]?).bind (·.dst) = some t
        · rw [if_pos hc]
          -- then j does not write t
          have hnt : o.dst ≠ some t := by
            intro hd
            obtain ⟨oi, hoi, hdi⟩ := Option.bind_eq_some_iff.1 hc.2
            rcases c.writes hoi hj hdi (.inr hd) he with ⟨h1, _⟩ | ⟨_, h2⟩
            · omega
            · have := (hX i hc.1).2 j h2
              rw [hXj] at this; cases this
          cases hd : o.dst with
          | none => simp [iput, AX, hc]
          | some d =>
            simp only [iput, AX]
            have : t ≠ d := by rintro rfl; exact hnt hd
            rw [if_neg this, if_pos hc]
        · rw [if_neg hc]
          cases hd : o.dst with
          | none => simp [iput, AX, hc]
          | some d => simp only [iput, AX]; by_cases htd : t = d <;> simp [htd, hc]
  exact high ops.size hjlt (Nat.le_refl _)

theorem AX_read (c : DChk P n ops B) {X Y : Nat → Bool} (hX : Clos ops B X) (hY : Clos ops B Y) {j : Nat} {o : Oper} (hj : ops[j]? = some o) (hXj : X j = false) (hYj : Y j = false)
    (hpX : ∀ i, preB B i j = true → X i = true) (hpY : ∀ i, preB B i j = true → Y i = true) {t : Tmp} (ht : t ∈ o.looksAt ops) : ∀ i, AX ops a0 vals X i t = AX ops a0 vals Y i t
  | 0 => rfl
  | i + 1 => by
    simp only [AX, AX_read c hX hY hj hXj hYj hpX hpY ht i]
    by_cases hw : (ops[i]?).bind (·.dst) = some t
    · have hXY : X i = Y i := by
        by_cases he : i = j
        · rw [he, hXj, hYj]
        · obtain ⟨oi, hoi, hdi⟩ := Option.bind_eq_some_iff.1 hw
          rcases c.writes hoi hj hdi (.inl ht) he with ⟨_, h2⟩ | ⟨_, h2⟩
          · rw [hpX i h2, hpY i h2]
          · cases hx : X i with
            | true => have := (hX i hx).2 j h2; rw [hXj] at this; cases this
            | false => cases hy : Y i with
              | true => have := (hY i hy).2 j h2; rw [hYj] at this; cases this
              | false => rfl
      rw [hXY]
    · simp [hw]
end

theorem looks_eval {ops : Array Oper} {o : Oper} {a a' : IAct} (h : ∀ t ∈ o.looksAt ops, a t = a' t) : ∀ x ∈ o.op.operands, ieval a x = ieval a' x := by
  intro x hx
  cases x with
  | tmp t => exact h t (List.mem_append_left _ (List.mem_filterMap.2 ⟨.tmp t, by simpa using hx, rfl⟩))
  | _ => rfl
theorem looks_want {ops : Array Oper} {o : Oper} {a a' : IAct} (h : ∀ t ∈ o.looksAt ops, a t = a' t) : wantI ops o a = wantI ops o a' := by
  unfold wantI
  cases hg : o.guard with
  | none => rfl
  | some gw =>
    obtain ⟨g, want⟩ := gw
    simp only
    cases ht : (ops[g]?).bind (·.dst) with
    | none => rfl
    | some t => simp only; rw [h t (by simp [Oper.looksAt, hg, ht])]
theorem looks_new {P : Program} {ops : Array Oper} {o : Oper} {a a' : IAct} (h : ∀ t ∈ o.looksAt ops, a t = a' t) {m : Option Nat} {k : Blk} (hn : newI P (ieval a) o.op = some (m, k)) : newI P (ieval a') o.op = some (m, k) := by
  have he := looks_eval h
  have h1 := newI_op hn []
  rw [opI_congr he] at h1
  -- newI is read off opI
  have : newI P (ieval a') o.op = newI P (ieval a) o.op := by
    cases hop : o.op <;> simp only [newI] <;> rw [hop] at he
    case box t x => rw [he x (by simp [Op.operands])]
    case buildSlice t n ps =>
      have : ps.toList.map (fun p => (p.1, ieval a' p.2)) = ps.toList.map (fun p => (p.1, ieval a p.2)) := List.map_congr_left fun p hm => by
        rw [he p.2 (by simp only [Op.operands]; simp; exact ⟨p.1, by simpa using hm⟩)]
      rw [this]
    case makeSlice t l c => rw [he l (by simp [Op.operands]), he c (by simp [Op.operands])]
  rw [this]; exact hn

/-! ### laying back what was hidden -/
theorem fillP_length (idOf : Nat → Nat) : ∀ (ps : List (Nat × Blk)) (h : Heap), (fillP idOf ps h).length = h.length
  | [], _ => rfl
  | p :: ps, h => by simp [fillP, fillP_length idOf ps]
/-- Distinct numbers: what lies at one of them, and at another. -/
theorem fillP_get (idOf : Nat → Nat) : ∀ (ps : List (Nat × Blk)) (h : Heap) (b : Nat) (k : Blk), (fillP idOf ps h)[b]? = some (some k) → (∃ p ∈ ps, idOf p.1 = b ∧ p.2 = k) ∨ h[b]? = some (some k) ∧ ∀ p ∈ ps, idOf p.1 ≠ b
  | [], h, b, k, e => .inr ⟨e, by simp⟩
  | p :: ps, h, b, k, e => by
    simp only [fillP] at e
    rcases fillP_get idOf ps _ b k e with ⟨q, hq, h1, h2⟩ | ⟨h1, h2⟩
    · exact .inl ⟨q, by simp [hq], h1, h2⟩
    · by_cases hb : idOf p.1 = b
      · subst hb
        rw [List.getElem?_set] at h1
        simp only [if_true] at h1
        split at h1
        · cases h1; exact .inl ⟨p, by simp, rfl, rfl⟩
        · cases h1
      · rw [List.getElem?_set_ne hb] at h1
        exact .inr ⟨h1, fun q hq => by rcases List.mem_cons.1 hq with rfl | hq; exact hb; exact h2 q hq⟩
theorem fillP_other (idOf : Nat → Nat) : ∀ (ps : List (Nat × Blk)) (h : Heap) (b : Nat), (∀ p ∈ ps, idOf p.1 ≠ b) → (fillP idOf ps h)[b]? = h[b]?
  | [], _, _, _ => rfl
  | p :: ps, h, b, hb => by
    simp only [fillP]
    rw [fillP_other idOf ps _ b fun q hq => hb q (by simp [hq]), List.getElem?_set_ne (hb p (by simp))]
theorem fillP_at (idOf : Nat → Nat) : ∀ (ps : List (Nat × Blk)) (h : Heap), (ps.map fun p => idOf p.1).Nodup → ∀ p ∈ ps, idOf p.1 < h.length → (fillP idOf ps h)[idOf p.1]? = some (some p.2)
  | q :: ps, h, hn, p, hp, hlt => by
    simp only [fillP]
    simp only [List.map_cons, List.nodup_cons] at hn
    rcases List.mem_cons.1 hp with rfl | hp
    · rw [fillP_other idOf ps _ _ fun q hq e => hn.1 (List.mem_map.2 ⟨q, hq, e⟩)]
      simp [hlt]
    · exact fillP_at idOf ps _ hn.2 p hp (by simpa using hlt)

theorem Step.revive {F0 F F' : Frz} {ρ0 ρ ρ' : Lay} {h0 H h1 h' : Heap} {w0 w w' : World} (s0 : Step F0 ρ0 h0 w0 F ρ H w) (hlen : h1.length = H.length) (hh : HLe h1 H) (s : Step F ρ h1 w F' ρ' h' w') (idOf : Nat → Nat) (ps : List (Nat × Blk))
    (hps : ∀ p ∈ ps, H[idOf p.1]? = some (some p.2) ∧ ∀ k, h1[idOf p.1]? ≠ some (some k)) : Step F0 ρ0 h0 w0 F' ρ' (fillP idOf ps h') w' := by
  have hr := s0.rel
  obtain ⟨hr1, himg⟩ := hr.hide hlen hh
  -- the real block of a hidden block is no live block's
  have away : ∀ p ∈ ps, ∀ l, ρ (idOf p.1) = some l → ¬ Img h1 ρ l.R := by
    rintro p hp l hl ⟨b, k, l', e, e1, e2⟩
    have := hr.inj b (idOf p.1) k p.2 l' l (hh b k e) (hps p hp).1 e1 hl e2
    subst this
    exact (hps p hp).2 k e
  have key : ∀ p ∈ ps, ∃ l, ρ (idOf p.1) = some l ∧ ρ' (idOf p.1) = some l ∧ F' l.R = none ∧ BlkRel F' ρ' p.2 l w' ∧ l.R < w.heap.size := by
    intro p hp
    obtain ⟨l, hl, hF, cs, g1, g2, g3, g4, g5⟩ := hr.liv _ _ (hps p hp).1
    have hlt : l.R < w.heap.size := (Array.getElem?_eq_some_iff.1 g1).1
    refine ⟨l, hl, s.fρ _ _ hl, ?_, ⟨cs, by rw [s.frame l.R hlt (away p hp l hl)]; exact g1, g2, g3, g4, RowsAt.move (n := H.length) s.fF (fun b l _ e => s.fρ b l e) _ _ _ _ _ (RowsAt.bel hr.low _ _ _ _ g5) (fun _ _ e => e) g5⟩, hlt⟩
    cases hF' : F' l.R with
    | none => rfl
    | some o =>
      rcases s.newF l.R o hF' with h | h | h
      · rw [hF] at h; cases h
      · omega
      · exact absurd h (away p hp l hl)
  refine ⟨s0.fF.trans s.fF, fun b l e => s.fρ b l (s0.fρ b l e), ⟨s.rel.frz, ?_, ?_, fun b l e => by rw [fillP_length]; exact s.rel.low b l e⟩, ?_, ?_, ?_, ?_, ?_, Nat.le_trans s0.size s.size, s.os.trans s0.os, s.tape.trans s0.tape, s.output.trans s0.output⟩
  · intro b k e
    rcases fillP_get idOf ps h' b k e with ⟨p, hp, rfl, rfl⟩ | ⟨e, _⟩
    · obtain ⟨l, _, h2, h3, h4, _⟩ := key p hp
      exact ⟨l, h2, h3, h4⟩
    · exact s.rel.liv b k e
  · have half : ∀ b b' k k' l l', (fillP idOf ps h')[b]? = some (some k) → (fillP idOf ps h')[b']? = some (some k') → ρ' b = some l → ρ' b' = some l' → l.R = l'.R → (∃ p ∈ ps, idOf p.1 = b ∧ p.2 = k) → b = b' := by
      rintro _ b' k k' l l' e e' h1' h2' h3 ⟨p, hp, rfl, rfl⟩
      obtain ⟨lp, q1, q2, q3, q4, q5⟩ := key p hp
      rw [q2] at h1'; cases h1'
      rcases fillP_get idOf ps h' b' k' e' with ⟨p', hp', rfl, rfl⟩ | ⟨f', _⟩
      · obtain ⟨lp', r1, r2, r3, r4, r5⟩ := key p' hp'
        rw [r2] at h2'; cases h2'
        exact hr.inj _ _ p.2 p'.2 l l' (hps p hp).1 (hps p' hp').1 q1 r1 h3
      · have : Img h1 ρ l.R := s.img l.R ⟨b', k', l', f', h2', h3.symm⟩ q5
        exact absurd this (away p hp l q1)
    intro b b' k k' l l' e e' h1' h2' h3
    rcases fillP_get idOf ps h' b k e with hp | ⟨f, _⟩
    · exact half b b' k k' l l' e e' h1' h2' h3 hp
    · rcases fillP_get idOf ps h' b' k' e' with hp | ⟨f', _⟩
      · exact (half b' b k' k l' l e' e h2' h1' h3.symm hp).symm
      · exact s.rel.inj b b' k k' l l' f f' h1' h2' h3
  · intro i hi hn
    have h1 : ¬ Img h1 ρ i := fun k => hn (s0.img i (himg i k) hi)
    rw [s.frame i (Nat.lt_of_lt_of_le hi s0.size) h1, s0.frame i hi hn]
  · rintro i ⟨b, k, l, e, e1, e2⟩ hi
    rcases fillP_get idOf ps h' b k e with ⟨p, hp, rfl, rfl⟩ | ⟨f, _⟩
    · obtain ⟨lp, q1, q2, _⟩ := key p hp
      rw [q2] at e1; cases e1
      exact s0.img i ⟨_, p.2, l, (hps p hp).1, q1, e2⟩ hi
    · exact s0.img i (himg i (s.img i ⟨b, k, l, f, e1, e2⟩ (Nat.lt_of_lt_of_le hi s0.size))) hi
  · intro R o e
    rcases s.newF R o e with h | h | h
    · exact s0.newF R o h
    · exact .inr (.inl (Nat.le_trans s0.size h))
    · by_cases hR : R < w0.heap.size
      · exact .inr (.inr (s0.img R (himg R h) hR))
      · exact .inr (.inl (by omega))
  · rw [fillP_length]; have := s0.len; have := s.len; omega
  · intro b l hb e
    have := s0.len
    exact s0.old b l hb (s.old b l (by omega) e)

end Go.Ideal
