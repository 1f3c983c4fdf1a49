/- Regions whose order is open, concluded: one evaluation stands for every order. -/
import Derived.Test.YtjfpggiglgkfeaaDIB
set_option linter.unusedVariables false
set_option linter.unusedSimpArgs false
namespace Go.Ideal

section
variable {P : Program} {n : Nat} {ops : Array Oper} {B : List Nat} {idOf : Nat → Nat} {K : IAct → Heap → Prop} {h0 : Heap} {a0 : IAct} {F0 : Frz} {ρ0 : Lay} {w0 : World}

def KnX (ops : Array Oper) (todo : List Nat) (j : Nat) : Bool := decide (j < ops.size) && !todo.contains j
def RA (ops : Array Oper) (B : List Nat) (a0 : IAct) (vals : Nat → IV) (j : Nat) : IAct := AX ops a0 vals (fun i => preB B i j) ops.size

def OrdOk (ops : Array Oper) (B : List Nat) : List Nat → Prop
  | [] => True
  | j :: js => j < ops.size ∧ j ∉ js ∧ (∀ i, preB B i j = true → i ∉ j :: js) ∧ (∀ o, ops[j]? = some o → kindO o.op = 3 → ∀ k ∈ js, preB B j k = true) ∧ OrdOk ops B js

structure DInv (P : Program) (n : Nat) (ops : Array Oper) (B : List Nat) (idOf : Nat → Nat) (K : IAct → Heap → Prop) (h0 : Heap) (a0 : IAct) (F0 : Frz) (ρ0 : Lay) (w0 : World)
    (S : Nat → Bool) (F : Frz) (ρ : Lay) (w : World) (ra : Act) (todo : List Nat) (a : IAct) (lds : List (Nat × IAct × IV)) (pend : List (Nat × Blk)) (h : Heap) (vals : Nat → IV) : Prop where
  clos : Clos ops B S
  known : ∀ j, S j = true → j ∉ todo
  closK : Clos ops B (KnX ops todo)
  ord : OrdOk ops B todo
  aeq : a = AX ops a0 vals (KnX ops todo) ops.size
  ar : ARel F ρ n (AX ops a0 vals S ops.size) ra
  step : Step F0 ρ0 h0 w0 F ρ (fillP idOf (pend.filter fun p => S p.1) h) w
  ids : ∀ (j : Nat) (o : Oper), ops[j]? = some o → kindO o.op = 2 → h0.length ≤ idOf j ∧ idOf j < h.length
  inj : ∀ (i j : Nat) (oi oj : Oper), ops[i]? = some oi → ops[j]? = some oj → kindO oi.op = 2 → kindO oj.op = 2 → idOf i = idOf j → i = j
  dead : ∀ (j : Nat) (o : Oper), ops[j]? = some o → kindO o.op = 2 → (j ∈ todo ∨ ∃ p ∈ pend, p.1 = j) → ∀ k, h[idOf j]? ≠ some (some k)
  free : ∀ (j : Nat) (o : Oper), ops[j]? = some o → kindO o.op = 2 → (j ∈ todo ∨ ∃ p ∈ pend, p.1 = j) → S j = false → ρ (idOf j) = none
  pendOk : ∀ p ∈ pend, p.1 ∉ todo ∧ ∃ o m, ops[p.1]? = some o ∧ kindO o.op = 2 ∧ newI P (ieval (RA ops B a0 vals p.1)) o.op = some (m, p.2) ∧ vals p.1 = mkV m (idOf p.1) ∧ wantI ops o (RA ops B a0 vals p.1) = some true
  pendNd : (pend.map (·.1)).Nodup
  flo : ∀ (j : Nat) (o : Oper), ops[j]? = some o → kindO o.op ≤ 1 → j ∉ todo → S j = false → ∃ b, wantI ops o (RA ops B a0 vals j) = some b ∧ (b = false → vals j = .tup []) ∧ (b = true → opI P (ieval (RA ops B a0 vals j)) o.op h = some (vals j, h))
  new : ∀ (j : Nat) (o : Oper), ops[j]? = some o → kindO o.op = 2 → j ∉ todo → S j = false → wantI ops o (RA ops B a0 vals j) = some false ∧ vals j = .tup [] ∨ ∃ p ∈ pend, p.1 = j
  eff : ∀ (j : Nat) (o : Oper), ops[j]? = some o → kindO o.op = 3 → j ∉ todo → S j = true
  ldsOk : ∀ (j : Nat) (o : Oper), ops[j]? = some o → kindO o.op = 1 → j ∉ todo → S j = false → wantI ops o (RA ops B a0 vals j) = some true → ∃ aj, (j, aj, vals j) ∈ lds ∧ ∀ t ∈ o.looksAt ops, aj t = RA ops B a0 vals j t
  run : DRun P ops B idOf K todo a lds pend h

theorem pre_clos (c : DChk P n ops B) {j : Nat} (hj : j < ops.size) : Clos ops B (fun i => preB B i j) := fun i hi => ⟨by have := c.lt j hj i hi; omega, fun i' hi' => c.trans i' i j hj hi' hi⟩
theorem pre_irr (c : DChk P n ops B) {j : Nat} (hj : j < ops.size) : preB B j j = false := by
  cases h : preB B j j with
  | false => rfl
  | true => exact absurd (c.lt j hj j h) (Nat.lt_irrefl j)

/-- The next operation in the evaluation's order, if it is no act on memory. -/
theorem DInv.next (c : DChk P n ops B) {S : Nat → Bool} {F : Frz} {ρ : Lay} {w : World} {ra : Act} {j : Nat} {js : List Nat} {a : IAct} {lds : List (Nat × IAct × IV)} {pend : List (Nat × Blk)} {h : Heap} {vals : Nat → IV}
    (I : DInv P n ops B idOf K h0 a0 F0 ρ0 w0 S F ρ w ra (j :: js) a lds pend h vals) {o : Oper} (hj : ops[j]? = some o) (hk : kindO o.op ≠ 3) :
    ∃ a' lds' pend' vals', DInv P n ops B idOf K h0 a0 F0 ρ0 w0 S F ρ w ra js a' lds' pend' h vals' := by
  obtain ⟨hjlt, hjn, hjpre, hjeff, hord⟩ := I.ord
  have hSj : S j = false := by
    cases hs : S j with
    | false => rfl
    | true => exact absurd (List.mem_cons_self) (I.known j hs)
  have hKj : KnX ops (j :: js) j = false := by simp [KnX]
  have hKn : ∀ i, KnX ops js i = (decide (i = j) || KnX ops (j :: js) i) := by
    intro i
    by_cases hi : i = j
    · subst hi; simp [KnX, hjlt, hjn]
    · simp [KnX, hi]
  have hclK : Clos ops B (KnX ops js) := by
    intro i hi
    rw [hKn] at hi
    by_cases he : i = j
    · subst he
      refine ⟨hjlt, fun i' hi' => ?_⟩
      have h1 := hjpre i' hi'
      have h2 := c.lt i hjlt i' hi'
      simp only [KnX, Bool.and_eq_true, decide_eq_true_eq, Bool.not_eq_true', List.contains_eq_mem, decide_eq_false_iff_not]
      exact ⟨by omega, fun hm => h1 (by simp [hm])⟩
    · simp only [he, decide_false, Bool.false_or] at hi
      exact ⟨(I.closK i hi).1, fun i' hi' => by rw [hKn, (I.closK i hi).2 i' hi']; simp⟩
  -- what the operation reads in the evaluation is what it reads behind those that stand before it
  have hread : ∀ t ∈ o.looksAt ops, a t = RA ops B a0 vals j t := by
    intro t ht
    rw [I.aeq]
    refine AX_read c I.closK (pre_clos c hjlt) hj hKj (pre_irr c hjlt) (fun i hi => ?_) (fun i hi => hi) ht ops.size
    have h1 := hjpre i hi
    have h2 := c.lt j hjlt i hi
    simp only [KnX, Bool.and_eq_true, decide_eq_true_eq, Bool.not_eq_true', List.contains_eq_mem, decide_eq_false_iff_not]
    exact ⟨by omega, h1⟩
  -- all that is common to the cases
  have main : ∀ (v : IV) (lds' : List (Nat × IAct × IV)) (pend' : List (Nat × Blk)),
      (∀ q ∈ lds, q ∈ lds') → DRun P ops B idOf K js (iput a o.dst v) lds' pend' h →
      (kindO o.op ≤ 1 → ∃ b, wantI ops o (RA ops B a0 vals j) = some b ∧ (b = false → v = .tup []) ∧ (b = true → opI P (ieval (RA ops B a0 vals j)) o.op h = some (v, h))) →
      (kindO o.op = 1 → wantI ops o (RA ops B a0 vals j) = some true → (j, a, v) ∈ lds') →
      (kindO o.op ≤ 1 ∧ pend' = pend ∨ kindO o.op = 2 ∧ (pend' = pend ∧ wantI ops o (RA ops B a0 vals j) = some false ∧ v = .tup [] ∨
        ∃ m k, pend' = pend ++ [(j, k)] ∧ newI P (ieval (RA ops B a0 vals j)) o.op = some (m, k) ∧ v = mkV m (idOf j) ∧ wantI ops o (RA ops B a0 vals j) = some true)) →
      ∃ a' lds' pend' vals', DInv P n ops B idOf K h0 a0 F0 ρ0 w0 S F ρ w ra js a' lds' pend' h vals' := by
    intro v lds' pend' hlds hrun hflo hldj hpend
    have hR : ∀ k, (k ∉ j :: js ∨ k = j) → k < ops.size → RA ops B a0 (fun i => if i = j then v else vals i) k = RA ops B a0 vals k := by
      intro k hk' hklt
      refine AX_vals (fun i hi => ?_) ops.size
      have : i ≠ j := by
        rintro rfl
        rcases hk' with hk' | rfl
        · have hkk : KnX ops (i :: js) k = true := by simp [KnX, hklt]; simpa using hk'
          have := (I.closK k hkk).2 i hi
          rw [hKj] at this; cases this
        · rw [pre_irr c hjlt] at hi; cases hi
      simp [this]
    have hS : AX ops a0 (fun i => if i = j then v else vals i) S ops.size = AX ops a0 vals S ops.size := AX_vals (fun i hi => by
      have : i ≠ j := by rintro rfl; rw [hSj] at hi; cases hi
      simp [this]) ops.size
    have hpsub : ∀ p ∈ pend', p ∈ pend ∨ p.1 = j := by
      intro p hp
      rcases hpend with ⟨_, rfl⟩ | ⟨_, ⟨rfl, _⟩ | ⟨m, k, rfl, _⟩⟩
      · exact .inl hp
      · exact .inl hp
      · rcases List.mem_append.1 hp with hp | hp
        · exact .inl hp
        · simp at hp; exact .inr (by rw [hp])
    have hpsup : ∀ p ∈ pend, p ∈ pend' := by
      intro p hp
      rcases hpend with ⟨_, rfl⟩ | ⟨_, ⟨rfl, _⟩ | ⟨m, k, rfl, _⟩⟩
      · exact hp
      · exact hp
      · simp [hp]
    have hfilter : pend'.filter (fun p => S p.1) = pend.filter (fun p => S p.1) := by
      rcases hpend with ⟨_, rfl⟩ | ⟨_, ⟨rfl, _⟩ | ⟨m, k, rfl, _⟩⟩
      · rfl
      · rfl
      · simp [hSj]
    have hjpend : ∀ p ∈ pend, p.1 ≠ j := fun p hp e => (I.pendOk p hp).1 (by simp [e])
    have hnotin : ∀ k, k ∉ js → k ≠ j → k ∉ j :: js := fun k h1 h2 h3 => by rcases List.mem_cons.1 h3 with h3 | h3; exact h2 h3; exact h1 h3
    refine ⟨iput a o.dst v, lds', pend', fun i => if i = j then v else vals i, ⟨I.clos, fun i hi hm => I.known i hi (by simp [hm]), hclK, hord, ?_, by rw [hS]; exact I.ar, by rw [hfilter]; exact I.step, I.ids, I.inj, ?_, ?_, ?_, ?_, ?_, ?_, ?_, ?_, hrun⟩⟩
    · rw [I.aeq, AX_ext hKn, AX_add c I.closK hj hKj v]
    · rintro i oi hoi hki (hm | ⟨p, hp, rfl⟩)
      · exact I.dead i oi hoi hki (.inl (by simp [hm]))
      · rcases hpsub p hp with hp | he
        · exact I.dead _ oi hoi hki (.inr ⟨p, hp, rfl⟩)
        · exact I.dead _ oi hoi hki (.inl (by simp [he]))
    · rintro i oi hoi hki (hm | ⟨p, hp, rfl⟩)
      · exact I.free i oi hoi hki (.inl (by simp [hm]))
      · rcases hpsub p hp with hp | he
        · exact I.free _ oi hoi hki (.inr ⟨p, hp, rfl⟩)
        · exact I.free _ oi hoi hki (.inl (by simp [he]))
    · intro p hp
      by_cases hpj : p.1 = j
      · rcases hpend with ⟨_, rfl⟩ | ⟨hk2, ⟨rfl, _⟩ | ⟨m, k, rfl, h1, h2, h3⟩⟩
        · exact absurd hpj (hjpend p hp)
        · exact absurd hpj (hjpend p hp)
        · rcases List.mem_append.1 hp with hp | hp
          · exact absurd hpj (hjpend p hp)
          · simp only [List.mem_singleton] at hp
            subst hp
            refine ⟨hjn, o, m, hj, hk2, ?_, by simp [h2], ?_⟩
            · rw [hR j (.inr rfl) hjlt]; exact h1
            · rw [hR j (.inr rfl) hjlt]; exact h3
      · rcases hpsub p hp with hp | he
        · obtain ⟨h1, o', m, h2, h3, h4, h5, h6⟩ := I.pendOk p hp
          have hplt := (Array.getElem?_eq_some_iff.1 h2).1
          refine ⟨fun hm => h1 (by simp [hm]), o', m, h2, h3, ?_, by simp [hpj, h5], ?_⟩
          · rw [hR p.1 (.inl h1) hplt]; exact h4
          · rw [hR p.1 (.inl h1) hplt]; exact h6
        · exact absurd he hpj
    · rcases hpend with ⟨_, rfl⟩ | ⟨_, ⟨rfl, _⟩ | ⟨m, k, rfl, _⟩⟩
      · exact I.pendNd
      · exact I.pendNd
      · rw [List.map_append, List.nodup_append]
        refine ⟨I.pendNd, by simp, ?_⟩
        intro x hx y hy
        simp only [List.map_cons, List.map_nil, List.mem_singleton] at hy
        obtain ⟨p, hp, rfl⟩ := List.mem_map.1 hx
        rw [hy]; exact hjpend p hp
    · intro i oi hoi hki hm hSi
      have hilt := (Array.getElem?_eq_some_iff.1 hoi).1
      by_cases he : i = j
      · subst he
        rw [hj] at hoi; cases hoi
        obtain ⟨b, q1, q2, q3⟩ := hflo hki
        rw [hR i (.inr rfl) hilt]
        exact ⟨b, q1, fun hb => by simpa using q2 hb, fun hb => by simpa using q3 hb⟩
      · rw [hR i (.inl (hnotin i hm he)) hilt]
        simpa [he] using I.flo i oi hoi hki (hnotin i hm he) hSi
    · intro i oi hoi hki hm hSi
      have hilt := (Array.getElem?_eq_some_iff.1 hoi).1
      by_cases he : i = j
      · subst he
        rw [hj] at hoi; cases hoi
        rw [hR i (.inr rfl) hilt]
        rcases hpend with ⟨hk1, _⟩ | ⟨_, ⟨_, h1, h2⟩ | ⟨m, k, rfl, _⟩⟩
        · omega
        · exact .inl ⟨h1, by simpa using h2⟩
        · exact .inr ⟨(i, k), by simp, rfl⟩
      · rw [hR i (.inl (hnotin i hm he)) hilt]
        rcases I.new i oi hoi hki (hnotin i hm he) hSi with ⟨h1, h2⟩ | ⟨p, hp, h1⟩
        · exact .inl ⟨h1, by simpa [he] using h2⟩
        · exact .inr ⟨p, hpsup p hp, h1⟩
    · intro i oi hoi hki hm
      refine I.eff i oi hoi hki (hnotin i hm ?_)
      rintro rfl
      rw [hj] at hoi; cases hoi
      exact hk hki
    · intro i oi hoi hki hm hSi hwant
      have hilt := (Array.getElem?_eq_some_iff.1 hoi).1
      by_cases he : i = j
      · subst he
        rw [hj] at hoi; cases hoi
        rw [hR i (.inr rfl) hilt] at hwant ⊢
        exact ⟨a, by simpa using hldj hki hwant, hread⟩
      · rw [hR i (.inl (hnotin i hm he)) hilt] at hwant ⊢
        obtain ⟨aj, h1, h2⟩ := I.ldsOk i oi hoi hki (hnotin i hm he) hSi hwant
        exact ⟨aj, by simpa [he] using hlds _ h1, h2⟩
  have hwr : wantI ops o a = wantI ops o (RA ops B a0 vals j) := looks_want hread
  have hrun := I.run
  simp only [DRun, hj] at hrun
  have hkle := c.kind j o hj
  -- an operation of values, or one that looks at memory
  have float : ∀ (lds' : IV → List (Nat × IAct × IV)), kindO o.op ≤ 1 → (∀ v, ∀ q ∈ lds, q ∈ lds' v) → (kindO o.op = 1 → ∀ v, wantI ops o a = some true → (j, a, v) ∈ lds' v) →
      oK (gOp (wantI ops o a) (opI P (ieval a) o.op h) h) (fun p => DRun P ops B idOf K js (iput a o.dst p.1) (lds' p.1) pend h) →
      ∃ a' lds' pend' vals', DInv P n ops B idOf K h0 a0 F0 ρ0 w0 S F ρ w ra js a' lds' pend' h vals' := by
    intro lds' hk1 hl1 hl2 hD
    cases hw : wantI ops o a with
    | none => rw [hw] at hD; simp [gOp, oK] at hD
    | some b =>
      rw [hw] at hD
      cases b with
      | true =>
        simp only [gOp] at hD
        cases ho : opI P (ieval a) o.op h with
        | none => rw [ho] at hD; simp [oK] at hD
        | some p =>
          obtain ⟨v, h'⟩ := p
          rw [ho] at hD
          simp only [oK] at hD
          obtain ⟨hh, _⟩ := opI_mono hk1 ho (h2 := h) (fun _ _ e => e)
          subst hh
          refine main v (lds' v) pend (hl1 v) hD (fun _ => ⟨true, by rw [← hwr, hw], by simp, fun _ => ?_⟩) (fun hk' _ => hl2 hk' v hw) (.inl ⟨hk1, rfl⟩)
          rw [← ho]; exact (opI_congr (looks_eval hread)).symm
      | false =>
        simp only [gOp, oK] at hD
        exact main (.tup []) (lds' (.tup [])) pend (hl1 _) hD (fun _ => ⟨false, by rw [← hwr, hw], fun _ => rfl, by simp⟩) (fun hk' hw' => by rw [← hwr, hw] at hw'; cases hw') (.inl ⟨hk1, rfl⟩)
  match hkk : kindO o.op, hrun with
  | 0, hrun => exact float (fun _ => lds) (by omega) (fun _ q hq => hq) (fun h => by omega) hrun
  | 1, hrun =>
    exact float (fun v => (j, a, v) :: lds) (by omega) (fun v q hq => by simp [hq]) (fun _ v hw => by simp) hrun
  | 2, hrun =>
    simp only at hrun
    cases hw : wantI ops o a with
    | none => rw [hw] at hrun; exact hrun.elim
    | some b =>
      rw [hw] at hrun
      cases b with
      | true =>
        simp only at hrun
        cases hn : newI P (ieval a) o.op with
        | none => rw [hn] at hrun; simp [oK] at hrun
        | some p =>
          obtain ⟨m, k⟩ := p
          rw [hn] at hrun
          simp only [oK] at hrun
          exact main _ lds _ (fun _ hq => hq) hrun (fun hk' => by omega) (fun hk' => by omega) (.inr ⟨hkk, .inr ⟨m, k, rfl, looks_new hread hn, rfl, by rw [← hwr, hw]⟩⟩)
      | false =>
        simp only at hrun
        exact main _ lds pend (fun _ hq => hq) hrun (fun hk' => by omega) (fun hk' => by omega) (.inr ⟨hkk, .inl ⟨rfl, by rw [← hwr, hw], rfl⟩⟩)
  | 3, _ => exact absurd hkk hk
  | k + 4, _ => omega

theorem DInv.norm (c : DChk P n ops B) {S : Nat → Bool} {F : Frz} {ρ : Lay} {w : World} {ra : Act} : ∀ {todo : List Nat} {a : IAct} {lds : List (Nat × IAct × IV)} {pend : List (Nat × Blk)} {h : Heap} {vals : Nat → IV},
    DInv P n ops B idOf K h0 a0 F0 ρ0 w0 S F ρ w ra todo a lds pend h vals → ∃ todo' a' lds' pend' vals', DInv P n ops B idOf K h0 a0 F0 ρ0 w0 S F ρ w ra todo' a' lds' pend' h vals' ∧ (∀ j js, todo' = j :: js → ∀ o, ops[j]? = some o → kindO o.op = 3)
  | [], a, lds, pend, h, vals, I => ⟨[], a, lds, pend, vals, I, fun j js e => by cases e⟩
  | j :: js, a, lds, pend, h, vals, I => by
    obtain ⟨hjlt, _⟩ := I.ord
    by_cases hk : kindO (ops[j]).op = 3
    · refine ⟨j :: js, a, lds, pend, vals, I, fun j' js' e o ho => ?_⟩
      cases e
      rw [Array.getElem?_eq_getElem hjlt] at ho; cases ho
      exact hk
    · obtain ⟨a', lds', pend', vals', I'⟩ := I.next c (Array.getElem?_eq_getElem hjlt) hk
      exact DInv.norm c I'
end
end Go.Ideal
