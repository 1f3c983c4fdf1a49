/- Regions whose order is open: an act on memory comes to pass; all orders; the rule. -/
import Derived.Test.YtjfpggiglgkfeaaDID
set_option linter.unusedVariables false
set_option linter.unusedSimpArgs false
namespace Go.Ideal

section
variable {P : Program} {n : Nat} {ops : Array Oper} {B : List Nat} {idOf : Nat → Nat} {K : IAct → Heap → Prop} {h0 : Heap} {a0 : IAct} {F0 : Frz} {ρ0 : Lay} {w0 : World}
  {S : Nat → Bool} {F : Frz} {ρ : Lay} {w : World} {ra : Act} {todo : List Nat} {a : IAct} {lds : List (Nat × IAct × IV)} {pend : List (Nat × Blk)} {h : Heap} {vals : Nat → IV}

theorem KnX_tail {j : Nat} {js : List Nat} (hjlt : j < ops.size) (hjn : j ∉ js) : ∀ i, KnX ops js i = (decide (i = j) || KnX ops (j :: js) i) := by
  intro i
  by_cases hi : i = j
  · subst hi; simp [KnX, hjlt, hjn]
  · simp [KnX, hi]

/-- The memory that an act sees: the blocks that stand before it. -/
theorem DInv.seen (I : DInv P n ops B idOf K h0 a0 F0 ρ0 w0 S F ρ w ra todo a lds pend h vals) {i : Nat} (hp : ∀ i', preB B i' i = true → S i' = true) :
    (fillP idOf (pend.filter fun p => preB B p.1 i) h).length = (fillP idOf (pend.filter fun p => S p.1) h).length ∧ HLe (fillP idOf (pend.filter fun p => preB B p.1 i) h) (fillP idOf (pend.filter fun p => S p.1) h) ∧
      ∀ p ∈ pend, preB B p.1 i = false → ∀ k, (fillP idOf (pend.filter fun p => preB B p.1 i) h)[idOf p.1]? ≠ some (some k) := by
  have hlt : ∀ p ∈ pend, idOf p.1 < h.length := fun p hp => by
    obtain ⟨_, o, m, g1, g2, _⟩ := I.pendOk p hp
    exact (I.ids _ o g1 g2).2
  have hone : ∀ p ∈ pend, ∀ q ∈ pend, idOf p.1 = idOf q.1 → p.1 = q.1 := fun p hp q hq e => by
    obtain ⟨_, o1, m1, g1, g2, _⟩ := I.pendOk p hp
    obtain ⟨_, o2, m2, f1, f2, _⟩ := I.pendOk q hq
    exact I.inj _ _ o1 o2 g1 f1 g2 f2 e
  refine ⟨by rw [fillP_length, fillP_length], ?_, ?_⟩
  · intro b k hb
    rcases fillP_get idOf _ h b k hb with ⟨p, hpm, rfl, rfl⟩ | ⟨hb, _⟩
    · obtain ⟨h1, h2⟩ := List.mem_filter.1 hpm
      exact fillP_at idOf _ h (nodup_filter_map _ I.pendInj) p (List.mem_filter.2 ⟨h1, hp _ h2⟩) (hlt p h1)
    · exact I.hle _ b k hb
  · intro p hpm hpre k
    rw [fillP_other]
    · obtain ⟨_, o, m, g1, g2, _⟩ := I.pendOk p hpm
      exact I.dead _ o g1 g2 (.inr ⟨p, hpm, rfl⟩) k
    · intro q hq e
      obtain ⟨h1, h2⟩ := List.mem_filter.1 hq
      have := hone q h1 p hpm e
      rw [this, hpre] at h2; cases h2

theorem DInv.act (c : DChk P n ops B) {i : Nat} {js : List Nat} (I : DInv P n ops B idOf K h0 a0 F0 ρ0 w0 S F ρ w ra (i :: js) a lds pend h vals) {o : Oper} (ho : ops[i]? = some o) (hk : kindO o.op = 3) (hp : ∀ i', preB B i' i = true → S i' = true)
    {F' : Frz} {ρ' : Lay} {h' : Heap} {w' : World} {v : IV} {u : Value} (s : Step F ρ (fillP idOf (pend.filter fun p => preB B p.1 i) h) w F' ρ' h' w') (hu : VR F' ρ' v u)
    (hobl : oblI P ops B i h' lds) (hrun : DRun P ops B idOf K js (iput a o.dst v) lds (pend.filter fun p => !preB B p.1 i) h') :
    DInv P n ops B idOf K h0 a0 F0 ρ0 w0 (addS S i) F' ρ' w' (ra.put o.dst u) js (iput a o.dst v) lds (pend.filter fun p => !preB B p.1 i) h' (fun j => if j = i then v else vals j) := by
  obtain ⟨hilt, hin, hipre, hieff, hord⟩ := I.ord
  have hSi : S i = false := by
    cases hs : S i with
    | false => rfl
    | true => exact absurd (List.mem_cons_self) (I.known i hs)
  have hKi : KnX ops (i :: js) i = false := by simp [KnX]
  have hKn := KnX_tail (ops := ops) hilt hin
  have hclK : Clos ops B (KnX ops js) := by
    intro j hj
    rw [hKn] at hj
    by_cases he : j = i
    · subst he
      refine ⟨hilt, fun i' hi' => ?_⟩
      have h1 := hipre i' hi'
      have h2 := c.lt j hilt i' hi'
      simp only [KnX, Bool.and_eq_true, decide_eq_true_eq, Bool.not_eq_true', List.contains_eq_mem, decide_eq_false_iff_not]
      exact ⟨by omega, fun hm => h1 (by simp [hm])⟩
    · simp only [he, decide_false, Bool.false_or] at hj
      exact ⟨(I.closK j hj).1, fun i' hi' => by rw [hKn, (I.closK j hj).2 i' hi']; simp⟩
  obtain ⟨hlen, hle, hdead⟩ := I.seen hp
  have hadd : ∀ j, addS S i j = false → S j = false ∧ j ≠ i := fun j hj => by simp only [addS, Bool.or_eq_false_iff, decide_eq_false_iff_not] at hj; exact ⟨hj.2, hj.1⟩
  have hpk : ∀ p ∈ pend, p.1 ≠ i := by
    rintro p hpm rfl
    obtain ⟨h1, _⟩ := I.pendOk p hpm
    exact h1 (by simp)
  have hR : ∀ k, k ∉ i :: js → k < ops.size → RA ops B a0 (fun j => if j = i then v else vals j) k = RA ops B a0 vals k := by
    intro k hk' hklt
    refine AX_vals (fun j hj => ?_) ops.size
    have : j ≠ i := by
      rintro rfl
      have hkk : KnX ops (j :: js) k = true := by simp [KnX, hklt]; simpa using hk'
      have := (I.closK k hkk).2 j hj
      rw [hKi] at this; cases this
    simp [this]
  have hnotin : ∀ k, k ∉ js → k ≠ i → k ∉ i :: js := fun k h1 h2 h3 => by rcases List.mem_cons.1 h3 with h3 | h3; exact h2 h3; exact h1 h3
  have hlater : ∀ p, p ∈ pend.filter (fun p => !preB B p.1 i) ↔ p ∈ pend ∧ preB B p.1 i = false := fun p => by simp [List.mem_filter]
  have hfil : (pend.filter fun p => !preB B p.1 i).filter (fun p => addS S i p.1) = (pend.filter fun p => !preB B p.1 i).filter (fun p => S p.1) := List.filter_congr fun p hpm => by simp [addS, hpk p ((hlater p).1 hpm).1]
  have hps : ∀ p ∈ (pend.filter fun p => !preB B p.1 i).filter (fun p => S p.1), (fillP idOf (pend.filter fun p => S p.1) h)[idOf p.1]? = some (some p.2) ∧ ∀ k, (fillP idOf (pend.filter fun p => preB B p.1 i) h)[idOf p.1]? ≠ some (some k) := by
    intro p hpm
    obtain ⟨h1, h2⟩ := List.mem_filter.1 hpm
    obtain ⟨h3, h4⟩ := (hlater p).1 h1
    obtain ⟨_, o1, m1, g1, g2, _⟩ := I.pendOk p h3
    exact ⟨fillP_at idOf _ h (nodup_filter_map _ I.pendInj) p (List.mem_filter.2 ⟨h3, h2⟩) (I.ids _ o1 g1 g2).2, hdead p h3 h4⟩
  -- the numbers that are laid aside
  have hfree' : ∀ (j : Nat) (oj : Oper), ops[j]? = some oj → kindO oj.op = 2 → (j ∈ js ∨ ∃ p ∈ pend.filter (fun p => !preB B p.1 i), p.1 = j) → S j = false → ρ' (idOf j) = none := by
    intro j oj hoj hkj hor hSj
    have hor' : j ∈ i :: js ∨ ∃ p ∈ pend, p.1 = j := by
      rcases hor with hm | ⟨p, hpm, rfl⟩
      · exact .inl (by simp [hm])
      · exact .inr ⟨p, ((hlater p).1 hpm).1, rfl⟩
    cases he : ρ' (idOf j) with
    | none => rfl
    | some l =>
      have := s.old (idOf j) l (by rw [fillP_length]; exact (I.ids j oj hoj hkj).2) he
      rw [I.free j oj hoj hkj hor' hSj] at this; cases this
  refine ⟨addS_clos I.clos hilt hp, ?_, hclK, hord, ?_, ?_, ?_, ?_, I.inj, ?_, ?_, ?_, ?_, ?_, ?_, ?_, ?_, hrun⟩
  · intro j hj
    simp only [addS, Bool.or_eq_true, decide_eq_true_eq] at hj
    rcases hj with rfl | hj
    · exact hin
    · exact fun hm => I.known j hj (by simp [hm])
  · rw [I.aeq, AX_ext hKn, AX_add c I.closK ho hKi v]
  · have := AX_add (a0 := a0) (vals := vals) c I.clos ho hSi v
    show ARel F' ρ' n (AX ops a0 _ (addS S i) ops.size) _
    rw [show addS S i = fun j => decide (j = i) || S j from rfl, this]
    exact ARel.put ⟨I.ar.size, I.ar.defers, fun t => VR.mono (n := (fillP idOf (pend.filter fun p => S p.1) h).length) I.step.rel.low s.fF s.fρ (I.ar.tmps t)⟩ (chkOp_dst (c.op i o ho)) hu
  · rw [hfil]; exact Step.revive I.step hlen hle s idOf _ hps
  · intro j oj hoj hkj
    have h1 := I.ids j oj hoj hkj
    have h2 := s.len
    rw [fillP_length] at h2
    exact ⟨h1.1, by omega⟩
  · intro j oj hoj hkj hor k hlive
    obtain ⟨l, hl, _, cs, g1, _⟩ := s.rel.liv _ k hlive
    by_cases hSj : S j = true
    · rcases hor with hm | ⟨p, hpm, rfl⟩
      · exact I.known j hSj (by simp [hm])
      · have hpm2 : p ∈ (pend.filter fun p => !preB B p.1 i).filter (fun p => S p.1) := List.mem_filter.2 ⟨hpm, hSj⟩
        obtain ⟨q1, q2⟩ := hps p hpm2
        obtain ⟨l0, r1, r2, cs0, r3, _⟩ := I.step.rel.liv _ _ q1
        have := s.fρ _ _ r1
        rw [hl] at this; cases this
        obtain ⟨b, k', l', e, e1, e2⟩ := s.img l.R ⟨_, k, l, hlive, hl, rfl⟩ (Array.getElem?_eq_some_iff.1 r3).1
        have := I.step.rel.inj b _ k' p.2 l' l (hle b k' e) q1 e1 r1 e2
        subst this
        exact q2 k' e
    · rw [hfree' j oj hoj hkj hor (by simpa using hSj)] at hl; cases hl
  · intro j oj hoj hkj hor hSj
    exact hfree' j oj hoj hkj hor (hadd j hSj).1
  · intro p hpm
    obtain ⟨h3, h4⟩ := (hlater p).1 hpm
    obtain ⟨h1, o', m, g1, g2, g3, g4, g5⟩ := I.pendOk p h3
    have hplt := (Array.getElem?_eq_some_iff.1 g1).1
    refine ⟨fun hm => h1 (by simp [hm]), o', m, g1, g2, ?_, by simp [hpk p h3, g4], ?_⟩
    · rw [hR p.1 h1 hplt]; exact g3
    · rw [hR p.1 h1 hplt]; exact g5
  · exact List.Sublist.nodup ((List.filter_sublist (l := pend)).map _) I.pendNd
  · intro j oj hoj hkj hm hSj
    have hjlt := (Array.getElem?_eq_some_iff.1 hoj).1
    obtain ⟨hSj, hne⟩ := hadd j hSj
    have hnj := hnotin j hm hne
    obtain ⟨b, q1, q2, q3⟩ := I.flo j oj hoj hkj hnj hSj
    rw [hR j hnj hjlt]
    refine ⟨b, q1, by simpa [hne] using q2, fun hb => ?_⟩
    have h4 := q3 hb
    simp only [hne, if_false]
    by_cases hk0 : kindO oj.op = 0
    · exact opI_kind0 hk0 h4 h'
    · have hk1 : kindO oj.op = 1 := by omega
      subst hb
      obtain ⟨aj, m1, m2⟩ := I.ldsOk j oj hoj hk1 hnj hSj q1
      have hnp : preB B j i = false := by
        cases hpj : preB B j i with
        | false => rfl
        | true => rw [hp j hpj] at hSj; cases hSj
      have : ∀ (l : List (Nat × IAct × IV)), oblI P ops B i h' l → (j, aj, vals j) ∈ l → opI P (ieval aj) oj.op h' = some (vals j, h') := by
        intro l
        induction l with
        | nil => intro _ hm; cases hm
        | cons q l ih =>
          intro hob hm
          simp only [oblI] at hob
          rcases List.mem_cons.1 hm with rfl | hm
          · simp only [hnp, Bool.false_eq_true, if_false, hoj, (looks_want m2).trans q1] at hob
            exact hob.1
          · split at hob
            · exact ih hob hm
            · exact ih hob.2 hm
      rw [← this lds hobl m1]
      exact (opI_congr (looks_eval m2)).symm
  · intro j oj hoj hkj hm hSj
    have hjlt := (Array.getElem?_eq_some_iff.1 hoj).1
    obtain ⟨hSj, hne⟩ := hadd j hSj
    have hnj := hnotin j hm hne
    rw [hR j hnj hjlt]
    rcases I.new j oj hoj hkj hnj hSj with ⟨h1, h2⟩ | ⟨p, hpm, h1⟩
    · exact .inl ⟨h1, by simpa [hne] using h2⟩
    · refine .inr ⟨p, (hlater p).2 ⟨hpm, ?_⟩, h1⟩
      cases hpj : preB B p.1 i with
      | false => rfl
      | true => rw [h1] at hpj; rw [hp j hpj] at hSj; cases hSj
  · intro j oj hoj hkj hm
    by_cases hne : j = i
    · simp [addS, hne]
    · have := I.eff j oj hoj hkj (hnotin j hm hne)
      simp [addS, this]
  · intro j oj hoj hkj hm hSj hwant
    have hjlt := (Array.getElem?_eq_some_iff.1 hoj).1
    obtain ⟨hSj, hne⟩ := hadd j hSj
    have hnj := hnotin j hm hne
    rw [hR j hnj hjlt] at hwant ⊢
    simpa [hne] using I.ldsOk j oj hoj hkj hnj hSj hwant

/-- All orders. -/
theorem DInv.any (c : DChk P n ops B) {Q : Exit → Act → World → Prop} (hQ : ∀ ra' w', IPost F0 ρ0 n h0 w0 K ra' w' → Q .normal ra' w') : ∀ (fuel : Nat) (listed : Array Bool) (S : Nat → Bool) (F : Frz) (ρ : Lay) (w : World) (ra : Act) (todo : List Nat) (a : IAct) (lds : List (Nat × IAct × IV)) (pend : List (Nat × Blk)) (h : Heap) (vals : Nat → IV),
    (∀ j, listed.getD j false = S j) → listed.size = ops.size → ((List.range ops.size).filter fun j => !S j).length = fuel → DInv P n ops B idOf K h0 a0 F0 ρ0 w0 S F ρ w ra todo a lds pend h vals → wpAny P .any ops Q fuel listed ra w := by
  intro fuel
  induction fuel with
  | zero =>
    intro listed S F ρ w ra todo a lds pend h vals hS hsz hcnt I
    have hall : ∀ j, j < ops.size → S j = true := by
      intro j hj
      have := List.eq_nil_of_length_eq_zero hcnt
      rw [List.filter_eq_nil_iff] at this
      simpa using this j (by simpa using hj)
    have hnil : Region.ready .any ops listed = [] := by
      rw [List.eq_nil_iff_forall_not_mem]
      intro j hj
      obtain ⟨h1, o, ho, _⟩ := mem_ready.1 hj
      have hjlt := (Array.getElem?_eq_some_iff.1 ho).1
      have := hS j
      rw [hall j hjlt] at this
      simp [hsz, hjlt] at h1 this
      rw [h1] at this; cases this
    obtain ⟨todo', a', lds', pend', vals', I, hhead⟩ := I.norm c
    have htodo : todo' = [] := by
      cases todo' with
      | nil => rfl
      | cons j js => exact absurd List.mem_cons_self (I.known j (hall j I.ord.1))
    subst htodo
    refine ⟨hnil, hQ _ _ ⟨a', fillP idOf pend' h, F, ρ, I.run, ?_, ?_⟩⟩
    · have : pend'.filter (fun p => S p.1) = pend' := List.filter_eq_self.2 fun p hp => by
        obtain ⟨_, o, m, g1, _⟩ := I.pendOk p hp
        exact hall _ (Array.getElem?_eq_some_iff.1 g1).1
      have hst := I.step
      rw [this] at hst
      exact hst
    · have he : ∀ j, KnX ops [] j = S j := by
        intro j
        by_cases hj : j < ops.size
        · simp [KnX, hj, hall j hj]
        · simp only [KnX, hj, decide_false, Bool.false_and]
          cases hs : S j with
          | false => rfl
          | true => exact absurd (I.clos j hs).1 hj
      rw [I.aeq, AX_ext he]
      exact I.ar
  | succ fuel ih =>
    intro listed S F ρ w ra todo a lds pend h vals hS hsz hcnt I
    have hnonempty : Region.ready .any ops listed ≠ [] := by
      -- the first that has not been listed is ready
      intro hnil
      have hall : ∀ j, j < ops.size → S j = true := by
        intro j
        induction j using Nat.strongRecOn with
        | _ j ihj =>
          intro hj
          cases hs : S j with
          | true => rfl
          | false =>
            have hl := hS j
            rw [hs] at hl
            have : j ∈ Region.ready .any ops listed := mem_ready.2 ⟨by simp [hsz, hj] at hl ⊢; exact hl, ops[j], Array.getElem?_eq_getElem hj, fun e he hb => by
              have h1 := c.edge j _ (Array.getElem?_eq_getElem hj) e he hb
              rw [hS]; exact ihj e.on h1 (by omega)⟩
            rw [hnil] at this; cases this
      have : (List.range ops.size).filter (fun j => !S j) = [] := List.filter_eq_nil_iff.2 fun j hj => by simp [hall j (by simpa using hj)]
      rw [this] at hcnt; cases hcnt
    refine ⟨fun h0 => absurd h0 hnonempty, fun i hi => ?_⟩
    obtain ⟨hun, o, ho, hedges⟩ := mem_ready.1 hi
    have hilt := (Array.getElem?_eq_some_iff.1 ho).1
    have hSi : S i = false := by
      have := hS i
      simp [hsz, hilt] at hun this
      rw [hun] at this; exact this.symm
    have hpre : ∀ i', preB B i' i = true → S i' = true := by
      intro i' hp
      obtain ⟨e, he, hb, h1 | h1⟩ := c.sound i o i' ho hp
      · have := hedges e he hb
        rw [hS, h1] at this; exact this
      · have := hedges e he hb
        rw [hS] at this
        exact (I.clos e.on this).2 i' h1
    have hS' : ∀ j, (listed.setIfInBounds i true).getD j false = addS S i j := by
      intro j
      by_cases hj : j = i
      · subst hj; simp [addS, hsz, hilt]
      · have := hS j
        simp only [addS, hj, decide_false, Bool.false_or]
        rw [← this]
        simp [Array.getElem?_setIfInBounds_ne (Ne.symm hj)]
    have hcnt' : ((List.range ops.size).filter fun j => !addS S i j).length = fuel := by
      have h1 : (List.range ops.size).filter (fun j => !addS S i j) = ((List.range ops.size).filter (fun j => !S j)).filter (fun j => !decide (j = i)) := by
        rw [List.filter_filter]
        refine List.filter_congr fun j _ => ?_
        simp only [addS]
        cases decide (j = i) <;> cases S j <;> rfl
      have h2 : i ∈ (List.range ops.size).filter (fun j => !S j) := List.mem_filter.2 ⟨by simpa using hilt, by simp [hSi]⟩
      have h3 : ((List.range ops.size).filter (fun j => !S j)).Nodup := List.Sublist.nodup List.filter_sublist List.nodup_range
      rw [h1]
      have h4 : ((List.range ops.size).filter (fun j => !S j)).filter (fun j => !decide (j = i)) = ((List.range ops.size).filter (fun j => !S j)).erase i := by
        rw [List.Nodup.erase_eq_filter h3]
        refine List.filter_congr fun j _ => ?_
        by_cases hj : j = i <;> simp [hj]
      rw [h4, List.length_erase_of_mem h2, hcnt]; rfl
    obtain ⟨todo', a', lds', pend', vals', I, hhead⟩ := I.norm c
    have next : ∀ {F' : Frz} {ρ' : Lay} {w' : World} {ra' : Act} {todo'' : List Nat} {a'' : IAct} {lds'' : List (Nat × IAct × IV)} {pend'' : List (Nat × Blk)} {h'' : Heap} {vals'' : Nat → IV}, DInv P n ops B idOf K h0 a0 F0 ρ0 w0 (addS S i) F' ρ' w' ra' todo'' a'' lds'' pend'' h'' vals'' → wpAny P .any ops Q fuel (listed.setIfInBounds i true) ra' w' := fun I' =>
      ih _ _ _ _ _ _ _ _ _ _ _ _ hS' (by simp [hsz]) hcnt' I'
    -- the frame in the model reads as the evaluation did
    have hread : ∀ t ∈ o.looksAt ops, AX ops a0 vals' S ops.size t = RA ops B a0 vals' i t := fun t ht =>
      AX_read c I.clos (pre_clos c hilt) ho hSi (pre_irr c hilt) hpre (fun _ h => h) ht ops.size
    have hops : ∀ o' ∈ ops.toList, o'.dst.all (· < n) = true := fun o' ho' => by
      obtain ⟨j, hj⟩ := List.getElem?_of_mem ho'
      rw [Array.getElem?_toList] at hj
      exact chkOp_dst (c.op j o' hj)
    unfold wpOp
    simp only [ho]
    by_cases hit : i ∈ todo'
    · -- an act on memory: the next one
      cases todo' with
      | nil => cases hit
      | cons j js =>
        obtain ⟨hjlt, hjn, _, hjeff, _⟩ := I.ord
        have hji : j = i := by
          rcases List.mem_cons.1 hit with h1 | h1
          · exact h1.symm
          · have := hjeff _ (Array.getElem?_eq_getElem hjlt) (hhead j js rfl _ (Array.getElem?_eq_getElem hjlt)) i h1
            exact absurd List.mem_cons_self (I.known j (hpre j this))
        subst hji
        have hk3 := hhead j js rfl o ho
        have hD := I.run
        simp only [DRun, ho, hk3] at hD
        obtain ⟨hlen, hle, _⟩ := I.seen hpre
        obtain ⟨hr1, _⟩ := I.step.rel.hide hlen hle
        have hra : ∀ t ∈ o.looksAt ops, a' t = AX ops a0 vals' S ops.size t := fun t ht => by
          rw [I.aeq]
          refine AX_read c I.closK I.clos ho (by simp [KnX]) hSi (fun i' hi' => ?_) hpre ht ops.size
          have h1 := I.ord.2.2.1 i' hi'
          have h2 := c.lt j hilt i' hi'
          simp only [KnX, Bool.and_eq_true, decide_eq_true_eq, Bool.not_eq_true', List.contains_eq_mem, decide_eq_false_iff_not]
          exact ⟨by omega, h1⟩
        have hD' := IOp_congr hra hD
        obtain ⟨b, hw⟩ := hD'.want
        rw [wantI_run I.ar hw hops]
        cases b with
        | true =>
          simp only [if_true]
          exact .inl (IOp.run hD' (c.op j o ho) hw hr1 I.ar.eval fun v u h' F' ρ' w' hk hst hv => next (I.act c ho hk3 hpre hst hv hk.1 hk.2))
        | false =>
          simp only [Bool.false_eq_true, if_false]
          have hk := hD'.skip hw
          exact next (I.act c ho hk3 hpre (Step.refl hr1) (VR.undef F ρ) hk.1 hk.2)
    · -- one that has been evaluated
      have hk3 : kindO o.op ≠ 3 := fun hk => by
        have := I.eff i o ho hk hit
        rw [hSi] at this; cases this
      have hkle := c.kind i o ho
      have skip : wantI ops o (RA ops B a0 vals' i) = some false → vals' i = .tup [] → (∀ p ∈ pend', p.1 ≠ i) → (if Region.wanted o (yielded ops ra.tmps) = true then o.wp P ra w (wpAny P .any ops Q fuel (listed.setIfInBounds i true)) Q ∨ o.asks P ra w ∧ LetsOut Q else wpAny P .any ops Q fuel (listed.setIfInBounds i true) (ra.put o.dst undef) w) := by
        intro hw hv hnp
        rw [wantI_run I.ar ((looks_want hread).trans hw) hops]
        simp only [Bool.false_eq_true, if_false]
        exact next (I.put c ho hSi hit hpre hnp (Step.refl I.step.rel) (by rw [hv]; exact VR.undef F ρ))
      by_cases hk1 : kindO o.op ≤ 1
      · have hnp : ∀ p ∈ pend', p.1 ≠ i := by
          rintro p hp rfl
          obtain ⟨_, o', m, g1, g2, _⟩ := I.pendOk p hp
          rw [ho] at g1; cases g1; omega
        obtain ⟨b, hw, hf, ht⟩ := I.flo i o ho hk1 hit hSi
        cases b with
        | false => exact skip hw (hf rfl) hnp
        | true =>
          rw [wantI_run I.ar ((looks_want hread).trans hw) hops]
          simp only [if_true]
          have hop := ht rfl
          rw [← opI_congr (looks_eval hread)] at hop
          obtain ⟨_, hop2⟩ := opI_mono hk1 hop (I.hle fun p => S p.1)
          obtain ⟨nx, u, W, ρ1, h1, h2, h3, h4⟩ := opI_run I.step.rel (ieval (AX ops a0 vals' S ops.size)) ra.eval I.ar.eval o hop2
          refine .inl ?_
          unfold Oper.wp
          rw [h1]
          have hn := next (I.put c ho hSi hit hpre hnp h3 h4)
          rcases h2 with rfl | ⟨rfl, rfl⟩
          · exact hn
          · exact hn
      · have hk2 : kindO o.op = 2 := by omega
        rcases I.new i o ho hk2 hit hSi with ⟨hw, hv⟩ | ⟨p, hp, hpi⟩
        · by_cases hex : ∃ p ∈ pend', p.1 = i
          · obtain ⟨p, hp, hpi⟩ := hex
            obtain ⟨_, o', m, g1, g2, g3, g4, g5⟩ := I.pendOk p hp
            rw [hpi] at g1 g5
            rw [ho] at g1; cases g1
            rw [hw] at g5; cases g5
          · exact skip hw hv fun p hp e => hex ⟨p, hp, e⟩
        · obtain ⟨_, o', m, g1, g2, g3, g4, g5⟩ := I.pendOk p hp
          rw [hpi] at g1 g3 g4 g5
          rw [ho] at g1; cases g1
          rw [wantI_run I.ar ((looks_want hread).trans g5) hops]
          simp only [if_true]
          have hnew := looks_new (fun t ht => (hread t ht).symm) g3
          have hop := newI_op hnew (fillP idOf (pend'.filter fun p => S p.1) h)
          obtain ⟨nx, u, W, ρ1, h1, h2, h3, h4⟩ := opI_run I.step.rel (ieval (AX ops a0 vals' S ops.size)) ra.eval I.ar.eval o hop
          have hbel : Belss h.length p.2.es := by
            have := newI_bel (n := h.length) (fun x => ?_) hnew
            · exact this
            · have := VR.bel I.step.rel.low _ _ (I.ar.eval x)
              rwa [fillP_length] at this
          obtain ⟨ρ2, I'⟩ := I.make c ho hSi hpre hp hpi g4 hbel h3 h4
          refine .inl ?_
          unfold Oper.wp
          rw [h1]
          have hn := next I'
          rcases h2 with rfl | ⟨rfl, rfl⟩
          · exact hn
          · exact hn
end
end Go.Ideal
