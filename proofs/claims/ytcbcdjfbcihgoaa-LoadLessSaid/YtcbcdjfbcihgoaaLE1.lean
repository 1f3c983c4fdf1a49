/- Part of a proof: functions of the program over an ideal memory, and what they compute. No condition. -/
import Derived.Test.YtcbcdjfbcihgoaaLE0
import Derived.Eval
set_option linter.unusedVariables false
set_option linter.unusedSimpArgs false
namespace Go.Ideal
section
variable {P : Program} {n : Nat} {ops : Array Oper} {B : List Nat} {idOf : Nat → Nat} {K : IAct → Heap → Prop} {h0 : Heap} {a0 : IAct} {F0 : Frz} {ρ0 : Lay} {w0 : World}
  {S : Nat → Bool} {F : Frz} {ρ : Lay} {w : World} {ra : Act} {todo : List Nat} {a : IAct} {lds : List (Nat × IAct × IV)} {pend : List (Nat × Blk)} {h : Heap} {vals : Nat → IV}
theorem KnX_tail {j : Nat} {js : List Nat} (hjlt : j < ops.size) (hjn : j ∉ js) : ∀ i, KnX ops js i = (decide (i = j) || KnX ops (j :: js) i) := by
  intro i
  by_cases hi : i = j
  · subst hi; simp [KnX, hjlt, hjn]
  · simp [KnX, hi]
theorem DInv.seen (I : DInv P n ops B idOf K h0 a0 F0 ρ0 w0 S F ρ w ra todo a lds pend h vals) {i : Nat} (hp : ∀ i', preB B i' i = true → S i' = true) :
    (fillP idOf (pend.filter fun p => preB B p.1 i) h).length = (fillP idOf (pend.filter fun p => S p.1) h).length ∧ HLe (fillP idOf (pend.filter fun p => preB B p.1 i) h) (fillP idOf (pend.filter fun p => S p.1) h) ∧
      ∀ p ∈ pend, preB B p.1 i = false → ∀ k, (fillP idOf (pend.filter fun p => preB B p.1 i) h)[idOf p.1]? ≠ some (some k) := by
  have hlt : ∀ p ∈ pend, idOf p.1 < h.length := fun p hp => by
    obtain ⟨_, o, m, g1, g2, _⟩ := I.pendOk p hp
    exact (I.ids _ o g1 g2).2
  have hone : ∀ p ∈ pend, ∀ q ∈ pend, idOf p.1 = idOf q.1 → p.1 = q.1 := fun p hp q hq e => by
    obtain ⟨_, o1, m1, g1, g2, _⟩ := I.pendOk p hp
    obtain ⟨_, o2, m2, f1, f2, _⟩ := I.pendOk q hq
    exact I.inj _ _ o1 o2 g1 f1 g2 f2 e
  refine ⟨by rw [fillP_length, fillP_length], ?_, ?_⟩
  · intro b k hb
    rcases fillP_get idOf _ h b k hb with ⟨p, hpm, rfl, rfl⟩ | ⟨hb, _⟩
    · obtain ⟨h1, h2⟩ := List.mem_filter.1 hpm
      exact fillP_at idOf _ h (nodup_filter_map _ I.pendInj) p (List.mem_filter.2 ⟨h1, hp _ h2⟩) (hlt p h1)
    · exact I.hle _ b k hb
  · intro p hpm hpre k
    rw [fillP_other]
    · obtain ⟨_, o, m, g1, g2, _⟩ := I.pendOk p hpm
      exact I.dead _ o g1 g2 (.inr ⟨p, hpm, rfl⟩) k
    · intro q hq e
      obtain ⟨h1, h2⟩ := List.mem_filter.1 hq
      have := hone q h1 p hpm e
      rw [this, hpre] at h2; cases h2
theorem DInv.act (c : DChk P n ops B) {i : Nat} {js : List Nat} (I : DInv P n ops B idOf K h0 a0 F0 ρ0 w0 S F ρ w ra (i :: js) a lds pend h vals) {o : Oper} (ho : ops[i]? = some o) (hk : kindO o.op = 3) (hp : ∀ i', preB B i' i = true → S i' = true)
    {F' : Frz} {ρ' : Lay} {h' : Heap} {w' : World} {v : IV} {u : Value} (s : Step F ρ (fillP idOf (pend.filter fun p => preB B p.1 i) h) w F' ρ' h' w') (hu : VR F' ρ' v u)
    (hobl : oblI P ops B i h' lds) (hrun : DRun P ops B idOf K js (iput a o.dst v) lds (pend.filter fun p => !preB B p.1 i) h') :
    DInv P n ops B idOf K h0 a0 F0 ρ0 w0 (addS S i) F' ρ' w' (ra.put o.dst u) js (iput a o.dst v) lds (pend.filter fun p => !preB B p.1 i) h' (fun j => if j = i then v else vals j) := by
  obtain ⟨hilt, hin, hipre, hieff, hord⟩ := I.ord
  have hSi : S i = false := by
    cases hs : S i with
    | false => rfl
    | true => exact absurd (List.mem_cons_self) (I.known i hs)
  have hKi : KnX ops (i :: js) i = false := by simp [KnX]
  have hKn := KnX_tail (ops := ops) hilt hin
  have hclK : Clos ops B (KnX ops js) := by
    intro j hj
    rw [hKn] at hj
    by_cases he : j = i
    · subst he
      refine ⟨hilt, fun i' hi' => ?_⟩
      have h1 := hipre i' hi'
      have h2 := c.lt j hilt i' hi'
      simp only [KnX, Bool.and_eq_true, decide_eq_true_eq, Bool.not_eq_true', List.contains_eq_mem, decide_eq_false_iff_not]
      exact ⟨by omega, fun hm => h1 (by simp [hm])⟩
    · simp only [he, decide_false, Bool.false_or] at hj
      exact ⟨(I.closK j hj).1, fun i' hi' => by rw [hKn, (I.closK j hj).2 i' hi']; simp⟩
  obtain ⟨hlen, hle, hdead⟩ := I.seen hp
  have hadd : ∀ j, addS S i j = false → S j = false ∧ j ≠ i := fun j hj => by simp only [addS, Bool.or_eq_false_iff, decide_eq_false_iff_not] at hj; exact ⟨hj.2, hj.1⟩
  have hpk : ∀ p ∈ pend, p.1 ≠ i := by
    rintro p hpm rfl
    obtain ⟨h1, _⟩ := I.pendOk p hpm
    exact h1 (by simp)
  have hR : ∀ k, k ∉ i :: js → k < ops.size → RA ops B a0 (fun j => if j = i then v else vals j) k = RA ops B a0 vals k := by
    intro k hk' hklt
    refine AX_vals (fun j hj => ?_) ops.size
    have : j ≠ i := by
      rintro rfl
      have hkk : KnX ops (j :: js) k = true := by simp [KnX, hklt]; simpa using hk'
      have := (I.closK k hkk).2 j hj
      rw [hKi] at this; cases this
    simp [this]
  have hnotin : ∀ k, k ∉ js → k ≠ i → k ∉ i :: js := fun k h1 h2 h3 => by rcases List.mem_cons.1 h3 with h3 | h3; exact h2 h3; exact h1 h3
  have hlater : ∀ p, p ∈ pend.filter (fun p => !preB B p.1 i) ↔ p ∈ pend ∧ preB B p.1 i = false := fun p => by simp [List.mem_filter]
  have hfil : (pend.filter fun p => !preB B p.1 i).filter (fun p => addS S i p.1) = (pend.filter fun p => !preB B p.1 i).filter (fun p => S p.1) := List.filter_congr fun p hpm => by simp [addS, hpk p ((hlater p).1 hpm).1]
  have hps : ∀ p ∈ (pend.filter fun p => !preB B p.1 i).filter (fun p => S p.1), (fillP idOf (pend.filter fun p => S p.1) h)[idOf p.1]? = some (some p.2) ∧ ∀ k, (fillP idOf (pend.filter fun p => preB B p.1 i) h)[idOf p.1]? ≠ some (some k) := by
    intro p hpm
    obtain ⟨h1, h2⟩ := List.mem_filter.1 hpm
    obtain ⟨h3, h4⟩ := (hlater p).1 h1
    obtain ⟨_, o1, m1, g1, g2, _⟩ := I.pendOk p h3
    exact ⟨fillP_at idOf _ h (nodup_filter_map _ I.pendInj) p (List.mem_filter.2 ⟨h3, h2⟩) (I.ids _ o1 g1 g2).2, hdead p h3 h4⟩
  have hfree' : ∀ (j : Nat) (oj : Oper), ops[j]? = some oj → kindO oj.op = 2 → (j ∈ js ∨ ∃ p ∈ pend.filter (fun p => !preB B p.1 i), p.1 = j) → S j = false → ρ' (idOf j) = none := by
    intro j oj hoj hkj hor hSj
    have hor' : j ∈ i :: js ∨ ∃ p ∈ pend, p.1 = j := by
      rcases hor with hm | ⟨p, hpm, rfl⟩
      · exact .inl (by simp [hm])
      · exact .inr ⟨p, ((hlater p).1 hpm).1, rfl⟩
    cases he : ρ' (idOf j) with
    | none => rfl
    | some l =>
      have := s.old (idOf j) l (by rw [fillP_length]; exact (I.ids j oj hoj hkj).2) he
      rw [I.free j oj hoj hkj hor' hSj] at this; cases this
  refine ⟨addS_clos I.clos hilt hp, ?_, hclK, hord, ?_, ?_, ?_, ?_, I.inj, ?_, ?_, ?_, ?_, ?_, ?_, ?_, ?_, hrun⟩
  · intro j hj
    simp only [addS, Bool.or_eq_true, decide_eq_true_eq] at hj
    rcases hj with rfl | hj
    · exact hin
    · exact fun hm => I.known j hj (by simp [hm])
  · rw [I.aeq, AX_ext hKn, AX_add c I.closK ho hKi v]
  · have := AX_add (a0 := a0) (vals := vals) c I.clos ho hSi v
    show ARel F' ρ' n (AX ops a0 _ (addS S i) ops.size) _
    rw [show addS S i = fun j => decide (j = i) || S j from rfl, this]
    exact ARel.put ⟨I.ar.size, I.ar.defers, fun t => VR.mono (n := (fillP idOf (pend.filter fun p => S p.1) h).length) I.step.rel.low s.fF s.fρ (I.ar.tmps t)⟩ (chkOp_dst (c.op i o ho)) hu
  · rw [hfil]; exact Step.revive I.step hlen hle s idOf _ hps
  · intro j oj hoj hkj
    have h1 := I.ids j oj hoj hkj
    have h2 := s.len
    rw [fillP_length] at h2
    exact ⟨h1.1, by omega⟩
  · intro j oj hoj hkj hor k hlive
    obtain ⟨l, hl, _, cs, g1, _⟩ := s.rel.liv _ k hlive
    by_cases hSj : S j = true
    · rcases hor with hm | ⟨p, hpm, rfl⟩
      · exact I.known j hSj (by simp [hm])
      · have hpm2 : p ∈ (pend.filter fun p => !preB B p.1 i).filter (fun p => S p.1) := List.mem_filter.2 ⟨hpm, hSj⟩
        obtain ⟨q1, q2⟩ := hps p hpm2
        obtain ⟨l0, r1, r2, cs0, r3, _⟩ := I.step.rel.liv _ _ q1
        have := s.fρ _ _ r1
        rw [hl] at this; cases this
        obtain ⟨b, k', l', e, e1, e2⟩ := s.img l.R ⟨_, k, l, hlive, hl, rfl⟩ (Array.getElem?_eq_some_iff.1 r3).1
        have := I.step.rel.inj b _ k' p.2 l' l (hle b k' e) q1 e1 r1 e2
        subst this
        exact q2 k' e
    · rw [hfree' j oj hoj hkj hor (by simpa using hSj)] at hl; cases hl
  · intro j oj hoj hkj hor hSj
    exact hfree' j oj hoj hkj hor (hadd j hSj).1
  · intro p hpm
    obtain ⟨h3, h4⟩ := (hlater p).1 hpm
    obtain ⟨h1, o', m, g1, g2, g3, g4, g5⟩ := I.pendOk p h3
    have hplt := (Array.getElem?_eq_some_iff.1 g1).1
    refine ⟨fun hm => h1 (by simp [hm]), o', m, g1, g2, ?_, by simp [hpk p h3, g4], ?_⟩
    · rw [hR p.1 h1 hplt]; exact g3
    · rw [hR p.1 h1 hplt]; exact g5
  · exact List.Sublist.nodup ((List.filter_sublist (l := pend)).map _) I.pendNd
  · intro j oj hoj hkj hm hSj
    have hjlt := (Array.getElem?_eq_some_iff.1 hoj).1
    obtain ⟨hSj, hne⟩ := hadd j hSj
    have hnj := hnotin j hm hne
    obtain ⟨b, q1, q2, q3⟩ := I.flo j oj hoj hkj hnj hSj
    rw [hR j hnj hjlt]
    refine ⟨b, q1, by simpa [hne] using q2, fun hb => ?_⟩
    have h4 := q3 hb
    simp only [hne, if_false]
    by_cases hk0 : kindO oj.op = 0
    · exact opI_kind0 hk0 h4 h'
    · have hk1 : kindO oj.op = 1 := by omega
      subst hb
      obtain ⟨aj, m1, m2⟩ := I.ldsOk j oj hoj hk1 hnj hSj q1
      have hnp : preB B j i = false := by
        cases hpj : preB B j i with
        | false => rfl
        | true => rw [hp j hpj] at hSj; cases hSj
      have : ∀ (l : List (Nat × IAct × IV)), oblI P ops B i h' l → (j, aj, vals j) ∈ l → opI P (ieval aj) oj.op h' = some (vals j, h') := by
        intro l
        induction l with
        | nil => intro _ hm; cases hm
        | cons q l ih =>
          intro hob hm
          simp only [oblI] at hob
          rcases List.mem_cons.1 hm with rfl | hm
          · simp only [hnp, Bool.false_eq_true, if_false, hoj, (looks_want m2).trans q1] at hob
            exact hob.1
          · split at hob
            · exact ih hob hm
            · exact ih hob.2 hm
      rw [← this lds hobl m1]
      exact (opI_congr (looks_eval m2)).symm
  · intro j oj hoj hkj hm hSj
    have hjlt := (Array.getElem?_eq_some_iff.1 hoj).1
    obtain ⟨hSj, hne⟩ := hadd j hSj
    have hnj := hnotin j hm hne
    rw [hR j hnj hjlt]
    rcases I.new j oj hoj hkj hnj hSj with ⟨h1, h2⟩ | ⟨p, hpm, h1⟩
    · exact .inl ⟨h1, by simpa [hne] using h2⟩
    · refine .inr ⟨p, (hlater p).2 ⟨hpm, ?_⟩, h1⟩
      cases hpj : preB B p.1 i with
      | false => rfl
      | true => rw [h1] at hpj; rw [hp j hpj] at hSj; cases hSj
  · intro j oj hoj hkj hm
    by_cases hne : j = i
    · simp [addS, hne]
    · have := I.eff j oj hoj hkj (hnotin j hm hne)
      simp [addS, this]
  · intro j oj hoj hkj hm hSj hwant
    have hjlt := (Array.getElem?_eq_some_iff.1 hoj).1
    obtain ⟨hSj, hne⟩ := hadd j hSj
    have hnj := hnotin j hm hne
    rw [hR j hnj hjlt] at hwant ⊢
    simpa [hne] using I.ldsOk j oj hoj hkj hnj hSj hwant
theorem DInv.any (c : DChk P n ops B) {Q : Exit → Act → World → Prop} (hQ : ∀ ra' w', IPost F0 ρ0 n h0 w0 K ra' w' → Q .normal ra' w') : ∀ (fuel : Nat) (listed : Array Bool) (S : Nat → Bool) (F : Frz) (ρ : Lay) (w : World) (ra : Act) (todo : List Nat) (a : IAct) (lds : List (Nat × IAct × IV)) (pend : List (Nat × Blk)) (h : Heap) (vals : Nat → IV),
    (∀ j, listed.getD j false = S j) → listed.size = ops.size → ((List.range ops.size).filter fun j => !S j).length = fuel → DInv P n ops B idOf K h0 a0 F0 ρ0 w0 S F ρ w ra todo a lds pend h vals → wpAny P .any ops Q fuel listed ra w := by
  intro fuel
  induction fuel with
  | zero =>
    intro listed S F ρ w ra todo a lds pend h vals hS hsz hcnt I
    have hall : ∀ j, j < ops.size → S j = true := by
      intro j hj
      have := List.eq_nil_of_length_eq_zero hcnt
      rw [List.filter_eq_nil_iff] at this
      simpa using this j (by simpa using hj)
    have hnil : Region.ready .any ops listed = [] := by
      rw [List.eq_nil_iff_forall_not_mem]
      intro j hj
      obtain ⟨h1, o, ho, _⟩ := mem_ready.1 hj
      have hjlt := (Array.getElem?_eq_some_iff.1 ho).1
      have := hS j
      rw [hall j hjlt] at this
      simp [hsz, hjlt] at h1 this
      rw [h1] at this; cases this
    obtain ⟨todo', a', lds', pend', vals', I, hhead⟩ := I.norm c
    have htodo : todo' = [] := by
      cases todo' with
      | nil => rfl
      | cons j js => exact absurd List.mem_cons_self (I.known j (hall j I.ord.1))
    subst htodo
    refine ⟨hnil, hQ _ _ ⟨a', fillP idOf pend' h, F, ρ, I.run, ?_, ?_⟩⟩
    · have : pend'.filter (fun p => S p.1) = pend' := List.filter_eq_self.2 fun p hp => by
        obtain ⟨_, o, m, g1, _⟩ := I.pendOk p hp
        exact hall _ (Array.getElem?_eq_some_iff.1 g1).1
      have hst := I.step
      rw [this] at hst
      exact hst
    · have he : ∀ j, KnX ops [] j = S j := by
        intro j
        by_cases hj : j < ops.size
        · simp [KnX, hj, hall j hj]
        · simp only [KnX, hj, decide_false, Bool.false_and]
          cases hs : S j with
          | false => rfl
          | true => exact absurd (I.clos j hs).1 hj
      rw [I.aeq, AX_ext he]
      exact I.ar
  | succ fuel ih =>
    intro listed S F ρ w ra todo a lds pend h vals hS hsz hcnt I
    have hnonempty : Region.ready .any ops listed ≠ [] := by
      intro hnil
      have hall : ∀ j, j < ops.size → S j = true := by
        intro j
        induction j using Nat.strongRecOn with
        | _ j ihj =>
          intro hj
          cases hs : S j with
          | true => rfl
          | false =>
            have hl := hS j
            rw [hs] at hl
            have : j ∈ Region.ready .any ops listed := mem_ready.2 ⟨by simp [hsz, hj] at hl ⊢; exact hl, ops[j], Array.getElem?_eq_getElem hj, fun e he hb => by
              have h1 := c.edge j _ (Array.getElem?_eq_getElem hj) e he hb
              rw [hS]; exact ihj e.on h1 (by omega)⟩
            rw [hnil] at this; cases this
      have : (List.range ops.size).filter (fun j => !S j) = [] := List.filter_eq_nil_iff.2 fun j hj => by simp [hall j (by simpa using hj)]
      rw [this] at hcnt; cases hcnt
    refine ⟨fun h0 => absurd h0 hnonempty, fun i hi => ?_⟩
    obtain ⟨hun, o, ho, hedges⟩ := mem_ready.1 hi
    have hilt := (Array.getElem?_eq_some_iff.1 ho).1
    have hSi : S i = false := by
      have := hS i
      simp [hsz, hilt] at hun this
      rw [hun] at this; exact this.symm
    have hpre : ∀ i', preB B i' i = true → S i' = true := by
      intro i' hp
      obtain ⟨e, he, hb, h1 | h1⟩ := c.sound i o i' ho hp
      · have := hedges e he hb
        rw [hS, h1] at this; exact this
      · have := hedges e he hb
        rw [hS] at this
        exact (I.clos e.on this).2 i' h1
    have hS' : ∀ j, (listed.setIfInBounds i true).getD j false = addS S i j := by
      intro j
      by_cases hj : j = i
      · subst hj; simp [addS, hsz, hilt]
      · have := hS j
        simp only [addS, hj, decide_false, Bool.false_or]
        rw [← this]
        simp [Array.getElem?_setIfInBounds_ne (Ne.symm hj)]
    have hcnt' : ((List.range ops.size).filter fun j => !addS S i j).length = fuel := by
      have h1 : (List.range ops.size).filter (fun j => !addS S i j) = ((List.range ops.size).filter (fun j => !S j)).filter (fun j => !decide (j = i)) := by
        rw [List.filter_filter]
        refine List.filter_congr fun j _ => ?_
        simp only [addS]
        cases decide (j = i) <;> cases S j <;> rfl
      have h2 : i ∈ (List.range ops.size).filter (fun j => !S j) := List.mem_filter.2 ⟨by simpa using hilt, by simp [hSi]⟩
      have h3 : ((List.range ops.size).filter (fun j => !S j)).Nodup := List.Sublist.nodup List.filter_sublist List.nodup_range
      rw [h1]
      have h4 : ((List.range ops.size).filter (fun j => !S j)).filter (fun j => !decide (j = i)) = ((List.range ops.size).filter (fun j => !S j)).erase i := by
        rw [List.Nodup.erase_eq_filter h3]
        refine List.filter_congr fun j _ => ?_
        by_cases hj : j = i <;> simp [hj]
      rw [h4, List.length_erase_of_mem h2, hcnt]; rfl
    obtain ⟨todo', a', lds', pend', vals', I, hhead⟩ := I.norm c
    have next : ∀ {F' : Frz} {ρ' : Lay} {w' : World} {ra' : Act} {todo'' : List Nat} {a'' : IAct} {lds'' : List (Nat × IAct × IV)} {pend'' : List (Nat × Blk)} {h'' : Heap} {vals'' : Nat → IV}, DInv P n ops B idOf K h0 a0 F0 ρ0 w0 (addS S i) F' ρ' w' ra' todo'' a'' lds'' pend'' h'' vals'' → wpAny P .any ops Q fuel (listed.setIfInBounds i true) ra' w' := fun I' =>
      ih _ _ _ _ _ _ _ _ _ _ _ _ hS' (by simp [hsz]) hcnt' I'
    have hread : ∀ t ∈ o.looksAt ops, AX ops a0 vals' S ops.size t = RA ops B a0 vals' i t := fun t ht =>
      AX_read c I.clos (pre_clos c hilt) ho hSi (pre_irr c hilt) hpre (fun _ h => h) ht ops.size
    have hops : ∀ o' ∈ ops.toList, o'.dst.all (· < n) = true := fun o' ho' => by
      obtain ⟨j, hj⟩ := List.getElem?_of_mem ho'
      rw [Array.getElem?_toList] at hj
      exact chkOp_dst (c.op j o' hj)
    unfold wpOp
    simp only [ho]
    by_cases hit : i ∈ todo'
    · -- an act on memory: the next one
      cases todo' with
      | nil => cases hit
      | cons j js =>
        obtain ⟨hjlt, hjn, _, hjeff, _⟩ := I.ord
        have hji : j = i := by
          rcases List.mem_cons.1 hit with h1 | h1
          · exact h1.symm
          · have := hjeff _ (Array.getElem?_eq_getElem hjlt) (hhead j js rfl _ (Array.getElem?_eq_getElem hjlt)) i h1
            exact absurd List.mem_cons_self (I.known j (hpre j this))
        subst hji
        have hk3 := hhead j js rfl o ho
        have hD := I.run
        simp only [DRun, ho, hk3] at hD
        obtain ⟨hlen, hle, _⟩ := I.seen hpre
        obtain ⟨hr1, _⟩ := I.step.rel.hide hlen hle
        have hra : ∀ t ∈ o.looksAt ops, a' t = AX ops a0 vals' S ops.size t := fun t ht => by
          rw [I.aeq]
          refine AX_read c I.closK I.clos ho (by simp [KnX]) hSi (fun i' hi' => ?_) hpre ht ops.size
          have h1 := I.ord.2.2.1 i' hi'
          have h2 := c.lt j hilt i' hi'
          simp only [KnX, Bool.and_eq_true, decide_eq_true_eq, Bool.not_eq_true', List.contains_eq_mem, decide_eq_false_iff_not]
          exact ⟨by omega, h1⟩
        have hD' := IOp_congr hra hD
        obtain ⟨b, hw⟩ := hD'.want
        rw [wantI_run I.ar hw hops]
        cases b with
        | true =>
          simp only [if_true]
          exact .inl (IOp.run hD' (c.op j o ho) hw hr1 I.ar.eval fun v u h' F' ρ' w' hk hst hv => next (I.act c ho hk3 hpre hst hv hk.1 hk.2))
        | false =>
          simp only [Bool.false_eq_true, if_false]
          have hk := hD'.skip hw
          exact next (I.act c ho hk3 hpre (Step.refl hr1) (VR.undef F ρ) hk.1 hk.2)
    · -- one that has been evaluated
      have hk3 : kindO o.op ≠ 3 := fun hk => by
        have := I.eff i o ho hk hit
        rw [hSi] at this; cases this
      have hkle := c.kind i o ho
      have skip : wantI ops o (RA ops B a0 vals' i) = some false → vals' i = .tup [] → (∀ p ∈ pend', p.1 ≠ i) → (if Region.wanted o (yielded ops ra.tmps) = true then o.wp P ra w (wpAny P .any ops Q fuel (listed.setIfInBounds i true)) Q ∨ o.asks P ra w ∧ LetsOut Q else wpAny P .any ops Q fuel (listed.setIfInBounds i true) (ra.put o.dst undef) w) := by
        intro hw hv hnp
        rw [wantI_run I.ar ((looks_want hread).trans hw) hops]
        simp only [Bool.false_eq_true, if_false]
        exact next (I.put c ho hSi hit hpre hnp (Step.refl I.step.rel) (by rw [hv]; exact VR.undef F ρ))
      by_cases hk1 : kindO o.op ≤ 1
      · have hnp : ∀ p ∈ pend', p.1 ≠ i := by
          rintro p hp rfl
          obtain ⟨_, o', m, g1, g2, _⟩ := I.pendOk p hp
          rw [ho] at g1; cases g1; omega
        obtain ⟨b, hw, hf, ht⟩ := I.flo i o ho hk1 hit hSi
        cases b with
        | false => exact skip hw (hf rfl) hnp
        | true =>
          rw [wantI_run I.ar ((looks_want hread).trans hw) hops]
          simp only [if_true]
          have hop := ht rfl
          rw [← opI_congr (looks_eval hread)] at hop
          obtain ⟨_, hop2⟩ := opI_mono hk1 hop (I.hle fun p => S p.1)
          obtain ⟨nx, u, W, ρ1, h1, h2, h3, h4⟩ := opI_run I.step.rel (ieval (AX ops a0 vals' S ops.size)) ra.eval I.ar.eval o hop2
          refine .inl ?_
          unfold Oper.wp
          rw [h1]
          have hn := next (I.put c ho hSi hit hpre hnp h3 h4)
          rcases h2 with rfl | ⟨rfl, rfl⟩
          · exact hn
          · exact hn
      · have hk2 : kindO o.op = 2 := by omega
        rcases I.new i o ho hk2 hit hSi with ⟨hw, hv⟩ | ⟨p, hp, hpi⟩
        · by_cases hex : ∃ p ∈ pend', p.1 = i
          · obtain ⟨p, hp, hpi⟩ := hex
            obtain ⟨_, o', m, g1, g2, g3, g4, g5⟩ := I.pendOk p hp
            rw [hpi] at g1 g5
            rw [ho] at g1; cases g1
            rw [hw] at g5; cases g5
          · exact skip hw hv fun p hp e => hex ⟨p, hp, e⟩
        · obtain ⟨_, o', m, g1, g2, g3, g4, g5⟩ := I.pendOk p hp
          rw [hpi] at g1 g3 g4 g5
          rw [ho] at g1; cases g1
          rw [wantI_run I.ar ((looks_want hread).trans g5) hops]
          simp only [if_true]
          have hnew := looks_new (fun t ht => (hread t ht).symm) g3
          have hop := newI_op hnew (fillP idOf (pend'.filter fun p => S p.1) h)
          obtain ⟨nx, u, W, ρ1, h1, h2, h3, h4⟩ := opI_run I.step.rel (ieval (AX ops a0 vals' S ops.size)) ra.eval I.ar.eval o hop
          have hbel : Belss h.length p.2.es := by
            have := newI_bel (n := h.length) (fun x => ?_) hnew
            · exact this
            · have := VR.bel I.step.rel.low _ _ (I.ar.eval x)
              rwa [fillP_length] at this
          obtain ⟨ρ2, I'⟩ := I.make c ho hSi hpre hp hpi g4 hbel h3 h4
          refine .inl ?_
          unfold Oper.wp
          rw [h1]
          have hn := next I'
          rcases h2 with rfl | ⟨rfl, rfl⟩
          · exact hn
          · exact hn
end
end Go.Ideal
namespace Go.Ideal
def ordC (ops : Array Oper) (B : List Nat) : List Nat → Bool
  | [] => true
  | j :: js => decide (j < ops.size) && !js.contains j && (j :: js).all (fun i => !preB B i j) && (match ops[j]? with | some o => kindO o.op != 3 || js.all (fun k => preB B j k) | none => false) && ordC ops B js
def chkD (P : Program) (n : Nat) (ops : Array Oper) (B ord allocs : List Nat) : Bool :=
  ops.toList.all (chkOp P n) &&
  (List.range ops.size).all (fun j => match ops[j]? with
    | none => false
    | some o =>
      o.after.toList.all (fun e => !Region.binds .any e || decide (e.on < j)) &&
      decide (B.getD j 0 < 2 ^ j) &&
      (List.range j).all (fun i => !preB B i j || (o.after.toList.any (fun e => Region.binds .any e && (e.on == i || preB B i e.on)) && (B.getD i 0 ||| B.getD j 0) == B.getD j 0)) &&
      (List.range j).all (fun i => match ops[i]? with
        | none => false
        | some oi => (oi.apart ops o || preB B i j) && (!(kindO oi.op == 3 && kindO o.op == 3) || preB B i j)) &&
      decide (kindO o.op ≤ 3) && (kindO o.op != 2 || allocs.contains j) && ord.contains j) &&
  ordC ops B ord
theorem ordC_ok {ops : Array Oper} {B : List Nat} : ∀ {ord : List Nat}, ordC ops B ord = true → OrdOk ops B ord
  | [], _ => trivial
  | j :: js, h => by
    simp only [ordC, Bool.and_eq_true, decide_eq_true_eq, Bool.not_eq_true', List.contains_eq_mem, decide_eq_false_iff_not] at h
    obtain ⟨⟨⟨⟨h1, h2⟩, h3⟩, h4⟩, h5⟩ := h
    refine ⟨h1, h2, fun i hi hm => ?_, fun o ho hk k hkm => ?_, ordC_ok h5⟩
    · have := List.all_eq_true.1 h3 i hm
      simp [hi] at this
    · rw [ho] at h4
      simp only [Bool.or_eq_true, bne_iff_ne, ne_eq, hk, not_true_eq_false, false_or] at h4
      exact List.all_eq_true.1 h4 k hkm
theorem preB_lt {B : List Nat} {i j : Nat} (h : B.getD j 0 < 2 ^ j) (hp : preB B i j = true) : i < j := by
  rcases Nat.lt_or_ge i j with hlt | hge
  · exact hlt
  · unfold preB at hp
    rw [Nat.testBit_lt_two_pow (Nat.lt_of_lt_of_le h (Nat.pow_le_pow_right (by omega) hge))] at hp
    cases hp
section
variable {P : Program} {n : Nat} {ops : Array Oper} {B ord allocs : List Nat}
theorem chkD_at (h : chkD P n ops B ord allocs = true) {j : Nat} {o : Oper} (ho : ops[j]? = some o) :
    chkOp P n o = true ∧ (∀ e ∈ o.after, Region.binds .any e = true → e.on < j) ∧ B.getD j 0 < 2 ^ j ∧
      (∀ i, i < j → preB B i j = true → (∃ e ∈ o.after, Region.binds .any e = true ∧ (e.on = i ∨ preB B i e.on = true)) ∧ (B.getD i 0 ||| B.getD j 0) = B.getD j 0) ∧
      (∀ i oi, i < j → ops[i]? = some oi → (oi.apart ops o = true ∨ preB B i j = true) ∧ (kindO oi.op = 3 → kindO o.op = 3 → preB B i j = true)) ∧ kindO o.op ≤ 3 ∧ (kindO o.op = 2 → j ∈ allocs) ∧ j ∈ ord := by
  have hlt : j < ops.size := (Array.getElem?_eq_some_iff.1 ho).1
  unfold chkD at h
  simp only [Bool.and_eq_true] at h
  obtain ⟨⟨h1, h2⟩, h3⟩ := h
  have hj := List.all_eq_true.1 h2 j (by simpa using hlt)
  simp only [ho, Bool.and_eq_true, decide_eq_true_eq] at hj
  obtain ⟨⟨⟨⟨⟨⟨g1, g2⟩, g3⟩, g4⟩, g5⟩, g6⟩, g7⟩ := hj
  refine ⟨List.all_eq_true.1 h1 o (by have := Array.mem_of_getElem? ho; simpa using this), fun e he hb => ?_, g2, fun i hi hp => ?_, fun i oi hi hoi => ?_, g5, fun hk => ?_, by simpa using g7⟩
  · have := List.all_eq_true.1 g1 e (by simpa using he)
    simpa [hb] using this
  · have := List.all_eq_true.1 g3 i (by simpa using hi)
    simp only [hp, Bool.not_true, Bool.false_or, Bool.and_eq_true, beq_iff_eq] at this
    refine ⟨?_, this.2⟩
    obtain ⟨e, he, hb⟩ := List.any_eq_true.1 this.1
    simp only [Bool.and_eq_true, Bool.or_eq_true, beq_iff_eq] at hb
    exact ⟨e, by simpa using he, hb.1, hb.2⟩
  · have := List.all_eq_true.1 g4 i (by simpa using hi)
    simp only [hoi, Bool.and_eq_true, Bool.or_eq_true, Bool.not_eq_true', Bool.and_eq_false_iff, beq_eq_false_iff_ne, ne_eq] at this
    refine ⟨this.1, fun h1 h2 => ?_⟩
    rcases this.2 with (h | h) | h
    · exact absurd h1 h
    · exact absurd h2 h
    · exact h
  · simp only [Bool.or_eq_true, bne_iff_ne, ne_eq, List.contains_eq_mem, decide_eq_true_eq] at g6
    exact g6.resolve_left fun h => h hk
theorem chkD_chk (h : chkD P n ops B ord allocs = true) : DChk P n ops B where
  op := fun j o ho => (chkD_at h ho).1
  edge := fun j o ho => (chkD_at h ho).2.1
  sound := fun j o i ho hp => ((chkD_at h ho).2.2.2.1 i (preB_lt (chkD_at h ho).2.2.1 hp) hp).1
  trans := fun i j k hk hij hjk => by
    have ho := Array.getElem?_eq_getElem hk
    have h1 := ((chkD_at h ho).2.2.2.1 j (preB_lt (chkD_at h ho).2.2.1 hjk) hjk).2
    unfold preB at *
    rw [← h1, Nat.testBit_or, hij, Bool.true_or]
  apart := fun i j oi oj hlt hi hj => ((chkD_at h hj).2.2.2.2.1 i oi hlt hi).1
  eff := fun i j oi oj hlt hi hj h1 h2 => ((chkD_at h hj).2.2.2.2.1 i oi hlt hi).2 h1 h2
  kind := fun j o ho => (chkD_at h ho).2.2.2.2.2.1
end
theorem idxOf_inj {l : List Nat} {i j : Nat} (hi : i ∈ l) (hj : j ∈ l) (h : l.idxOf i = l.idxOf j) : i = j := by
  have h1 := List.getElem_idxOf (List.idxOf_lt_length_of_mem hi)
  have h2 := List.getElem_idxOf (List.idxOf_lt_length_of_mem hj)
  rw [← h1, ← h2]
  congr 1
theorem Step.reserve {F : Frz} {ρ : Lay} {h : Heap} {w : World} (hr : Rel F ρ h w) (k : Nat) : Step F ρ h w F ρ (h ++ List.replicate k none) w := by
  have hget : ∀ (b : Nat) (x : Blk), (h ++ List.replicate k none)[b]? = some (some x) → h[b]? = some (some x) := by
    intro b x e
    rcases Nat.lt_or_ge b h.length with hb | hb
    · rwa [List.getElem?_append_left hb] at e
    · rw [List.getElem?_append_right hb, List.getElem?_replicate] at e
      split at e <;> cases e
  exact ⟨FLe.refl F, fun _ _ e => e, ⟨hr.frz, fun b x e => hr.liv b x (hget b x e), fun b b' x x' l l' e e' => hr.inj b b' x x' l l' (hget b x e) (hget b' x' e'), fun b l e => by have := hr.low b l e; simp; omega⟩,
    fun _ _ _ => rfl, fun i ⟨b, x, l, e, h1, h2⟩ _ => ⟨b, x, l, hget b x e, h1, h2⟩, fun _ _ e => .inl e, by simp, fun _ _ _ e => e, Nat.le_refl _, rfl, rfl, rfl⟩
theorem IWp.draw {P : Program} {n : Nat} {Q : IExit → IAct → Heap → Prop} {a : IAct} {h : Heap} {id : Nat} {ops : Array Oper} {B ord allocs : List Nat} (hm : P.follows .mixedOrders = true) (hc : chkD P n ops B ord allocs = true)
    (hi : DRun P ops B (fun j => h.length + allocs.idxOf j) (fun a' h' => Q .normal a' h') ord a [] [] (h ++ List.replicate allocs.length none)) : IWp P n (.region id ops true) Q a h := by
  intro F ρ w ra hr ar
  have c := chkD_chk hc
  have hord : OrdOk ops B ord := by
    unfold chkD at hc
    simp only [Bool.and_eq_true] at hc
    exact ordC_ok hc.2
  have s1 : Step F ρ h w F ρ (h ++ List.replicate allocs.length none) { w with drawn := w.drawn + 1 } := (Step.of_heap (W := { w with drawn := w.drawn + 1 }) hr rfl rfl rfl rfl).trans (Step.reserve (w := { w with drawn := w.drawn + 1 }) (hr.of_heap rfl) _)
  have hdead : ∀ (b : Nat) (x : Blk), h.length ≤ b → (h ++ List.replicate allocs.length none)[b]? = some (some x) → False := by
    intro b x hb e
    rw [List.getElem?_append_right hb, List.getElem?_replicate] at e
    split at e <;> cases e
  refine wp_region_any hm (DInv.any (K := fun a' h' => Q .normal a' h') (h0 := h) (a0 := a) (F0 := F) (ρ0 := ρ) (w0 := w) (idOf := fun j => h.length + allocs.idxOf j) c ?_ ops.size (Array.replicate ops.size false) (fun _ => false) F ρ { w with drawn := w.drawn + 1 } ra ord a [] [] (h ++ List.replicate allocs.length none) (fun _ => .any) ?_ (by simp) ?_ ?_)
  · rintro ra' w' ⟨a', h', F', ρ', k, st, ar'⟩
    exact ⟨.normal, a', h', F', ρ', k, rfl, st, ar'⟩
  · intro j
    by_cases hj : j < ops.size <;> simp [hj]
  · have : (List.range ops.size).filter (fun _ => !false) = List.range ops.size := List.filter_eq_self.2 fun _ _ => rfl
    rw [this]; simp
  · have hkn : ∀ i, KnX ops ord i = false := by
      intro i
      by_cases hi : i < ops.size
      · have := (chkD_at hc (Array.getElem?_eq_getElem hi)).2.2.2.2.2.2.2
        simp [KnX, this]
      · simp [KnX, hi]
    have hax : ∀ i, AX ops a (fun _ => IV.any) (fun _ => false) i = a := by
      intro i
      induction i with
      | zero => rfl
      | succ i ih => funext t; simp [AX, ih]
    have hk2 : ∀ (j : Nat) (o : Oper), ops[j]? = some o → kindO o.op = 2 → j ∈ allocs := fun j o ho hk => (chkD_at hc ho).2.2.2.2.2.2.1 hk
    refine ⟨fun j hj => (by cases hj), fun j hj => (by cases hj), fun j hj => (by rw [hkn] at hj; cases hj), hord, ?_, ?_, by simpa [fillP] using s1, ?_, ?_, ?_, ?_, by simp, by simp, ?_, ?_, ?_, ?_, hi⟩
    · rw [AX_ext hkn, hax]
    · rw [hax]; exact ar
    · intro j o ho hk
      have := List.idxOf_lt_length_of_mem (hk2 j o ho hk)
      simp; omega
    · intro i j oi oj hi hj h1 h2 e
      exact idxOf_inj (hk2 i oi hi h1) (hk2 j oj hj h2) (by omega)
    · intro j o ho hk _ k e
      exact hdead _ k (by omega) e
    · intro j o ho hk _ _
      cases he : ρ (h.length + allocs.idxOf j) with
      | none => rfl
      | some l => have := hr.low _ l he; omega
    · intro j o ho hk hm
      exact absurd (chkD_at hc ho).2.2.2.2.2.2.2 hm
    · intro j o ho hk hm
      exact absurd (chkD_at hc ho).2.2.2.2.2.2.2 hm
    · intro j o ho hk hm
      exact absurd (chkD_at hc ho).2.2.2.2.2.2.2 hm
    · intro j o ho hk hm
      exact absurd (chkD_at hc ho).2.2.2.2.2.2.2 hm
structure DI where
  B : List Nat
  ord : List Nat
  allocs : List Nat
def bK (v : IV) (X Y : Prop) : Prop := match v with | .bool true => X | .bool false => Y | _ => False
def bK' (v : IV) (X Y : Prop) : Prop := match v with | .bool b => if b = true then X else Y | _ => False
def hold (h : Heap) : List Nat → Heap
  | [] => h
  | j :: js => h ++ List.replicate (j :: js).length none
theorem hold_eq (h : Heap) : ∀ l : List Nat, hold h l = h ++ List.replicate l.length none
  | [] => by simp [hold]
  | _ :: _ => rfl
def IC (P : Program) (n : Nat) (D : Nat → DI) : Code → (IExit → IAct → Heap → Prop) → IAct → Heap → Prop
  | .skip, Q, a, h => Q .normal a h
  | .region id ops dr, Q, a, h =>
    match dr with
    | true => DRun P ops (D id).B (fun j => h.length + (D id).allocs.idxOf j) (fun a' h' => Q .normal a' h') (D id).ord a [] [] (hold h (D id).allocs)
    | false => IRun P ops (fun a' h' => Q .normal a' h') ops.toList a h
  | .seq x y, Q, a, h => IC P n D x (Z4 (IC P n D y Q) Q) a h
  | .cond c x y, Q, a, h => bK' (ieval a c) (IC P n D x Q a h) (IC P n D y Q a h)
  | .block id c, Q, a, h => IC P n D c (Zq id Q) a h
  | .loop c, Q, a, h => ILoop P n c Q a h
  | .exit id, Q, a, h => Q (.exit id) a h
  | .ret, Q, a, h => Q .ret a h
  | _, _, _, _ => False
def chkC (P : Program) (n : Nat) (D : Nat → DI) : Code → Bool
  | .skip => true
  | .region id ops dr => match dr with
    | true => chkD P n ops (D id).B (D id).ord (D id).allocs
    | false => ops.toList.all (chkOp P n)
  | .seq x y => chkC P n D x && chkC P n D y
  | .cond _ x y => chkC P n D x && chkC P n D y
  | .block _ c => chkC P n D c
  | .loop c => chkC P n D c
  | .exit _ => true
  | .ret => true
  | _ => false
theorem iThen_mono {next next' : IAct → Heap → Prop} {Q : IExit → IAct → Heap → Prop} (hn : ∀ a h, next a h → next' a h) : ∀ e a h, Z4 next Q e a h → Z4 next' Q e a h := by
  intro e a h hq
  cases e <;> first | exact hn _ _ hq | exact hq
theorem IC.sound {P : Program} {n : Nat} {D : Nat → DI} (hm : P.follows .mixedOrders = true) : ∀ (c : Code), chkC P n D c = true → ∀ (Q : IExit → IAct → Heap → Prop) (a : IAct) (h : Heap), IC P n D c Q a h → IWp P n c Q a h
  | .skip, _, Q, a, h, hi => IWp.skip hi
  | .region id ops dr, hc, Q, a, h, hi => by
    cases dr with
    | true => simp only [IC, hold_eq] at hi; exact IWp.draw hm hc hi
    | false => exact IWp.region hc hi
  | .seq x y, hc, Q, a, h, hi => by
    simp only [chkC, Bool.and_eq_true] at hc
    exact IWp.seq ((IC.sound hm x hc.1 _ a h hi).mono (iThen_mono fun a' h' h1 => IC.sound hm y hc.2 Q a' h' h1))
  | .cond c x y, hc, Q, a, h, hi => by
    simp only [chkC, Bool.and_eq_true] at hc
    simp only [IC, bK'] at hi
    split at hi
    · rename_i b hb
      refine IWp.cond hb (fun ht => ?_) (fun hf => ?_)
      · rw [if_pos ht] at hi; exact IC.sound hm x hc.1 Q a h hi
      · rw [if_neg (by simp [hf])] at hi; exact IC.sound hm y hc.2 Q a h hi
    · exact hi.elim
  | .block id c, hc, Q, a, h, hi => IWp.block (IC.sound hm c hc _ a h hi)
  | .loop c, hc, Q, a, h, hi => IWp.loop hi
  | .exit id, _, Q, a, h, hi => IWp.exit hi
  | .ret, _, Q, a, h, hi => IWp.ret hi
  | .rangeFunc .., hc, _, _, _, _ => by simp [chkC] at hc
  | .scope _, hc, _, _, _, _ => by simp [chkC] at hc
  | .label _, hc, _, _, _, _ => by simp [chkC] at hc
  | .goto _, hc, _, _, _, _ => by simp [chkC] at hc
  | .refuse _, hc, _, _, _, _ => by simp [chkC] at hc
theorem IOp.mono {P : Program} {ops : Array Oper} {o : Oper} {a : IAct} {h : Heap} {K K' : IV → Heap → Prop} (hk : ∀ v h', K v h' → K' v h') (hi : IOp P ops o a h K) : IOp P ops o a h K' := by
  unfold IOp at hi ⊢
  split at hi
  · unfold Zm at hi ⊢
    split at hi
    · exact hi.mono hk
    · exact hk _ _ hi
    · exact hi
  · unfold callK at hi ⊢
    split at hi
    · split at hi
      · exact ⟨hi.1, hi.2.mono hk⟩
      · exact hi
    · exact hk _ _ hi
    · exact hi
  · have hm : ∀ {x : Option (IV × Heap)} {f : IV × Heap → Heap}, oK x (fun p => K p.1 (f p)) → oK x (fun p => K' p.1 (f p)) := by
      intro x f hx
      unfold oK at hx ⊢
      split at hx
      · exact hk _ _ hx
      · exact hx
    split at hi
    · exact hm (f := fun _ => h) hi
    · exact hm (f := fun _ => h) hi
    · exact hm (f := fun p => p.2) hi
theorem IRun.mono {P : Program} {ops : Array Oper} {K K' : IAct → Heap → Prop} (hk : ∀ a h, K a h → K' a h) : ∀ (l : List Oper) (a : IAct) (h : Heap), IRun P ops K l a h → IRun P ops K' l a h
  | [], a, h, hi => hk a h hi
  | o :: os, a, h, hi => by
    simp only [IRun] at hi ⊢
    exact hi.mono fun v h' h1 => IRun.mono hk os _ h' h1
theorem oK_mono {α : Type} {x : Option α} {K K' : α → Prop} (hk : ∀ v, K v → K' v) (hi : oK x K) : oK x K' := by
  unfold oK at hi ⊢
  split at hi
  · exact hk _ hi
  · exact hi
theorem DRun.mono {P : Program} {ops : Array Oper} {B : List Nat} {idOf : Nat → Nat} {K K' : IAct → Heap → Prop} (hk : ∀ a h, K a h → K' a h) : ∀ (l : List Nat) (a : IAct) (lds : List (Nat × IAct × IV)) (pend : List (Nat × Blk)) (h : Heap), DRun P ops B idOf K l a lds pend h → DRun P ops B idOf K' l a lds pend h
  | [], a, _, pend, h, hi => hk _ _ hi
  | j :: js, a, lds, pend, h, hi => by
    simp only [DRun] at hi ⊢
    split at hi
    · exact hi
    · split at hi
      · exact oK_mono (fun p h1 => DRun.mono hk js _ _ _ _ h1) hi
      · exact oK_mono (fun p h1 => DRun.mono hk js _ _ _ _ h1) hi
      · split at hi
        · exact oK_mono (fun p h1 => DRun.mono hk js _ _ _ _ h1) hi
        · exact DRun.mono hk js _ _ _ _ hi
        · exact hi
      · exact hi.mono fun v h' h1 => ⟨h1.1, DRun.mono hk js _ _ _ _ h1.2⟩
      · exact hi
theorem ILoop.mono {P : Program} {n : Nat} {c : Code} {Q Q' : IExit → IAct → Heap → Prop} {a : IAct} {h : Heap} (hq : ∀ e a h, Q e a h → Q' e a h) (hl : ILoop P n c Q a h) : ILoop P n c Q' a h := by
  intro F ρ w ra hr ar b k cs
  obtain ⟨e, ra', w', ⟨ie, a', h', F', ρ', k', rest⟩, harr⟩ := hl F ρ w ra hr ar b k cs
  exact ⟨e, ra', w', ⟨ie, a', h', F', ρ', hq _ _ _ k', rest⟩, harr⟩
theorem IC.mono {P : Program} {n : Nat} {D : Nat → DI} : ∀ (c : Code) {Q Q' : IExit → IAct → Heap → Prop} {a : IAct} {h : Heap}, (∀ e a h, Q e a h → Q' e a h) → IC P n D c Q a h → IC P n D c Q' a h
  | .skip, Q, Q', a, h, hq, hi => hq _ _ _ hi
  | .region id ops dr, Q, Q', a, h, hq, hi => by
    cases dr with
    | true => exact DRun.mono (fun a h => hq .normal a h) _ _ _ _ _ hi
    | false => exact IRun.mono (fun a h => hq .normal a h) _ _ _ hi
  | .seq x y, Q, Q', a, h, hq, hi => by
    refine IC.mono x ?_ hi
    intro e a' h' h1
    cases e with
    | normal => exact IC.mono y hq h1
    | exit id => exact hq _ _ _ h1
    | ret => exact hq _ _ _ h1
  | .cond c x y, Q, Q', a, h, hq, hi => by
    simp only [IC, bK'] at hi ⊢
    split at hi
    · split at hi
      · rename_i hb; rw [if_pos hb]; exact IC.mono x hq hi
      · rename_i hb; rw [if_neg hb]; exact IC.mono y hq hi
    · exact hi
  | .block id c, Q, Q', a, h, hq, hi => by
    refine IC.mono c ?_ hi
    intro e a' h' h1
    cases e with
    | normal => exact hq _ _ _ h1
    | ret => exact hq _ _ _ h1
    | exit id' =>
      simp only [Zq] at h1 ⊢
      split
      · rename_i hid; rw [if_pos hid] at h1; exact hq _ _ _ h1
      · rename_i hid; rw [if_neg hid] at h1; exact hq _ _ _ h1
  | .loop c, Q, Q', a, h, hq, hi => ILoop.mono hq hi
  | .exit id, Q, Q', a, h, hq, hi => hq _ _ _ hi
  | .ret, Q, Q', a, h, hq, hi => hq _ _ _ hi
  | .rangeFunc .., _, _, _, _, _, hi => hi
  | .scope _, _, _, _, _, _, hi => hi
  | .label _, _, _, _, _, _, hi => hi
  | .goto _, _, _, _, _, _, hi => hi
  | .refuse _, _, _, _, _, _, hi => hi
theorem ILoop.round {P : Program} {n : Nat} {D : Nat → DI} (hm : P.follows .mixedOrders = true) {c : Code} (hc : chkC P n D c = true) {Q : IExit → IAct → Heap → Prop} {L : IAct → Heap → Prop} (hL : ∀ a h, L a h → ILoop P n c Q a h) {a : IAct} {h : Heap} (hi : IC P n D c (Z4 L Q) a h) : ILoop P n c Q a h :=
  ILoop.unfold ((IC.sound hm c hc _ a h hi).mono (iThen_mono hL))
inductive RV where
  | v (x : IV)
  | c (x : IV) (ty : TypeId)
def resV (P : Program) (h : Heap) : List RV → Option (List IV)
  | [] => some []
  | .v x :: rs => (resV P h rs).map (x :: ·)
  | .c x ty :: rs => match Z1 P ty x h with
    | some v => (resV P h rs).map (v :: ·)
    | none => none
def rvOf (a : IAct) : ResultVar → RV
  | .tmp t => .v (a t)
  | .cell t ty => .c (a t) ty
theorem resV_eq {P : Program} {a : IAct} {h : Heap} : ∀ rs : List ResultVar, resI P a h rs = resV P h (rs.map (rvOf a))
  | [] => rfl
  | .tmp t :: rs => by simp [resI, resV, rvOf, resV_eq rs]
  | .cell t ty :: rs => by
    simp only [resI, resV, rvOf, List.map_cons, resV_eq rs]
    cases Z1 P ty (a t) h <;> rfl
def Zd (P : Program) (l : List RV) (h : Heap) (K : IV → Heap → Prop) : Prop := oK ((resV P h l).map tupI) fun r => K r h
def finK (P : Program) (rs : List ResultVar) (K : IV → Heap → Prop) : IExit → IAct → Heap → Prop
  | .exit _, _, _ => False
  | .normal, a, h => Zd P (rs.map (rvOf a)) h K
  | .ret, a, h => Zd P (rs.map (rvOf a)) h K
theorem Z5.ofIC {P : Program} {f : FuncId} {fn : Func} {c : Code} {D : Nat → DI} {args : List IV} {h : Heap} {K : IV → Heap → Prop} (hm : P.follows .mixedOrders = true) (hf : P.funcs[f]? = some fn) (hb : fn.body = some c) (hn : args.length ≤ fn.ntmps) (hc : chkC P fn.ntmps D c = true)
    (hi : IC P fn.ntmps D c (finK P fn.results.toList K) (actI args) h) : Z5 P f args h K := by
  refine Z5.of hf hb hn ((IC.sound hm c hc _ _ h hi).mono ?_)
  have key : ∀ a' h', Zd P (fn.results.toList.map (rvOf a')) h' K → ∃ r, retI P a' h' fn.results.toList = some r ∧ K r h' := by
    intro a' h' hr
    unfold Zd oK at hr
    rw [← resV_eq] at hr
    split at hr
    · rename_i r hr'; exact ⟨r, hr', hr⟩
    · exact hr.elim
  intro e a' h' hq
  cases e with
  | normal => exact ⟨.inl rfl, key a' h' hq⟩
  | ret => exact ⟨.inr rfl, key a' h' hq⟩
  | exit id => exact hq.elim
end Go.Ideal
namespace Go.Ideal
theorem Zc {α : Sort _} {a b : α} (h : a = b) : a = b := h
def oD (x : Option IV) (h : Heap) (K : IV → Prop) : Prop := oK (gOp (some true) (x.map fun v => (v, h)) h) fun p => K p.1
def oG (w : Option Bool) (x : Option IV) (h : Heap) (K : IV → Prop) : Prop := oK (gOp w (x.map fun v => (v, h)) h) fun p => K p.1
def oP (w : Option Bool) (x : Option (IV × Heap)) (h : Heap) (K : IV → Prop) : Prop := oK (gOp w x h) fun p => K p.1
def oA (x : Option (IV × Heap)) (h : Heap) (K : IV → Heap → Prop) : Prop := oK (gOp (some true) x h) fun p => K p.1 p.2
def oS (x : Option Heap) (h : Heap) (K : Heap → Prop) : Prop := oK (gOp (some true) (x.map fun h' => (IV.any, h')) h) fun p => K p.2
def gW (v : IV) (b : Bool) : Option Bool := match v with
  | .bool x => some (x == b)
  | .tup [] => some false
  | _ => none
def Ze (c x y : IV) (h : Heap) : Option (IV × Heap) := match c with
  | .bool b => some (if b then x else y, h)
  | _ => none
def nilI (x : IV) (h : Heap) : Option (IV × Heap) := match x with
  | .ptr b i o => some (.ptr b i o, h)
  | .fptr cs => some (.fptr cs, h)
  | .fn f cs => some (.fn f cs, h)
  | _ => none
def Zo (P : Program) (t : TypeId) (ps : List (Nat × IV)) : Option IV :=
  match zrO P t, flO P t with
  | some z, some fl => (fillI (fl[·]?) z ps).map IV.agg
  | _, _ => none
def ZA (P : Program) (t : TypeId) (n : Nat) (ps : List (Nat × IV)) (h : Heap) : Option (IV × Heap) :=
  match elO P t with
  | some e => match zrO P e, szO P e with
    | some z, some s => if n * s ≤ 16777216 ∧ 0 < s ∧ z.length = s then
        (fillI (fun i => some (i * s, s)) (List.replicate n z).flatten ps).map fun cs => (.sl h.length 0 n, h ++ [some ⟨s, e, chunks s n cs⟩]) else none
    | _, _ => none
  | none => none
def newA (P : Program) (t : TypeId) : Option (Option Nat × Blk) := (zrO P t).map fun z => (none, ⟨z.length, t, [z]⟩)
def newS (P : Program) (t : TypeId) (n : Nat) (ps : List (Nat × IV)) : Option (Option Nat × Blk) :=
  match elO P t with
  | some e => match zrO P e, szO P e with
    | some z, some s => if n * s ≤ 16777216 ∧ 0 < s ∧ z.length = s then
        (fillI (fun i => some (i * s, s)) (List.replicate n z).flatten ps).map fun cs => (some n, ⟨s, e, chunks s n cs⟩) else none
    | _, _ => none
  | none => none
def Zb (x : Option IV) (v : IV) (h : Heap) : Prop := (x.map fun v => (v, h)) = some (v, h)
def ZS (w : Option Bool) (x : Option IV) (v : IV) (h : Heap) : Prop := match w with | some true => (x.map fun v => (v, h)) = some (v, h) | _ => True
section
variable {P : Program} {x v : IV} {h h' : Heap} {K : IV → Prop} {KH : IV → Heap → Prop}
@[simp] theorem oK_some {α : Type} (x : α) (K : α → Prop) : oK (some x) K = K x := Zc rfl
@[simp] theorem oD_some : oD (some v) h K = K v := Zc rfl
@[simp] theorem oA_some {p : IV × Heap} : oA (some p) h KH = KH p.1 p.2 := Zc rfl
@[simp] theorem oS_some {K : Heap → Prop} : oS (some h') h K = K h' := Zc rfl
@[simp] theorem gW_bool (b c : Bool) : gW (.bool b) c = some (b == c) := Zc rfl
@[simp] theorem gW_tup (c : Bool) : gW (.tup []) c = some false := Zc rfl
@[simp] theorem nilI_ptr (b i o : Nat) : nilI (.ptr b i o) h = some (.ptr b i o, h) := Zc rfl
@[simp] theorem callK_fn {g : FuncId} {caps args : List IV} : callK P (some true) (.fn g caps) args h KH = (goO P g = true ∧ Z5 P g (args ++ caps) h KH) := Zc rfl
@[simp] theorem retK_nil : Zd P [] h KH = KH (.tup []) h := Zc rfl
@[simp] theorem retK_v : Zd P [.v x] h KH = KH x h := Zc rfl
@[simp] theorem reads_some : Zb (some v) v h = True := by simp [Zb]
end
def cL : Code → Code
  | .seq x _ => x
  | .cond _ x _ => x
  | .block _ c => c
  | .loop c => c
  | c => c
def cR : Code → Code
  | .seq _ y => y
  | .cond _ _ y => y
  | c => c
theorem bK'_mono {v : IV} {X Y X' Y' : Prop} (hx : X → X') (hy : Y → Y') (p : bK' v X Y) : bK' v X' Y' := by
  unfold bK' at *
  split at p
  · split at p
    · rename_i h; rw [if_pos h]; exact hx p
    · rename_i h; rw [if_neg h]; exact hy p
  · exact p
def Says (r : IV) (h : Heap) (r2 : IV) (h2 : Heap) : Prop :=
  ∀ (F : Frz) (ρ : Lay) (w : World) (u : Value), Rel F ρ h w → VR F ρ r u → ∃ F', Step F ρ h w F' ρ h2 w ∧ VR F' ρ r2 u
theorem Z5.says {P : Program} {f : FuncId} {args : List IV} {h : Heap} {K K' : IV → Heap → Prop} (hc : Z5 P f args h K) (hk : ∀ r h', K r h' → ∃ r2 h2, Says r h' r2 h2 ∧ K' r2 h2) : Z5 P f args h K' := by
  intro F ρ w us hr hv
  refine (hc F ρ w us hr hv).mono ?_
  rintro e w' ⟨r, h', v, F', ρ', k, rfl, st, hv'⟩
  obtain ⟨r2, h2, hs, k2⟩ := hk r h' k
  obtain ⟨F2, s2, v2⟩ := hs F' ρ' w' v st.rel hv'
  exact ⟨r2, h2, v, F2, ρ', k2, rfl, st.trans s2, v2⟩
theorem Z5.drop {P : Program} {f : FuncId} {args : List IV} {h : Heap} {K K' : IV → Heap → Prop} (hc : Z5 P f args h K)
    (hk : ∀ r h', K r h' → h.length ≤ h'.length → Bel h.length r ∧ (∀ (b : Nat) (k : Blk), b < h.length → h'[b]? = some (some k) → Belss h.length k.es) ∧ K' r (h'.take h.length)) : Z5 P f args h K' := by
  intro F ρ w us hr hv
  refine (hc F ρ w us hr hv).mono ?_
  rintro e w' ⟨r, h', v, F', ρ', k, rfl, st, hv'⟩
  obtain ⟨h1, h2, h3⟩ := hk r h' k st.len
  obtain ⟨q1, q2⟩ := Step.drop st.rel h.length st.len h2
  have hρ : ∀ b l, b < h.length → ρ' b = some l → (if b < h.length then ρ' b else none) = some l := fun b l hb e => by rw [if_pos hb]; exact e
  refine ⟨r, h'.take h.length, v, F', fun b => if b < h.length then ρ' b else none, h3, rfl, ⟨st.fF, fun b l e => ?_, q1, st.frame, fun i hi => st.img i (q2 i hi), st.newF, ?_, fun b l hb e => ?_, st.size, st.os, st.tape, st.output⟩, VR.move (n := h.length) (FLe.refl F') hρ r v h1 hv'⟩
  · rw [if_pos (hr.low b l e)]; exact st.fρ b l e
  · rw [List.length_take, Nat.min_eq_left st.len]; exact Nat.le_refl _
  · rw [if_pos hb] at e; exact st.old b l hb e
end Go.Ideal
