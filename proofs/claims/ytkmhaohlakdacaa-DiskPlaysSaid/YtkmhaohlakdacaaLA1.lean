/- Part of a proof: functions of the program over an ideal memory, and what they compute. No condition. -/
import Derived.Test.YtkmhaohlakdacaaLA0
import Derived.Eval
set_option linter.unusedVariables false
set_option linter.unusedSimpArgs false
namespace Go.Ideal
section
variable {P : Program} {n : Nat} {ops : Array Oper} {B : List Nat} {idOf : Nat → Nat} {K : IAct → Heap → Prop} {h0 : Heap} {a0 : IAct} {F0 : Frz} {ρ0 : Lay} {w0 : World}
  {S : Nat → Bool} {F : Frz} {ρ : Lay} {w : World} {ra : Act} {todo : List Nat} {a : IAct} {lds : List (Nat × IAct × IV)} {pend : List (Nat × Blk)} {h : Heap} {vals : Nat → IV}
theorem KnX_tail {j : Nat} {js : List Nat} (hjlt : j < ops.size) (hjn : j ∉ js) : ∀ i, KnX ops js i = (decide (i = j) || KnX ops (j :: js) i) := by
  intro i
  by_cases hi : i = j
  · subst hi; simp [KnX, hjlt, hjn]
  · simp [KnX, hi]
theorem DInv.seen (I : DInv P n ops B idOf K h0 a0 F0 ρ0 w0 S F ρ w ra todo a lds pend h vals) {i : Nat} (hp : ∀ i', preB B i' i = true → S i' = true) :
    (fillP idOf (pend.filter fun p => preB B p.1 i) h).length = (fillP idOf (pend.filter fun p => S p.1) h).length ∧ HLe (fillP idOf (pend.filter fun p => preB B p.1 i) h) (fillP idOf (pend.filter fun p => S p.1) h) ∧
      ∀ p ∈ pend, preB B p.1 i = false → ∀ k, (fillP idOf (pend.filter fun p => preB B p.1 i) h)[idOf p.1]? ≠ some (some k) := by
  have hlt : ∀ p ∈ pend, idOf p.1 < h.length := fun p hp => by
    obtain ⟨_, o, m, g1, g2, _⟩ := I.pendOk p hp
    exact (I.ids _ o g1 g2).2
  have hone : ∀ p ∈ pend, ∀ q ∈ pend, idOf p.1 = idOf q.1 → p.1 = q.1 := fun p hp q hq e => by
    obtain ⟨_, o1, m1, g1, g2, _⟩ := I.pendOk p hp
    obtain ⟨_, o2, m2, f1, f2, _⟩ := I.pendOk q hq
    exact I.inj _ _ o1 o2 g1 f1 g2 f2 e
  refine ⟨by rw [fillP_length, fillP_length], ?_, ?_⟩
  · intro b k hb
    rcases fillP_get idOf _ h b k hb with ⟨p, hpm, rfl, rfl⟩ | ⟨hb, _⟩
    · obtain ⟨h1, h2⟩ := List.mem_filter.1 hpm
      exact fillP_at idOf _ h (nodup_filter_map _ I.pendInj) p (List.mem_filter.2 ⟨h1, hp _ h2⟩) (hlt p h1)
    · exact I.hle _ b k hb
  · intro p hpm hpre k
    rw [fillP_other]
    · obtain ⟨_, o, m, g1, g2, _⟩ := I.pendOk p hpm
      exact I.dead _ o g1 g2 (.inr ⟨p, hpm, rfl⟩) k
    · intro q hq e
      obtain ⟨h1, h2⟩ := List.mem_filter.1 hq
      have := hone q h1 p hpm e
      rw [this, hpre] at h2; cases h2
theorem DInv.act (c : DChk P n ops B) {i : Nat} {js : List Nat} (I : DInv P n ops B idOf K h0 a0 F0 ρ0 w0 S F ρ w ra (i :: js) a lds pend h vals) {o : Oper} (ho : ops[i]? = some o) (hk : kindO o.op = 3) (hp : ∀ i', preB B i' i = true → S i' = true)
    {F' : Frz} {ρ' : Lay} {h' : Heap} {w' : World} {v : IV} {u : Value} (s : Step F ρ (fillP idOf (pend.filter fun p => preB B p.1 i) h) w F' ρ' h' w') (hu : VR F' ρ' v u)
    (hobl : oblI P ops B i h' lds) (hrun : DRun P ops B idOf K js (iput a o.dst v) lds (pend.filter fun p => !preB B p.1 i) h') :
    DInv P n ops B idOf K h0 a0 F0 ρ0 w0 (addS S i) F' ρ' w' (ra.put o.dst u) js (iput a o.dst v) lds (pend.filter fun p => !preB B p.1 i) h' (fun j => if j = i then v else vals j) := by
  obtain ⟨hilt, hin, hipre, hieff, hord⟩ := I.ord
  have hSi : S i = false := by
    cases hs : S i with
    | false => rfl
    | true => exact absurd (List.mem_cons_self) (I.known i hs)
  have hKi : KnX ops (i :: js) i = false := by simp [KnX]
  have hKn := KnX_tail (ops := ops) hilt hin
  have hclK : Clos ops B (KnX ops js) := by
    intro j hj
    rw [hKn] at hj
    by_cases he : j = i
    · subst he
      refine ⟨hilt, fun i' hi' => ?_⟩
      have h1 := hipre i' hi'
      have h2 := c.lt j hilt i' hi'
      simp only [KnX, Bool.and_eq_true, decide_eq_true_eq, Bool.not_eq_true', List.contains_eq_mem, decide_eq_false_iff_not]
      exact ⟨by omega, fun hm => h1 (by simp [hm])⟩
    · simp only [he, decide_false, Bool.false_or] at hj
      exact ⟨(I.closK j hj).1, fun i' hi' => by rw [hKn, (I.closK j hj).2 i' hi']; simp⟩
  obtain ⟨hlen, hle, hdead⟩ := I.seen hp
  have hadd : ∀ j, addS S i j = false → S j = false ∧ j ≠ i := fun j hj => by simp only [addS, Bool.or_eq_false_iff, decide_eq_false_iff_not] at hj; exact ⟨hj.2, hj.1⟩
  have hpk : ∀ p ∈ pend, p.1 ≠ i := by
    rintro p hpm rfl
    obtain ⟨h1, _⟩ := I.pendOk p hpm
    exact h1 (by simp)
  have hR : ∀ k, k ∉ i :: js → k < ops.size → RA ops B a0 (fun j => if j = i then v else vals j) k = RA ops B a0 vals k := by
    intro k hk' hklt
    refine AX_vals (fun j hj => ?_) ops.size
    have : j ≠ i := by
      rintro rfl
      have hkk : KnX ops (j :: js) k = true := by simp [KnX, hklt]; simpa using hk'
      have := (I.closK k hkk).2 j hj
      rw [hKi] at this; cases this
    simp [this]
  have hnotin : ∀ k, k ∉ js → k ≠ i → k ∉ i :: js := fun k h1 h2 h3 => by rcases List.mem_cons.1 h3 with h3 | h3; exact h2 h3; exact h1 h3
  have hlater : ∀ p, p ∈ pend.filter (fun p => !preB B p.1 i) ↔ p ∈ pend ∧ preB B p.1 i = false := fun p => by simp [List.mem_filter]
  have hfil : (pend.filter fun p => !preB B p.1 i).filter (fun p => addS S i p.1) = (pend.filter fun p => !preB B p.1 i).filter (fun p => S p.1) := List.filter_congr fun p hpm => by simp [addS, hpk p ((hlater p).1 hpm).1]
  have hps : ∀ p ∈ (pend.filter fun p => !preB B p.1 i).filter (fun p => S p.1), (fillP idOf (pend.filter fun p => S p.1) h)[idOf p.1]? = some (some p.2) ∧ ∀ k, (fillP idOf (pend.filter fun p => preB B p.1 i) h)[idOf p.1]? ≠ some (some k) := by
    intro p hpm
    obtain ⟨h1, h2⟩ := List.mem_filter.1 hpm
    obtain ⟨h3, h4⟩ := (hlater p).1 h1
    obtain ⟨_, o1, m1, g1, g2, _⟩ := I.pendOk p h3
    exact ⟨fillP_at idOf _ h (nodup_filter_map _ I.pendInj) p (List.mem_filter.2 ⟨h3, h2⟩) (I.ids _ o1 g1 g2).2, hdead p h3 h4⟩
  have hfree' : ∀ (j : Nat) (oj : Oper), ops[j]? = some oj → kindO oj.op = 2 → (j ∈ js ∨ ∃ p ∈ pend.filter (fun p => !preB B p.1 i), p.1 = j) → S j = false → ρ' (idOf j) = none := by
    intro j oj hoj hkj hor hSj
    have hor' : j ∈ i :: js ∨ ∃ p ∈ pend, p.1 = j := by
      rcases hor with hm | ⟨p, hpm, rfl⟩
      · exact .inl (by simp [hm])
      · exact .inr ⟨p, ((hlater p).1 hpm).1, rfl⟩
    cases he : ρ' (idOf j) with
    | none => rfl
    | some l =>
      have := s.old (idOf j) l (by rw [fillP_length]; exact (I.ids j oj hoj hkj).2) he
      rw [I.free j oj hoj hkj hor' hSj] at this; cases this
  refine ⟨addS_clos I.clos hilt hp, ?_, hclK, hord, ?_, ?_, ?_, ?_, I.inj, ?_, ?_, ?_, ?_, ?_, ?_, ?_, ?_, hrun⟩
  · intro j hj
    simp only [addS, Bool.or_eq_true, decide_eq_true_eq] at hj
    rcases hj with rfl | hj
    · exact hin
    · exact fun hm => I.known j hj (by simp [hm])
  · rw [I.aeq, AX_ext hKn, AX_add c I.closK ho hKi v]
  · have := AX_add (a0 := a0) (vals := vals) c I.clos ho hSi v
    show ARel F' ρ' n (AX ops a0 _ (addS S i) ops.size) _
    rw [show addS S i = fun j => decide (j = i) || S j from rfl, this]
    exact ARel.put ⟨I.ar.size, I.ar.defers, fun t => VR.mono (n := (fillP idOf (pend.filter fun p => S p.1) h).length) I.step.rel.low s.fF s.fρ (I.ar.tmps t)⟩ (chkOp_dst (c.op i o ho)) hu
  · rw [hfil]; exact Step.revive I.step hlen hle s idOf _ hps
  · intro j oj hoj hkj
    have h1 := I.ids j oj hoj hkj
    have h2 := s.len
    rw [fillP_length] at h2
    exact ⟨h1.1, by omega⟩
  · intro j oj hoj hkj hor k hlive
    obtain ⟨l, hl, _, cs, g1, _⟩ := s.rel.liv _ k hlive
    by_cases hSj : S j = true
    · rcases hor with hm | ⟨p, hpm, rfl⟩
      · exact I.known j hSj (by simp [hm])
      · have hpm2 : p ∈ (pend.filter fun p => !preB B p.1 i).filter (fun p => S p.1) := List.mem_filter.2 ⟨hpm, hSj⟩
        obtain ⟨q1, q2⟩ := hps p hpm2
        obtain ⟨l0, r1, r2, cs0, r3, _⟩ := I.step.rel.liv _ _ q1
        have := s.fρ _ _ r1
        rw [hl] at this; cases this
        obtain ⟨b, k', l', e, e1, e2⟩ := s.img l.R ⟨_, k, l, hlive, hl, rfl⟩ (Array.getElem?_eq_some_iff.1 r3).1
        have := I.step.rel.inj b _ k' p.2 l' l (hle b k' e) q1 e1 r1 e2
        subst this
        exact q2 k' e
    · rw [hfree' j oj hoj hkj hor (by simpa using hSj)] at hl; cases hl
  · intro j oj hoj hkj hor hSj
    exact hfree' j oj hoj hkj hor (hadd j hSj).1
  · intro p hpm
    obtain ⟨h3, h4⟩ := (hlater p).1 hpm
    obtain ⟨h1, o', m, g1, g2, g3, g4, g5⟩ := I.pendOk p h3
    have hplt := (Array.getElem?_eq_some_iff.1 g1).1
    refine ⟨fun hm => h1 (by simp [hm]), o', m, g1, g2, ?_, by simp [hpk p h3, g4], ?_⟩
    · rw [hR p.1 h1 hplt]; exact g3
    · rw [hR p.1 h1 hplt]; exact g5
  · exact List.Sublist.nodup ((List.filter_sublist (l := pend)).map _) I.pendNd
  · intro j oj hoj hkj hm hSj
    have hjlt := (Array.getElem?_eq_some_iff.1 hoj).1
    obtain ⟨hSj, hne⟩ := hadd j hSj
    have hnj := hnotin j hm hne
    obtain ⟨b, q1, q2, q3⟩ := I.flo j oj hoj hkj hnj hSj
    rw [hR j hnj hjlt]
    refine ⟨b, q1, by simpa [hne] using q2, fun hb => ?_⟩
    have h4 := q3 hb
    simp only [hne, if_false]
    by_cases hk0 : kindO oj.op = 0
    · exact opI_kind0 hk0 h4 h'
    · have hk1 : kindO oj.op = 1 := by omega
      subst hb
      obtain ⟨aj, m1, m2⟩ := I.ldsOk j oj hoj hk1 hnj hSj q1
      have hnp : preB B j i = false := by
        cases hpj : preB B j i with
        | false => rfl
        | true => rw [hp j hpj] at hSj; cases hSj
      have : ∀ (l : List (Nat × IAct × IV)), oblI P ops B i h' l → (j, aj, vals j) ∈ l → opI P (ieval aj) oj.op h' = some (vals j, h') := by
        intro l
        induction l with
        | nil => intro _ hm; cases hm
        | cons q l ih =>
          intro hob hm
          simp only [oblI] at hob
          rcases List.mem_cons.1 hm with rfl | hm
          · simp only [hnp, Bool.false_eq_true, if_false, hoj, (looks_want m2).trans q1] at hob
            exact hob.1
          · split at hob
            · exact ih hob hm
            · exact ih hob.2 hm
      rw [← this lds hobl m1]
      exact (opI_congr (looks_eval m2)).symm
  · intro j oj hoj hkj hm hSj
    have hjlt := (Array.getElem?_eq_some_iff.1 hoj).1
    obtain ⟨hSj, hne⟩ := hadd j hSj
    have hnj := hnotin j hm hne
    rw [hR j hnj hjlt]
    rcases I.new j oj hoj hkj hnj hSj with ⟨h1, h2⟩ | ⟨p, hpm, h1⟩
    · exact .inl ⟨h1, by simpa [hne] using h2⟩
    · refine .inr ⟨p, (hlater p).2 ⟨hpm, ?_⟩, h1⟩
      cases hpj : preB B p.1 i with
      | false => rfl
      | true => rw [h1] at hpj; rw [hp j hpj] at hSj; cases hSj
  · intro j oj hoj hkj hm
    by_cases hne : j = i
    · simp [addS, hne]
    · have := I.eff j oj hoj hkj (hnotin j hm hne)
      simp [addS, this]
  · intro j oj hoj hkj hm hSj hwant
    have hjlt := (Array.getElem?_eq_some_iff.1 hoj).1
    obtain ⟨hSj, hne⟩ := hadd j hSj
    have hnj := hnotin j hm hne
    rw [hR j hnj hjlt] at hwant ⊢
    simpa [hne] using I.ldsOk j oj hoj hkj hnj hSj hwant
theorem DInv.any (c : DChk P n ops B) {Q : Exit → Act → World → Prop} (hQ : ∀ ra' w', IPost F0 ρ0 n h0 w0 K ra' w' → Q .normal ra' w') : ∀ (fuel : Nat) (listed : Array Bool) (S : Nat → Bool) (F : Frz) (ρ : Lay) (w : World) (ra : Act) (todo : List Nat) (a : IAct) (lds : List (Nat × IAct × IV)) (pend : List (Nat × Blk)) (h : Heap) (vals : Nat → IV),
    (∀ j, listed.getD j false = S j) → listed.size = ops.size → ((List.range ops.size).filter fun j => !S j).length = fuel → DInv P n ops B idOf K h0 a0 F0 ρ0 w0 S F ρ w ra todo a lds pend h vals → wpAny P .any ops Q fuel listed ra w := by
  intro fuel
  induction fuel with
  | zero =>
    intro listed S F ρ w ra todo a lds pend h vals hS hsz hcnt I
    have hall : ∀ j, j < ops.size → S j = true := by
      intro j hj
      have := List.eq_nil_of_length_eq_zero hcnt
      rw [List.filter_eq_nil_iff] at this
      simpa using this j (by simpa using hj)
    have hnil : Region.ready .any ops listed = [] := by
      rw [List.eq_nil_iff_forall_not_mem]
      intro j hj
      obtain ⟨h1, o, ho, _⟩ := mem_ready.1 hj
      have hjlt := (Array.getElem?_eq_some_iff.1 ho).1
      have := hS j
      rw [hall j hjlt] at this
      simp [hsz, hjlt] at h1 this
      rw [h1] at this; cases this
    obtain ⟨todo', a', lds', pend', vals', I, hhead⟩ := I.norm c
    have htodo : todo' = [] := by
      cases todo' with
      | nil => rfl
      | cons j js => exact absurd List.mem_cons_self (I.known j (hall j I.ord.1))
    subst htodo
    refine ⟨hnil, hQ _ _ ⟨a', fillP idOf pend' h, F, ρ, I.run, ?_, ?_⟩⟩
    · have : pend'.filter (fun p => S p.1) = pend' := List.filter_eq_self.2 fun p hp => by
        obtain ⟨_, o, m, g1, _⟩ := I.pendOk p hp
        exact hall _ (Array.getElem?_eq_some_iff.1 g1).1
      have hst := I.step
      rw [this] at hst
      exact hst
    · have he : ∀ j, KnX ops [] j = S j := by
        intro j
        by_cases hj : j < ops.size
        · simp [KnX, hj, hall j hj]
        · simp only [KnX, hj, decide_false, Bool.false_and]
          cases hs : S j with
          | false => rfl
          | true => exact absurd (I.clos j hs).1 hj
      rw [I.aeq, AX_ext he]
      exact I.ar
  | succ fuel ih =>
    intro listed S F ρ w ra todo a lds pend h vals hS hsz hcnt I
    have hnonempty : Region.ready .any ops listed ≠ [] := by
      intro hnil
      have hall : ∀ j, j < ops.size → S j = true := by
        intro j
        induction j using Nat.strongRecOn with
        | _ j ihj =>
          intro hj
          cases hs : S j with
          | true => rfl
          | false =>
            have hl := hS j
            rw [hs] at hl
            have : j ∈ Region.ready .any ops listed := mem_ready.2 ⟨by simp [hsz, hj] at hl ⊢; exact hl, ops[j], Array.getElem?_eq_getElem hj, fun e he hb => by
              have h1 := c.edge j _ (Array.getElem?_eq_getElem hj) e he hb
              rw [hS]; exact ihj e.on h1 (by omega)⟩
            rw [hnil] at this; cases this
      have : (List.range ops.size).filter (fun j => !S j) = [] := List.filter_eq_nil_iff.2 fun j hj => by simp [hall j (by simpa using hj)]
      rw [this] at hcnt; cases hcnt
    refine ⟨fun h0 => absurd h0 hnonempty, fun i hi => ?_⟩
    obtain ⟨hun, o, ho, hedges⟩ := mem_ready.1 hi
    have hilt := (Array.getElem?_eq_some_iff.1 ho).1
    have hSi : S i = false := by
      have := hS i
      simp [hsz, hilt] at hun this
      rw [hun] at this; exact this.symm
    have hpre : ∀ i', preB B i' i = true → S i' = true := by
      intro i' hp
      obtain ⟨e, he, hb, h1 | h1⟩ := c.sound i o i' ho hp
      · have := hedges e he hb
        rw [hS, h1] at this; exact this
      · have := hedges e he hb
        rw [hS] at this
        exact (I.clos e.on this).2 i' h1
    have hS' : ∀ j, (listed.setIfInBounds i true).getD j false = addS S i j := by
      intro j
      by_cases hj : j = i
      · subst hj; simp [addS, hsz, hilt]
      · have := hS j
        simp only [addS, hj, decide_false, Bool.false_or]
        rw [← this]
        simp [Array.getElem?_setIfInBounds_ne (Ne.symm hj)]
    have hcnt' : ((List.range ops.size).filter fun j => !addS S i j).length = fuel := by
      have h1 : (List.range ops.size).filter (fun j => !addS S i j) = ((List.range ops.size).filter (fun j => !S j)).filter (fun j => !decide (j = i)) := by
        rw [List.filter_filter]
        refine List.filter_congr fun j _ => ?_
        simp only [addS]
        cases decide (j = i) <;> cases S j <;> rfl
      have h2 : i ∈ (List.range ops.size).filter (fun j => !S j) := List.mem_filter.2 ⟨by simpa using hilt, by simp [hSi]⟩
      have h3 : ((List.range ops.size).filter (fun j => !S j)).Nodup := List.Sublist.nodup List.filter_sublist List.nodup_range
      rw [h1]
      have h4 : ((List.range ops.size).filter (fun j => !S j)).filter (fun j => !decide (j = i)) = ((List.range ops.size).filter (fun j => !S j)).erase i := by
        rw [List.Nodup.erase_eq_filter h3]
        refine List.filter_congr fun j _ => ?_
        by_cases hj : j = i <;> simp [hj]
      rw [h4, List.length_erase_of_mem h2, hcnt]; rfl
    obtain ⟨todo', a', lds', pend', vals', I, hhead⟩ := I.norm c
    have next : ∀ {F' : Frz} {ρ' : Lay} {w' : World} {ra' : Act} {todo'' : List Nat} {a'' : IAct} {lds'' : List (Nat × IAct × IV)} {pend'' : List (Nat × Blk)} {h'' : Heap} {vals'' : Nat → IV}, DInv P n ops B idOf K h0 a0 F0 ρ0 w0 (addS S i) F' ρ' w' ra' todo'' a'' lds'' pend'' h'' vals'' → wpAny P .any ops Q fuel (listed.setIfInBounds i true) ra' w' := fun I' =>
      ih _ _ _ _ _ _ _ _ _ _ _ _ hS' (by simp [hsz]) hcnt' I'
    have hread : ∀ t ∈ o.looksAt ops, AX ops a0 vals' S ops.size t = RA ops B a0 vals' i t := fun t ht =>
      AX_read c I.clos (pre_clos c hilt) ho hSi (pre_irr c hilt) hpre (fun _ h => h) ht ops.size
    have hops : ∀ o' ∈ ops.toList, o'.dst.all (· < n) = true := fun o' ho' => by
      obtain ⟨j, hj⟩ := List.getElem?_of_mem ho'
      rw [Array.getElem?_toList] at hj
      exact chkOp_dst (c.op j o' hj)
    unfold wpOp
    simp only [ho]
    by_cases hit : i ∈ todo'
    · -- an act on memory: the next one
      cases todo' with
      | nil => cases hit
      | cons j js =>
        obtain ⟨hjlt, hjn, _, hjeff, _⟩ := I.ord
        have hji : j = i := by
          rcases List.mem_cons.1 hit with h1 | h1
          · exact h1.symm
          · have := hjeff _ (Array.getElem?_eq_getElem hjlt) (hhead j js rfl _ (Array.getElem?_eq_getElem hjlt)) i h1
            exact absurd List.mem_cons_self (I.known j (hpre j this))
        subst hji
        have hk3 := hhead j js rfl o ho
        have hD := I.run
        simp only [DRun, ho, hk3] at hD
        obtain ⟨hlen, hle, _⟩ := I.seen hpre
        obtain ⟨hr1, _⟩ := I.step.rel.hide hlen hle
        have hra : ∀ t ∈ o.looksAt ops, a' t = AX ops a0 vals' S ops.size t := fun t ht => by
          rw [I.aeq]
          refine AX_read c I.closK I.clos ho (by simp [KnX]) hSi (fun i' hi' => ?_) hpre ht ops.size
          have h1 := I.ord.2.2.1 i' hi'
          have h2 := c.lt j hilt i' hi'
          simp only [KnX, Bool.and_eq_true, decide_eq_true_eq, Bool.not_eq_true', List.contains_eq_mem, decide_eq_false_iff_not]
          exact ⟨by omega, h1⟩
        have hD' := IOp_congr hra hD
        obtain ⟨b, hw⟩ := hD'.want
        rw [wantI_run I.ar hw hops]
        cases b with
        | true =>
          simp only [if_true]
          exact .inl (IOp.run hD' (c.op j o ho) hw hr1 I.ar.eval fun v u h' F' ρ' w' hk hst hv => next (I.act c ho hk3 hpre hst hv hk.1 hk.2))
        | false =>
          simp only [Bool.false_eq_true, if_false]
          have hk := hD'.skip hw
          exact next (I.act c ho hk3 hpre (Step.refl hr1) (VR.undef F ρ) hk.1 hk.2)
    · -- one that has been evaluated
      have hk3 : kindO o.op ≠ 3 := fun hk => by
        have := I.eff i o ho hk hit
        rw [hSi] at this; cases this
      have hkle := c.kind i o ho
      have skip : wantI ops o (RA ops B a0 vals' i) = some false → vals' i = .tup [] → (∀ p ∈ pend', p.1 ≠ i) → (if Region.wanted o (yielded ops ra.tmps) = true then o.wp P ra w (wpAny P .any ops Q fuel (listed.setIfInBounds i true)) Q ∨ o.asks P ra w ∧ LetsOut Q else wpAny P .any ops Q fuel (listed.setIfInBounds i true) (ra.put o.dst undef) w) := by
        intro hw hv hnp
        rw [wantI_run I.ar ((looks_want hread).trans hw) hops]
        simp only [Bool.false_eq_true, if_false]
        exact next (I.put c ho hSi hit hpre hnp (Step.refl I.step.rel) (by rw [hv]; exact VR.undef F ρ))
      by_cases hk1 : kindO o.op ≤ 1
      · have hnp : ∀ p ∈ pend', p.1 ≠ i := by
          rintro p hp rfl
          obtain ⟨_, o', m, g1, g2, _⟩ := I.pendOk p hp
          rw [ho] at g1; cases g1; omega
        obtain ⟨b, hw, hf, ht⟩ := I.flo i o ho hk1 hit hSi
        cases b with
        | false => exact skip hw (hf rfl) hnp
        | true =>
          rw [wantI_run I.ar ((looks_want hread).trans hw) hops]
          simp only [if_true]
          have hop := ht rfl
          rw [← opI_congr (looks_eval hread)] at hop
          obtain ⟨_, hop2⟩ := opI_mono hk1 hop (I.hle fun p => S p.1)
          obtain ⟨nx, u, W, ρ1, h1, h2, h3, h4⟩ := opI_run I.step.rel (ieval (AX ops a0 vals' S ops.size)) ra.eval I.ar.eval o hop2
          refine .inl ?_
          unfold Oper.wp
          rw [h1]
          have hn := next (I.put c ho hSi hit hpre hnp h3 h4)
          rcases h2 with rfl | ⟨rfl, rfl⟩
          · exact hn
          · exact hn
      · have hk2 : kindO o.op = 2 := by omega
        rcases I.new i o ho hk2 hit hSi with ⟨hw, hv⟩ | ⟨p, hp, hpi⟩
        · by_cases hex : ∃ p ∈ pend', p.1 = i
          · obtain ⟨p, hp, hpi⟩ := hex
            obtain ⟨_, o', m, g1, g2, g3, g4, g5⟩ := I.pendOk p hp
            rw [hpi] at g1 g5
            rw [ho] at g1; cases g1
            rw [hw] at g5; cases g5
          · exact skip hw hv fun p hp e => hex ⟨p, hp, e⟩
        · obtain ⟨_, o', m, g1, g2, g3, g4, g5⟩ := I.pendOk p hp
          rw [hpi] at g1 g3 g4 g5
          rw [ho] at g1; cases g1
          rw [wantI_run I.ar ((looks_want hread).trans g5) hops]
          simp only [if_true]
          have hnew := looks_new (fun t ht => (hread t ht).symm) g3
          have hop := newI_op hnew (fillP idOf (pend'.filter fun p => S p.1) h)
          obtain ⟨nx, u, W, ρ1, h1, h2, h3, h4⟩ := opI_run I.step.rel (ieval (AX ops a0 vals' S ops.size)) ra.eval I.ar.eval o hop
          have hbel : Belss h.length p.2.es := by
            have := newI_bel (n := h.length) (fun x => ?_) hnew
            · exact this
            · have := VR.bel I.step.rel.low _ _ (I.ar.eval x)
              rwa [fillP_length] at this
          obtain ⟨ρ2, I'⟩ := I.make c ho hSi hpre hp hpi g4 hbel h3 h4
          refine .inl ?_
          unfold Oper.wp
          rw [h1]
          have hn := next I'
          rcases h2 with rfl | ⟨rfl, rfl⟩
          · exact hn
          · exact hn
end
end Go.Ideal
namespace Go.Ideal
def ordC (ops : Array Oper) (B : List Nat) : List Nat → Bool
  | [] => true
  | j :: js => decide (j < ops.size) && !js.contains j && (j :: js).all (fun i => !preB B i j) && (match ops[j]? with | some o => kindO o.op != 3 || js.all (fun k => preB B j k) | none => false) && ordC ops B js
def chkD (P : Program) (n : Nat) (ops : Array Oper) (B ord allocs : List Nat) : Bool :=
  ops.toList.all (chkOp P n) &&
  (List.range ops.size).all (fun j => match ops[j]? with
    | none => false
    | some o =>
      o.after.toList.all (fun e => !Region.binds .any e || decide (e.on < j)) &&
      decide (B.getD j 0 < 2 ^ j) &&
      (List.range j).all (fun i => !preB B i j || (o.after.toList.any (fun e => Region.binds .any e && (e.on == i || preB B i e.on)) && (B.getD i 0 ||| B.getD j 0) == B.getD j 0)) &&
      (List.range j).all (fun i => match ops[i]? with
        | none => false
        | some oi => (oi.apart ops o || preB B i j) && (!(kindO oi.op == 3 && kindO o.op == 3) || preB B i j)) &&
      decide (kindO o.op ≤ 3) && (kindO o.op != 2 || allocs.contains j) && ord.contains j) &&
  ordC ops B ord
theorem ordC_ok {ops : Array Oper} {B : List Nat} : ∀ {ord : List Nat}, ordC ops B ord = true → OrdOk ops B ord
  | [], _ => trivial
  | j :: js, h => by
    simp only [ordC, Bool.and_eq_true, decide_eq_true_eq, Bool.not_eq_true', List.contains_eq_mem, decide_eq_false_iff_not] at h
    obtain ⟨⟨⟨⟨h1, h2⟩, h3⟩, h4⟩, h5⟩ := h
    refine ⟨h1, h2, fun i hi hm => ?_, fun o ho hk k hkm => ?_, ordC_ok h5⟩
    · have := List.all_eq_true.1 h3 i hm
      simp [hi] at this
    · rw [ho] at h4
      simp only [Bool.or_eq_true, bne_iff_ne, ne_eq, hk, not_true_eq_false, false_or] at h4
      exact List.all_eq_true.1 h4 k hkm
theorem preB_lt {B : List Nat} {i j : Nat} (h : B.getD j 0 < 2 ^ j) (hp : preB B i j = true) : i < j := by
  rcases Nat.lt_or_ge i j with hlt | hge
  · exact hlt
  · unfold preB at hp
    rw [Nat.testBit_lt_two_pow (Nat.lt_of_lt_of_le h (Nat.pow_le_pow_right (by omega) hge))] at hp
    cases hp
section
variable {P : Program} {n : Nat} {ops : Array Oper} {B ord allocs : List Nat}
theorem chkD_at (h : chkD P n ops B ord allocs = true) {j : Nat} {o : Oper} (ho : ops[j]? = some o) :
    chkOp P n o = true ∧ (∀ e ∈ o.after, Region.binds .any e = true → e.on < j) ∧ B.getD j 0 < 2 ^ j ∧
      (∀ i, i < j → preB B i j = true → (∃ e ∈ o.after, Region.binds .any e = true ∧ (e.on = i ∨ preB B i e.on = true)) ∧ (B.getD i 0 ||| B.getD j 0) = B.getD j 0) ∧
      (∀ i oi, i < j → ops[i]? = some oi → (oi.apart ops o = true ∨ preB B i j = true) ∧ (kindO oi.op = 3 → kindO o.op = 3 → preB B i j = true)) ∧ kindO o.op ≤ 3 ∧ (kindO o.op = 2 → j ∈ allocs) ∧ j ∈ ord := by
  have hlt : j < ops.size := (Array.getElem?_eq_some_iff.1 ho).1
  unfold chkD at h
  simp only [Bool.and_eq_true] at h
  obtain ⟨⟨h1, h2⟩, h3⟩ := h
  have hj := List.all_eq_true.1 h2 j (by simpa using hlt)
  simp only [ho, Bool.and_eq_true, decide_eq_true_eq] at hj
  obtain ⟨⟨⟨⟨⟨⟨g1, g2⟩, g3⟩, g4⟩, g5⟩, g6⟩, g7⟩ := hj
  refine ⟨List.all_eq_true.1 h1 o (by have := Array.mem_of_getElem? ho; simpa using this), fun e he hb => ?_, g2, fun i hi hp => ?_, fun i oi hi hoi => ?_, g5, fun hk => ?_, by simpa using g7⟩
  · have := List.all_eq_true.1 g1 e (by simpa using he)
    simpa [hb] using this
  · have := List.all_eq_true.1 g3 i (by simpa using hi)
    simp only [hp, Bool.not_true, Bool.false_or, Bool.and_eq_true, beq_iff_eq] at this
    refine ⟨?_, this.2⟩
    obtain ⟨e, he, hb⟩ := List.any_eq_true.1 this.1
    simp only [Bool.and_eq_true, Bool.or_eq_true, beq_iff_eq] at hb
    exact ⟨e, by simpa using he, hb.1, hb.2⟩
  · have := List.all_eq_true.1 g4 i (by simpa using hi)
    simp only [hoi, Bool.and_eq_true, Bool.or_eq_true, Bool.not_eq_true', Bool.and_eq_false_iff, beq_eq_false_iff_ne, ne_eq] at this
    refine ⟨this.1, fun h1 h2 => ?_⟩
    rcases this.2 with (h | h) | h
    · exact absurd h1 h
    · exact absurd h2 h
    · exact h
  · simp only [Bool.or_eq_true, bne_iff_ne, ne_eq, List.contains_eq_mem, decide_eq_true_eq] at g6
    exact g6.resolve_left fun h => h hk
theorem chkD_chk (h : chkD P n ops B ord allocs = true) : DChk P n ops B where
  op := fun j o ho => (chkD_at h ho).1
  edge := fun j o ho => (chkD_at h ho).2.1
  sound := fun j o i ho hp => ((chkD_at h ho).2.2.2.1 i (preB_lt (chkD_at h ho).2.2.1 hp) hp).1
  trans := fun i j k hk hij hjk => by
    have ho := Array.getElem?_eq_getElem hk
    have h1 := ((chkD_at h ho).2.2.2.1 j (preB_lt (chkD_at h ho).2.2.1 hjk) hjk).2
    unfold preB at *
    rw [← h1, Nat.testBit_or, hij, Bool.true_or]
  apart := fun i j oi oj hlt hi hj => ((chkD_at h hj).2.2.2.2.1 i oi hlt hi).1
  eff := fun i j oi oj hlt hi hj h1 h2 => ((chkD_at h hj).2.2.2.2.1 i oi hlt hi).2 h1 h2
  kind := fun j o ho => (chkD_at h ho).2.2.2.2.2.1
end
theorem idxOf_inj {l : List Nat} {i j : Nat} (hi : i ∈ l) (hj : j ∈ l) (h : l.idxOf i = l.idxOf j) : i = j := by
  have h1 := List.getElem_idxOf (List.idxOf_lt_length_of_mem hi)
  have h2 := List.getElem_idxOf (List.idxOf_lt_length_of_mem hj)
  rw [← h1, ← h2]
  congr 1
theorem Step.reserve {F : Frz} {ρ : Lay} {h : Heap} {w : World} (hr : Rel F ρ h w) (k : Nat) : Step F ρ h w F ρ (h ++ List.replicate k none) w := by
  have hget : ∀ (b : Nat) (x : Blk), (h ++ List.replicate k none)[b]? = some (some x) → h[b]? = some (some x) := by
    intro b x e
    rcases Nat.lt_or_ge b h.length with hb | hb
    · rwa [List.getElem?_append_left hb] at e
    · rw [List.getElem?_append_right hb, List.getElem?_replicate] at e
      split at e <;> cases e
  exact ⟨FLe.refl F, fun _ _ e => e, ⟨hr.frz, fun b x e => hr.liv b x (hget b x e), fun b b' x x' l l' e e' => hr.inj b b' x x' l l' (hget b x e) (hget b' x' e'), fun b l e => by have := hr.low b l e; simp; omega⟩,
    fun _ _ _ => rfl, fun i ⟨b, x, l, e, h1, h2⟩ _ => ⟨b, x, l, hget b x e, h1, h2⟩, fun _ _ e => .inl e, by simp, fun _ _ _ e => e, Nat.le_refl _, rfl, rfl, rfl⟩
theorem IWp.draw {P : Program} {n : Nat} {Q : IExit → IAct → Heap → Prop} {a : IAct} {h : Heap} {id : Nat} {ops : Array Oper} {B ord allocs : List Nat} (hm : P.follows .mixedOrders = true) (hc : chkD P n ops B ord allocs = true)
    (hi : DRun P ops B (fun j => h.length + allocs.idxOf j) (fun a' h' => Q .normal a' h') ord a [] [] (h ++ List.replicate allocs.length none)) : IWp P n (.region id ops true) Q a h := by
  intro F ρ w ra hr ar
  have c := chkD_chk hc
  have hord : OrdOk ops B ord := by
    unfold chkD at hc
    simp only [Bool.and_eq_true] at hc
    exact ordC_ok hc.2
  have s1 : Step F ρ h w F ρ (h ++ List.replicate allocs.length none) { w with drawn := w.drawn + 1 } := (Step.of_heap (W := { w with drawn := w.drawn + 1 }) hr rfl rfl rfl rfl).trans (Step.reserve (w := { w with drawn := w.drawn + 1 }) (hr.of_heap rfl) _)
  have hdead : ∀ (b : Nat) (x : Blk), h.length ≤ b → (h ++ List.replicate allocs.length none)[b]? = some (some x) → False := by
    intro b x hb e
    rw [List.getElem?_append_right hb, List.getElem?_replicate] at e
    split at e <;> cases e
  refine wp_region_any hm (DInv.any (K := fun a' h' => Q .normal a' h') (h0 := h) (a0 := a) (F0 := F) (ρ0 := ρ) (w0 := w) (idOf := fun j => h.length + allocs.idxOf j) c ?_ ops.size (Array.replicate ops.size false) (fun _ => false) F ρ { w with drawn := w.drawn + 1 } ra ord a [] [] (h ++ List.replicate allocs.length none) (fun _ => .any) ?_ (by simp) ?_ ?_)
  · rintro ra' w' ⟨a', h', F', ρ', k, st, ar'⟩
    exact ⟨.normal, a', h', F', ρ', k, rfl, st, ar'⟩
  · intro j
    by_cases hj : j < ops.size <;> simp [hj]
  · have : (List.range ops.size).filter (fun _ => !false) = List.range ops.size := List.filter_eq_self.2 fun _ _ => rfl
    rw [this]; simp
  · have hkn : ∀ i, KnX ops ord i = false := by
      intro i
      by_cases hi : i < ops.size
      · have := (chkD_at hc (Array.getElem?_eq_getElem hi)).2.2.2.2.2.2.2
        simp [KnX, this]
      · simp [KnX, hi]
    have hax : ∀ i, AX ops a (fun _ => IV.any) (fun _ => false) i = a := by
      intro i
      induction i with
      | zero => rfl
      | succ i ih => funext t; simp [AX, ih]
    have hk2 : ∀ (j : Nat) (o : Oper), ops[j]? = some o → kindO o.op = 2 → j ∈ allocs := fun j o ho hk => (chkD_at hc ho).2.2.2.2.2.2.1 hk
    refine ⟨fun j hj => (by cases hj), fun j hj => (by cases hj), fun j hj => (by rw [hkn] at hj; cases hj), hord, ?_, ?_, by simpa [fillP] using s1, ?_, ?_, ?_, ?_, by simp, by simp, ?_, ?_, ?_, ?_, hi⟩
    · rw [AX_ext hkn, hax]
    · rw [hax]; exact ar
    · intro j o ho hk
      have := List.idxOf_lt_length_of_mem (hk2 j o ho hk)
      simp; omega
    · intro i j oi oj hi hj h1 h2 e
      exact idxOf_inj (hk2 i oi hi h1) (hk2 j oj hj h2) (by omega)
    · intro j o ho hk _ k e
      exact hdead _ k (by omega) e
    · intro j o ho hk _ _
      cases he : ρ (h.length + allocs.idxOf j) with
      | none => rfl
      | some l => have := hr.low _ l he; omega
    · intro j o ho hk hm
      exact absurd (chkD_at hc ho).2.2.2.2.2.2.2 hm
    · intro j o ho hk hm
      exact absurd (chkD_at hc ho).2.2.2.2.2.2.2 hm
    · intro j o ho hk hm
      exact absurd (chkD_at hc ho).2.2.2.2.2.2.2 hm
    · intro j o ho hk hm
      exact absurd (chkD_at hc ho).2.2.2.2.2.2.2 hm
structure DI where
  B : List Nat
  ord : List Nat
  allocs : List Nat
def bK (v : IV) (X Y : Prop) : Prop := match v with | .bool true => X | .bool false => Y | _ => False
def bK' (v : IV) (X Y : Prop) : Prop := match v with | .bool b => if b = true then X else Y | _ => False
def hold (h : Heap) : List Nat → Heap
  | [] => h
  | j :: js => h ++ List.replicate (j :: js).length none
theorem hold_eq (h : Heap) : ∀ l : List Nat, hold h l = h ++ List.replicate l.length none
  | [] => by simp [hold]
  | _ :: _ => rfl
def IC (P : Program) (n : Nat) (D : Nat → DI) : Code → (IExit → IAct → Heap → Prop) → IAct → Heap → Prop
  | .skip, Q, a, h => Q .normal a h
  | .region id ops dr, Q, a, h =>
    match dr with
    | true => DRun P ops (D id).B (fun j => h.length + (D id).allocs.idxOf j) (fun a' h' => Q .normal a' h') (D id).ord a [] [] (hold h (D id).allocs)
    | false => IRun P ops (fun a' h' => Q .normal a' h') ops.toList a h
  | .seq x y, Q, a, h => IC P n D x (Z6 (IC P n D y Q) Q) a h
  | .cond c x y, Q, a, h => bK' (ieval a c) (IC P n D x Q a h) (IC P n D y Q a h)
  | .block id c, Q, a, h => IC P n D c (Zu id Q) a h
  | .loop c, Q, a, h => ILoop P n c Q a h
  | .exit id, Q, a, h => Q (.exit id) a h
  | .ret, Q, a, h => Q .ret a h
  | _, _, _, _ => False
def chkC (P : Program) (n : Nat) (D : Nat → DI) : Code → Bool
  | .skip => true
  | .region id ops dr => match dr with
    | true => chkD P n ops (D id).B (D id).ord (D id).allocs
    | false => ops.toList.all (chkOp P n)
  | .seq x y => chkC P n D x && chkC P n D y
  | .cond _ x y => chkC P n D x && chkC P n D y
  | .block _ c => chkC P n D c
  | .loop c => chkC P n D c
  | .exit _ => true
  | .ret => true
  | _ => false
theorem iThen_mono {next next' : IAct → Heap → Prop} {Q : IExit → IAct → Heap → Prop} (hn : ∀ a h, next a h → next' a h) : ∀ e a h, Z6 next Q e a h → Z6 next' Q e a h := by
  intro e a h hq
  cases e <;> first | exact hn _ _ hq | exact hq
theorem IC.sound {P : Program} {n : Nat} {D : Nat → DI} (hm : P.follows .mixedOrders = true) : ∀ (c : Code), chkC P n D c = true → ∀ (Q : IExit → IAct → Heap → Prop) (a : IAct) (h : Heap), IC P n D c Q a h → IWp P n c Q a h
  | .skip, _, Q, a, h, hi => IWp.skip hi
  | .region id ops dr, hc, Q, a, h, hi => by
    cases dr with
    | true => simp only [IC, hold_eq] at hi; exact IWp.draw hm hc hi
    | false => exact IWp.region hc hi
  | .seq x y, hc, Q, a, h, hi => by
    simp only [chkC, Bool.and_eq_true] at hc
    exact IWp.seq ((IC.sound hm x hc.1 _ a h hi).mono (iThen_mono fun a' h' h1 => IC.sound hm y hc.2 Q a' h' h1))
  | .cond c x y, hc, Q, a, h, hi => by
    simp only [chkC, Bool.and_eq_true] at hc
    simp only [IC, bK'] at hi
    split at hi
    · rename_i b hb
      refine IWp.cond hb (fun ht => ?_) (fun hf => ?_)
      · rw [if_pos ht] at hi; exact IC.sound hm x hc.1 Q a h hi
      · rw [if_neg (by simp [hf])] at hi; exact IC.sound hm y hc.2 Q a h hi
    · exact hi.elim
  | .block id c, hc, Q, a, h, hi => IWp.block (IC.sound hm c hc _ a h hi)
  | .loop c, hc, Q, a, h, hi => IWp.loop hi
  | .exit id, _, Q, a, h, hi => IWp.exit hi
  | .ret, _, Q, a, h, hi => IWp.ret hi
  | .rangeFunc .., hc, _, _, _, _ => by simp [chkC] at hc
  | .scope _, hc, _, _, _, _ => by simp [chkC] at hc
  | .label _, hc, _, _, _, _ => by simp [chkC] at hc
  | .goto _, hc, _, _, _, _ => by simp [chkC] at hc
  | .refuse _, hc, _, _, _, _ => by simp [chkC] at hc
theorem IOp.mono {P : Program} {ops : Array Oper} {o : Oper} {a : IAct} {h : Heap} {K K' : IV → Heap → Prop} (hk : ∀ v h', K v h' → K' v h') (hi : IOp P ops o a h K) : IOp P ops o a h K' := by
  unfold IOp at hi ⊢
  split at hi
  · unfold Zi at hi ⊢
    split at hi
    · exact hi.mono hk
    · exact hk _ _ hi
    · exact hi
  · unfold callK at hi ⊢
    split at hi
    · split at hi
      · exact ⟨hi.1, hi.2.mono hk⟩
      · exact hi
    · exact hk _ _ hi
    · exact hi
  · have hm : ∀ {x : Option (IV × Heap)} {f : IV × Heap → Heap}, oK x (fun p => K p.1 (f p)) → oK x (fun p => K' p.1 (f p)) := by
      intro x f hx
      unfold oK at hx ⊢
      split at hx
      · exact hk _ _ hx
      · exact hx
    split at hi
    · exact hm (f := fun _ => h) hi
    · exact hm (f := fun _ => h) hi
    · exact hm (f := fun p => p.2) hi
theorem IRun.mono {P : Program} {ops : Array Oper} {K K' : IAct → Heap → Prop} (hk : ∀ a h, K a h → K' a h) : ∀ (l : List Oper) (a : IAct) (h : Heap), IRun P ops K l a h → IRun P ops K' l a h
  | [], a, h, hi => hk a h hi
  | o :: os, a, h, hi => by
    simp only [IRun] at hi ⊢
    exact hi.mono fun v h' h1 => IRun.mono hk os _ h' h1
theorem oK_mono {α : Type} {x : Option α} {K K' : α → Prop} (hk : ∀ v, K v → K' v) (hi : oK x K) : oK x K' := by
  unfold oK at hi ⊢
  split at hi
  · exact hk _ hi
  · exact hi
theorem DRun.mono {P : Program} {ops : Array Oper} {B : List Nat} {idOf : Nat → Nat} {K K' : IAct → Heap → Prop} (hk : ∀ a h, K a h → K' a h) : ∀ (l : List Nat) (a : IAct) (lds : List (Nat × IAct × IV)) (pend : List (Nat × Blk)) (h : Heap), DRun P ops B idOf K l a lds pend h → DRun P ops B idOf K' l a lds pend h
  | [], a, _, pend, h, hi => hk _ _ hi
  | j :: js, a, lds, pend, h, hi => by
    simp only [DRun] at hi ⊢
    split at hi
    · exact hi
    · split at hi
      · exact oK_mono (fun p h1 => DRun.mono hk js _ _ _ _ h1) hi
      · exact oK_mono (fun p h1 => DRun.mono hk js _ _ _ _ h1) hi
      · split at hi
        · exact oK_mono (fun p h1 => DRun.mono hk js _ _ _ _ h1) hi
        · exact DRun.mono hk js _ _ _ _ hi
        · exact hi
      · exact hi.mono fun v h' h1 => ⟨h1.1, DRun.mono hk js _ _ _ _ h1.2⟩
      · exact hi
theorem ILoop.mono {P : Program} {n : Nat} {c : Code} {Q Q' : IExit → IAct → Heap → Prop} {a : IAct} {h : Heap} (hq : ∀ e a h, Q e a h → Q' e a h) (hl : ILoop P n c Q a h) : ILoop P n c Q' a h := by
  intro F ρ w ra hr ar b k cs
  obtain ⟨e, ra', w', ⟨ie, a', h', F', ρ', k', rest⟩, harr⟩ := hl F ρ w ra hr ar b k cs
  exact ⟨e, ra', w', ⟨ie, a', h', F', ρ', hq _ _ _ k', rest⟩, harr⟩
theorem IC.mono {P : Program} {n : Nat} {D : Nat → DI} : ∀ (c : Code) {Q Q' : IExit → IAct → Heap → Prop} {a : IAct} {h : Heap}, (∀ e a h, Q e a h → Q' e a h) → IC P n D c Q a h → IC P n D c Q' a h
  | .skip, Q, Q', a, h, hq, hi => hq _ _ _ hi
  | .region id ops dr, Q, Q', a, h, hq, hi => by
    cases dr with
    | true => exact DRun.mono (fun a h => hq .normal a h) _ _ _ _ _ hi
    | false => exact IRun.mono (fun a h => hq .normal a h) _ _ _ hi
  | .seq x y, Q, Q', a, h, hq, hi => by
    refine IC.mono x ?_ hi
    intro e a' h' h1
    cases e with
    | normal => exact IC.mono y hq h1
    | exit id => exact hq _ _ _ h1
    | ret => exact hq _ _ _ h1
  | .cond c x y, Q, Q', a, h, hq, hi => by
    simp only [IC, bK'] at hi ⊢
    split at hi
    · split at hi
      · rename_i hb; rw [if_pos hb]; exact IC.mono x hq hi
      · rename_i hb; rw [if_neg hb]; exact IC.mono y hq hi
    · exact hi
  | .block id c, Q, Q', a, h, hq, hi => by
    refine IC.mono c ?_ hi
    intro e a' h' h1
    cases e with
    | normal => exact hq _ _ _ h1
    | ret => exact hq _ _ _ h1
    | exit id' =>
      simp only [Zu] at h1 ⊢
      split
      · rename_i hid; rw [if_pos hid] at h1; exact hq _ _ _ h1
      · rename_i hid; rw [if_neg hid] at h1; exact hq _ _ _ h1
  | .loop c, Q, Q', a, h, hq, hi => ILoop.mono hq hi
  | .exit id, Q, Q', a, h, hq, hi => hq _ _ _ hi
  | .ret, Q, Q', a, h, hq, hi => hq _ _ _ hi
  | .rangeFunc .., _, _, _, _, _, hi => hi
  | .scope _, _, _, _, _, _, hi => hi
  | .label _, _, _, _, _, _, hi => hi
  | .goto _, _, _, _, _, _, hi => hi
  | .refuse _, _, _, _, _, _, hi => hi
theorem ILoop.round {P : Program} {n : Nat} {D : Nat → DI} (hm : P.follows .mixedOrders = true) {c : Code} (hc : chkC P n D c = true) {Q : IExit → IAct → Heap → Prop} {L : IAct → Heap → Prop} (hL : ∀ a h, L a h → ILoop P n c Q a h) {a : IAct} {h : Heap} (hi : IC P n D c (Z6 L Q) a h) : ILoop P n c Q a h :=
  ILoop.unfold ((IC.sound hm c hc _ a h hi).mono (iThen_mono hL))
inductive RV where
  | v (x : IV)
  | c (x : IV) (ty : TypeId)
def resV (P : Program) (h : Heap) : List RV → Option (List IV)
  | [] => some []
  | .v x :: rs => (resV P h rs).map (x :: ·)
  | .c x ty :: rs => match Z3 P ty x h with
    | some v => (resV P h rs).map (v :: ·)
    | none => none
def rvOf (a : IAct) : ResultVar → RV
  | .tmp t => .v (a t)
  | .cell t ty => .c (a t) ty
theorem resV_eq {P : Program} {a : IAct} {h : Heap} : ∀ rs : List ResultVar, resI P a h rs = resV P h (rs.map (rvOf a))
  | [] => rfl
  | .tmp t :: rs => by simp [resI, resV, rvOf, resV_eq rs]
  | .cell t ty :: rs => by
    simp only [resI, resV, rvOf, List.map_cons, resV_eq rs]
    cases Z3 P ty (a t) h <;> rfl
def Zb (P : Program) (l : List RV) (h : Heap) (K : IV → Heap → Prop) : Prop := oK ((resV P h l).map tupI) fun r => K r h
def finK (P : Program) (rs : List ResultVar) (K : IV → Heap → Prop) : IExit → IAct → Heap → Prop
  | .exit _, _, _ => False
  | .normal, a, h => Zb P (rs.map (rvOf a)) h K
  | .ret, a, h => Zb P (rs.map (rvOf a)) h K
theorem Z0.ofIC {P : Program} {f : FuncId} {fn : Func} {c : Code} {D : Nat → DI} {args : List IV} {h : Heap} {K : IV → Heap → Prop} (hm : P.follows .mixedOrders = true) (hf : P.funcs[f]? = some fn) (hb : fn.body = some c) (hn : args.length ≤ fn.ntmps) (hc : chkC P fn.ntmps D c = true)
    (hi : IC P fn.ntmps D c (finK P fn.results.toList K) (actI args) h) : Z0 P f args h K := by
  refine Z0.of hf hb hn ((IC.sound hm c hc _ _ h hi).mono ?_)
  have key : ∀ a' h', Zb P (fn.results.toList.map (rvOf a')) h' K → ∃ r, retI P a' h' fn.results.toList = some r ∧ K r h' := by
    intro a' h' hr
    unfold Zb oK at hr
    rw [← resV_eq] at hr
    split at hr
    · rename_i r hr'; exact ⟨r, hr', hr⟩
    · exact hr.elim
  intro e a' h' hq
  cases e with
  | normal => exact ⟨.inl rfl, key a' h' hq⟩
  | ret => exact ⟨.inr rfl, key a' h' hq⟩
  | exit id => exact hq.elim
end Go.Ideal
namespace Go.Ideal
theorem Z9 {α : Sort _} {a b : α} (h : a = b) : a = b := h
def oD (x : Option IV) (h : Heap) (K : IV → Prop) : Prop := oK (gOp (some true) (x.map fun v => (v, h)) h) fun p => K p.1
def oG (w : Option Bool) (x : Option IV) (h : Heap) (K : IV → Prop) : Prop := oK (gOp w (x.map fun v => (v, h)) h) fun p => K p.1
def oP (w : Option Bool) (x : Option (IV × Heap)) (h : Heap) (K : IV → Prop) : Prop := oK (gOp w x h) fun p => K p.1
def oA (x : Option (IV × Heap)) (h : Heap) (K : IV → Heap → Prop) : Prop := oK (gOp (some true) x h) fun p => K p.1 p.2
def oS (x : Option Heap) (h : Heap) (K : Heap → Prop) : Prop := oK (gOp (some true) (x.map fun h' => (IV.any, h')) h) fun p => K p.2
def gW (v : IV) (b : Bool) : Option Bool := match v with
  | .bool x => some (x == b)
  | .tup [] => some false
  | _ => none
def Zg (c x y : IV) (h : Heap) : Option (IV × Heap) := match c with
  | .bool b => some (if b then x else y, h)
  | _ => none
def nilI (x : IV) (h : Heap) : Option (IV × Heap) := match x with
  | .ptr b i o => some (.ptr b i o, h)
  | .fptr cs => some (.fptr cs, h)
  | .fn f cs => some (.fn f cs, h)
  | _ => none
def Zs (P : Program) (t : TypeId) (ps : List (Nat × IV)) : Option IV :=
  match zrO P t, flO P t with
  | some z, some fl => (fillI (fl[·]?) z ps).map IV.agg
  | _, _ => none
def Zq (P : Program) (t : TypeId) (n : Nat) (ps : List (Nat × IV)) (h : Heap) : Option (IV × Heap) :=
  match elO P t with
  | some e => match zrO P e, szO P e with
    | some z, some s => if n * s ≤ 16777216 ∧ 0 < s ∧ z.length = s then
        (fillI (fun i => some (i * s, s)) (List.replicate n z).flatten ps).map fun cs => (.sl h.length 0 n, h ++ [some ⟨s, e, chunks s n cs⟩]) else none
    | _, _ => none
  | none => none
def newB (t : TypeId) (x : IV) : Option (Option Nat × Blk) := (Zh x).map fun cs => (none, ⟨cs.length, t, [cs]⟩)
def newS (P : Program) (t : TypeId) (n : Nat) (ps : List (Nat × IV)) : Option (Option Nat × Blk) :=
  match elO P t with
  | some e => match zrO P e, szO P e with
    | some z, some s => if n * s ≤ 16777216 ∧ 0 < s ∧ z.length = s then
        (fillI (fun i => some (i * s, s)) (List.replicate n z).flatten ps).map fun cs => (some n, ⟨s, e, chunks s n cs⟩) else none
    | _, _ => none
  | none => none
def Za (x : Option IV) (v : IV) (h : Heap) : Prop := (x.map fun v => (v, h)) = some (v, h)
def Zz (w : Option Bool) (x : Option IV) (v : IV) (h : Heap) : Prop := match w with | some true => (x.map fun v => (v, h)) = some (v, h) | _ => True
section
variable {P : Program} {x v : IV} {h h' : Heap} {K : IV → Prop} {KH : IV → Heap → Prop}
@[simp] theorem oK_some {α : Type} (x : α) (K : α → Prop) : oK (some x) K = K x := Z9 rfl
@[simp] theorem oD_some : oD (some v) h K = K v := Z9 rfl
@[simp] theorem oA_some {p : IV × Heap} : oA (some p) h KH = KH p.1 p.2 := Z9 rfl
@[simp] theorem oS_some {K : Heap → Prop} : oS (some h') h K = K h' := Z9 rfl
@[simp] theorem gW_bool (b c : Bool) : gW (.bool b) c = some (b == c) := Z9 rfl
@[simp] theorem nilI_ptr (b i o : Nat) : nilI (.ptr b i o) h = some (.ptr b i o, h) := Z9 rfl
@[simp] theorem retK_nil : Zb P [] h KH = KH (.tup []) h := Z9 rfl
@[simp] theorem retK_v : Zb P [.v x] h KH = KH x h := Z9 rfl
end
def cL : Code → Code
  | .seq x _ => x
  | .cond _ x _ => x
  | .block _ c => c
  | .loop c => c
  | c => c
def cR : Code → Code
  | .seq _ y => y
  | .cond _ _ y => y
  | c => c
def Says (r : IV) (h : Heap) (r2 : IV) (h2 : Heap) : Prop :=
  ∀ (F : Frz) (ρ : Lay) (w : World) (u : Value), Rel F ρ h w → VR F ρ r u → ∃ F', Step F ρ h w F' ρ h2 w ∧ VR F' ρ r2 u
theorem Z0.says {P : Program} {f : FuncId} {args : List IV} {h : Heap} {K K' : IV → Heap → Prop} (hc : Z0 P f args h K) (hk : ∀ r h', K r h' → ∃ r2 h2, Says r h' r2 h2 ∧ K' r2 h2) : Z0 P f args h K' := by
  intro F ρ w us hr hv
  refine (hc F ρ w us hr hv).mono ?_
  rintro e w' ⟨r, h', v, F', ρ', k, rfl, st, hv'⟩
  obtain ⟨r2, h2, hs, k2⟩ := hk r h' k
  obtain ⟨F2, s2, v2⟩ := hs F' ρ' w' v st.rel hv'
  exact ⟨r2, h2, v, F2, ρ', k2, rfl, st.trans s2, v2⟩
theorem Z0.drop {P : Program} {f : FuncId} {args : List IV} {h : Heap} {K K' : IV → Heap → Prop} (hc : Z0 P f args h K)
    (hk : ∀ r h', K r h' → h.length ≤ h'.length → Bel h.length r ∧ (∀ (b : Nat) (k : Blk), b < h.length → h'[b]? = some (some k) → Belss h.length k.es) ∧ K' r (h'.take h.length)) : Z0 P f args h K' := by
  intro F ρ w us hr hv
  refine (hc F ρ w us hr hv).mono ?_
  rintro e w' ⟨r, h', v, F', ρ', k, rfl, st, hv'⟩
  obtain ⟨h1, h2, h3⟩ := hk r h' k st.len
  obtain ⟨q1, q2⟩ := Step.drop st.rel h.length st.len h2
  have hρ : ∀ b l, b < h.length → ρ' b = some l → (if b < h.length then ρ' b else none) = some l := fun b l hb e => by rw [if_pos hb]; exact e
  refine ⟨r, h'.take h.length, v, F', fun b => if b < h.length then ρ' b else none, h3, rfl, ⟨st.fF, fun b l e => ?_, q1, st.frame, fun i hi => st.img i (q2 i hi), st.newF, ?_, fun b l hb e => ?_, st.size, st.os, st.tape, st.output⟩, VR.move (n := h.length) (FLe.refl F') hρ r v h1 hv'⟩
  · rw [if_pos (hr.low b l e)]; exact st.fρ b l e
  · rw [List.length_take, Nat.min_eq_left st.len]; exact Nat.le_refl _
  · rw [if_pos hb] at e; exact st.old b l hb e
end Go.Ideal
namespace Go.Ideal
mutual
/-- 'Fz h B r2 r': r2 is r, with the blocks of B taken as they are in h. -/
def Fz (h : Heap) (B : Nat → Bool) : IV → IV → Prop
  | .any, _ => True
  | .bool b, r => r = .bool b
  | .int k n, r => r = .int k n
  | .str s, r => r = .str s
  | .nil, r => r = .nil
  | .snil, r => r = .snil
  | .ptr b i o, r => r = .ptr b i o ∧ B b = false
  | .sl b lo len, r => r = .sl b lo len ∧ B b = false
  | .fptr cs, r => (∃ b i o k e, r = .ptr b i o ∧ B b = true ∧ h[b]? = some (some k) ∧ k.es[i]? = some e ∧ Fzs h B cs (e.drop o)) ∨ ∃ cs', r = .fptr cs' ∧ Fzs h B cs cs'
  | .vs s es, r => (r = .snil ∧ es = []) ∨ (∃ b lo k, r = .sl b lo es.length ∧ B b = true ∧ h[b]? = some (some k) ∧ k.size = s ∧ lo + es.length ≤ k.es.length ∧ Fzss h B es ((k.es.drop lo).take es.length)) ∨ ∃ es', r = .vs s es' ∧ Fzss h B es es'
  | .fn f cs, r => ∃ cs', r = .fn f cs' ∧ Fzs h B cs cs'
  | .agg cs, r => ∃ cs', r = .agg cs' ∧ Fzs h B cs cs'
  | .tup cs, r => ∃ cs', r = .tup cs' ∧ Fzs h B cs cs'
def Fzs (h : Heap) (B : Nat → Bool) : List IV → List IV → Prop
  | [], rs => rs = []
  | c :: cs, rs => ∃ r rs', rs = r :: rs' ∧ Fz h B c r ∧ Fzs h B cs rs'
def Fzss (h : Heap) (B : Nat → Bool) : List (List IV) → List (List IV) → Prop
  | [], rs => rs = []
  | c :: cs, rs => ∃ r rs', rs = r :: rs' ∧ Fzs h B c r ∧ Fzss h B cs rs'
end
mutual
theorem Fz.refl (h : Heap) (B : Nat → Bool) : ∀ (r : IV), Bel 0 r → Fz h B r r
  | .any, _ => by simp [Fz]
  | .bool _, _ => by simp [Fz]
  | .int _ _, _ => by simp [Fz]
  | .str _, _ => by simp [Fz]
  | .nil, _ => by simp [Fz]
  | .snil, _ => by simp [Fz]
  | .ptr b _ _, k => by simp [Bel] at k
  | .sl b _ _, k => by simp [Bel] at k
  | .fptr cs, k => by simp only [Fz]; exact .inr ⟨cs, rfl, Fzs.refl h B cs (by simpa [Bel] using k)⟩
  | .vs s es, k => by simp only [Fz]; exact .inr (.inr ⟨es, rfl, Fzss.refl h B es (by simpa [Bel] using k)⟩)
  | .fn f cs, k => by simp only [Fz]; exact ⟨cs, rfl, Fzs.refl h B cs (by simpa [Bel] using k)⟩
  | .agg cs, k => by simp only [Fz]; exact ⟨cs, rfl, Fzs.refl h B cs (by simpa [Bel] using k)⟩
  | .tup cs, k => by simp only [Fz]; exact ⟨cs, rfl, Fzs.refl h B cs (by simpa [Bel] using k)⟩
theorem Fzs.refl (h : Heap) (B : Nat → Bool) : ∀ (rs : List IV), Bels 0 rs → Fzs h B rs rs
  | [], _ => by simp [Fzs]
  | r :: rs, k => by
    simp only [Bels] at k
    simp only [Fzs]
    exact ⟨r, rs, rfl, Fz.refl h B r k.1, Fzs.refl h B rs k.2⟩
theorem Fzss.refl (h : Heap) (B : Nat → Bool) : ∀ (rs : List (List IV)), Belss 0 rs → Fzss h B rs rs
  | [], _ => by simp [Fzss]
  | r :: rs, k => by
    simp only [Belss] at k
    simp only [Fzss]
    exact ⟨r, rs, rfl, Fzs.refl h B r k.1, Fzss.refl h B rs k.2⟩
end
def killB (B : Nat → Bool) (h : Heap) : Heap := h.mapIdx fun b x => if B b then none else x
@[simp] theorem killB_length (B : Nat → Bool) (h : Heap) : (killB B h).length = h.length := by simp [killB]
theorem killB_get (B : Nat → Bool) (h : Heap) (b : Nat) : (killB B h)[b]? = (h[b]?).map fun x => if B b then none else x := by simp [killB]
theorem killB_some {B : Nat → Bool} {h : Heap} {b : Nat} {k : Blk} : (killB B h)[b]? = some (some k) ↔ B b = false ∧ h[b]? = some (some k) := by
  rw [killB_get]
  cases e : h[b]? with
  | none => simp
  | some x =>
    cases hB : B b <;> simp
section
variable {F : Frz} {ρ : Lay} {h : Heap} {w : World} (hr : Rel F ρ h w) (B : Nat → Bool)
open Classical in
noncomputable def frzB (F : Frz) (ρ : Lay) (h : Heap) (w : World) (B : Nat → Bool) : Frz := fun R => if ∃ b k l, B b = true ∧ h[b]? = some (some k) ∧ ρ b = some l ∧ l.R = R then w.heap[R]? else F R
include hr in
theorem frzB_le : FLe F (frzB F ρ h w B) := by
  intro R o e
  unfold frzB
  split
  · exact hr.frz R o e
  · exact e
include hr in
theorem Rel.freezeSet : Step F ρ h w (frzB F ρ h w B) ρ (killB B h) w := by
  have hle := frzB_le hr B
  refine ⟨hle, fun _ _ e => e, ⟨?_, ?_, ?_, ?_⟩, fun _ _ _ => rfl, ?_, ?_, by simp, fun _ _ _ e => e, Nat.le_refl _, rfl, rfl, rfl⟩
  · intro R o e
    unfold frzB at e
    split at e
    · exact e
    · exact hr.frz R o e
  · intro c k' e
    obtain ⟨hB, e⟩ := killB_some.1 e
    obtain ⟨l', hl', hF', cs', g1, g2, g3, g4, g5⟩ := hr.liv c k' e
    refine ⟨l', hl', ?_, cs', g1, g2, g3, g4, RowsAt.move (n := h.length) hle (fun _ _ _ e => e) _ _ _ _ _ (RowsAt.bel hr.low _ _ _ _ g5) (fun _ _ e => e) g5⟩
    unfold frzB
    rw [if_neg]
    · exact hF'
    · rintro ⟨b, k, l, h1, h2, h3, h4⟩
      have := hr.inj b c k k' l l' h2 e h3 hl' h4
      subst this
      rw [hB] at h1; cases h1
  · intro c c' k1 k2 l1 l2 e e'
    exact hr.inj c c' k1 k2 l1 l2 (killB_some.1 e).2 (killB_some.1 e').2
  · intro c l' e
    simpa using hr.low c l' e
  · rintro i ⟨b, k, l, h1, h2, h3⟩ _
    exact ⟨b, k, l, (killB_some.1 h1).2, h2, h3⟩
  · intro R o e
    unfold frzB at e
    split at e
    · rename_i hx
      obtain ⟨b, k, l, h1, h2, h3, h4⟩ := hx
      exact .inr (.inr ⟨b, k, l, h2, h3, h4⟩)
    · exact .inl e
theorem frzB_at {b : Nat} {k : Blk} {l : Loc} (hB : B b = true) (hb : h[b]? = some (some k)) (hl : ρ b = some l) : frzB F ρ h w B l.R = w.heap[l.R]? := by
  unfold frzB
  rw [if_pos ⟨b, k, l, hB, hb, hl, rfl⟩]
theorem frzB_cell {b : Nat} {k : Blk} {l : Loc} {cs : Array Value} (hB : B b = true) (hb : h[b]? = some (some k)) (hl : ρ b = some l) (g1 : w.heap[l.R]? = some (.cells cs k.ty (0, 0))) : fcell (frzB F ρ h w B) l.R = (cs[·]?) := by
  funext off
  unfold fcell
  rw [frzB_at B hB hb hl, g1]
end
mutual
theorem VRz {F : Frz} {ρ : Lay} {h : Heap} {w : World} (hr : Rel F ρ h w) (B : Nat → Bool) : ∀ (r2 r : IV) (u : Value), Fz h B r2 r → VR F ρ r u → VR (frzB F ρ h w B) ρ r2 u
  | .any, _, _, _, _ => by simp [VR]
  | .bool _, _, _, hz, hv => by simp only [Fz] at hz; subst hz; simpa [VR] using hv
  | .int _ _, _, _, hz, hv => by simp only [Fz] at hz; subst hz; simpa [VR] using hv
  | .str _, _, _, hz, hv => by simp only [Fz] at hz; subst hz; simpa [VR] using hv
  | .nil, _, _, hz, hv => by simp only [Fz] at hz; subst hz; simpa [VR] using hv
  | .snil, _, _, hz, hv => by simp only [Fz] at hz; subst hz; simpa [VR] using hv
  | .ptr b i o, _, _, hz, hv => by simp only [Fz] at hz; obtain ⟨rfl, _⟩ := hz; simpa [VR] using hv
  | .sl b lo len, _, _, hz, hv => by simp only [Fz] at hz; obtain ⟨rfl, _⟩ := hz; simpa [VR] using hv
  | .fptr cs, r, u, hz, hv => by
    simp only [Fz] at hz
    simp only [VR]
    rcases hz with ⟨b, i, o, k, e, rfl, hB, hb, he, hc⟩ | ⟨cs', rfl, hc⟩
    · simp only [VR] at hv
      obtain ⟨l, hl, rfl⟩ := hv
      obtain ⟨l', hl', hF', cs', g1, g2, g3, g4, g5⟩ := hr.liv b k hb
      rw [hl] at hl'; cases hl'
      refine ⟨l.R, _, rfl, ?_⟩
      rw [frzB_cell B hB hb hl g1]
      have := CellsAt.drop o (RowsAt.get g5 he).2
      rw [← g3] at this
      exact CellsZ hr B cs _ _ _ _ hc (fun i x e => e) this
    · simp only [VR] at hv
      obtain ⟨R, off, rfl, hcc⟩ := hv
      exact ⟨R, off, rfl, CellsZ hr B cs _ _ _ _ hc (fun i x e => fcell_le (frzB_le hr B) e) hcc⟩
  | .vs s es, r, u, hz, hv => by
    simp only [Fz] at hz
    simp only [VR]
    rcases hz with ⟨rfl, rfl⟩ | ⟨b, lo, k, rfl, hB, hb, hs, hle, hc⟩ | ⟨es', rfl, hc⟩
    · simp only [VR] at hv
      subst hv
      exact ⟨none, 0, rfl, Nat.le_refl _, fun h => absurd rfl h⟩
    · simp only [VR] at hv
      obtain ⟨l, a, c, hl, rfl, hlc, hor⟩ := hv
      obtain ⟨l', hl', hF', cs', g1, g2, g3, g4, g5⟩ := hr.liv b k hb
      rw [hl] at hl'; cases hl'
      refine ⟨some a, c, rfl, hlc, fun hne => ?_⟩
      have hpos : 0 < es.length := by
        rcases Nat.eq_zero_or_pos es.length with h0 | h0
        · exact absurd (List.length_eq_zero_iff.1 h0) hne
        · exact h0
      rcases hor with ⟨h0, _⟩ | ⟨hA, _⟩
      · omega
      · refine ⟨l.R, l.base + lo * l.size, congrArg some hA, ?_⟩
        rw [frzB_cell B hB hb hl g1]
        have hrows := RowsAt.take es.length (RowsAt.drop lo g5)
        rw [g3, ← hs]
        exact RowsZ hr B k.size es _ _ _ _ hc (fun i x e => e) hrows
    · simp only [VR] at hv
      obtain ⟨A, c, rfl, hlc, hrow⟩ := hv
      have hlen : es.length = es'.length := FzssLen es es' hc
      rw [hlen]
      refine ⟨A, c, rfl, hlc, fun hne => ?_⟩
      obtain ⟨R, off, hA, hrows⟩ := hrow (by
        intro e; subst e; apply hne; exact List.length_eq_zero_iff.1 (by simpa using hlen))
      exact ⟨R, off, hA, RowsZ hr B s es _ _ _ _ hc (fun i x e => fcell_le (frzB_le hr B) e) hrows⟩
  | .fn f cs, _, _, hz, hv => by
    simp only [Fz] at hz
    obtain ⟨cs', rfl, hc⟩ := hz
    simp only [VR] at hv ⊢
    obtain ⟨us, rfl, hu⟩ := hv
    exact ⟨us, rfl, VRsZ hr B cs _ _ hc hu⟩
  | .agg cs, _, _, hz, hv => by
    simp only [Fz] at hz
    obtain ⟨cs', rfl, hc⟩ := hz
    simp only [VR] at hv ⊢
    obtain ⟨us, rfl, hu⟩ := hv
    exact ⟨us, rfl, VRsZ hr B cs _ _ hc hu⟩
  | .tup cs, _, _, hz, hv => by
    simp only [Fz] at hz
    obtain ⟨cs', rfl, hc⟩ := hz
    simp only [VR] at hv ⊢
    obtain ⟨us, rfl, hu⟩ := hv
    exact ⟨us, rfl, VRsZ hr B cs _ _ hc hu⟩
theorem VRsZ {F : Frz} {ρ : Lay} {h : Heap} {w : World} (hr : Rel F ρ h w) (B : Nat → Bool) : ∀ (cs rs : List IV) (us : List Value), Fzs h B cs rs → VRs F ρ rs us → VRs (frzB F ρ h w B) ρ cs us
  | [], _, _, hz, hv => by simp only [Fzs] at hz; subst hz; simpa [VRs] using hv
  | c :: cs, _, _, hz, hv => by
    simp only [Fzs] at hz
    obtain ⟨r, rs', rfl, h1, h2⟩ := hz
    simp only [VRs] at hv ⊢
    obtain ⟨u, us', rfl, g1, g2⟩ := hv
    exact ⟨u, us', rfl, VRz hr B c r u h1 g1, VRsZ hr B cs rs' us' h2 g2⟩
theorem CellsZ {F : Frz} {ρ : Lay} {h : Heap} {w : World} (hr : Rel F ρ h w) (B : Nat → Bool) : ∀ (cs rs : List IV) (g g' : Nat → Option Value) (off : Nat), Fzs h B cs rs → (∀ i x, g i = some x → g' i = some x) → CellsAt F ρ rs g off → CellsAt (frzB F ρ h w B) ρ cs g' off
  | [], _, _, _, _, _, _, _ => by simp [CellsAt]
  | c :: cs, _, g, g', off, hz, hg, hv => by
    simp only [Fzs] at hz
    obtain ⟨r, rs', rfl, h1, h2⟩ := hz
    simp only [CellsAt] at hv ⊢
    obtain ⟨⟨u, hu, g1⟩, g2⟩ := hv
    exact ⟨⟨u, hg _ _ hu, VRz hr B c r u h1 g1⟩, CellsZ hr B cs rs' g g' _ h2 hg g2⟩
theorem RowsZ {F : Frz} {ρ : Lay} {h : Heap} {w : World} (hr : Rel F ρ h w) (B : Nat → Bool) (s : Nat) : ∀ (es rs : List (List IV)) (g g' : Nat → Option Value) (off : Nat), Fzss h B es rs → (∀ i x, g i = some x → g' i = some x) → RowsAt F ρ s rs g off → RowsAt (frzB F ρ h w B) ρ s es g' off
  | [], _, _, _, _, _, _, _ => by simp [RowsAt]
  | e :: es, _, g, g', off, hz, hg, hv => by
    simp only [Fzss] at hz
    obtain ⟨r, rs', rfl, h1, h2⟩ := hz
    simp only [RowsAt] at hv ⊢
    exact ⟨by rw [FzsLen e r h1]; exact hv.1, CellsZ hr B e r g g' _ h1 hg hv.2.1, RowsZ hr B s es rs' g g' _ h2 hg hv.2.2⟩
theorem FzsLen {h : Heap} {B : Nat → Bool} : ∀ (cs rs : List IV), Fzs h B cs rs → cs.length = rs.length
  | [], _, hz => by simp only [Fzs] at hz; subst hz; rfl
  | c :: cs, _, hz => by
    simp only [Fzs] at hz
    obtain ⟨r, rs', rfl, h1, h2⟩ := hz
    simp [FzsLen cs rs' h2]
theorem FzssLen {h : Heap} {B : Nat → Bool} : ∀ (cs rs : List (List IV)), Fzss h B cs rs → cs.length = rs.length
  | [], _, hz => by simp only [Fzss] at hz; subst hz; rfl
  | c :: cs, _, hz => by
    simp only [Fzss] at hz
    obtain ⟨r, rs', rfl, h1, h2⟩ := hz
    simp [FzssLen cs rs' h2]
end
end Go.Ideal
namespace Go.Ideal
def FunQ (P : Program) (f : FuncId) (args : List IV) (Q : IV → Prop) : Prop := ∀ (h : Heap) (K : IV → Heap → Prop), (∀ r, Q r → K r h) → Z0 P f args h K
abbrev Fun (P : Program) (f : FuncId) (args : List IV) (r : IV) : Prop := FunQ P f args fun x => x = r
theorem Fun.call {P : Program} {f : FuncId} {args : List IV} {r : IV} {h : Heap} {K : IV → Heap → Prop} (hf : Fun P f args r) (k : K r h) : Z0 P f args h K := hf h K fun x e => e ▸ k
def geB (n : Nat) : Nat → Bool := fun b => decide (n ≤ b)
def Ret (Q : IV → Prop) (h : Heap) (r : IV) (h' : Heap) : Prop := ∃ r2, h <+: h' ∧ Fz h' (geB h.length) r2 r ∧ Bel h.length r2 ∧ Q r2
theorem FunQ.intro {P : Program} {f : FuncId} {args : List IV} {Q : IV → Prop} (hc : ∀ h, Z0 P f args h (Ret Q h)) : FunQ P f args Q := by
  intro h K hk F ρ w us hr hv
  have hb : ∀ (b : Nat) (k : Blk), h[b]? = some (some k) → Belss h.length k.es := fun b k e => by
    obtain ⟨_, _, _, _, _, _, _, _, q⟩ := hr.liv b k e
    exact RowsAt.bel hr.low _ _ _ _ q
  refine ((hc h).says (K' := fun r h' => ∃ t, h' = h ++ t ∧ Bel h.length r ∧ Q r) ?_ |>.drop (K' := K) ?_) F ρ w us hr hv
  · rintro r h' ⟨r2, ⟨t, rfl⟩, hz, hbel, hq⟩
    refine ⟨r2, killB (geB h.length) (h ++ t), ?_, ?_⟩
    · intro F ρ w u hr hv
      exact ⟨_, Rel.freezeSet hr _, VRz hr _ r2 r u hz hv⟩
    · refine ⟨(killB (geB h.length) (h ++ t)).drop h.length, ?_, hbel, hq⟩
      have : (killB (geB h.length) (h ++ t)).take h.length = h := by
        apply List.ext_getElem?
        intro i
        rw [List.getElem?_take]
        split
        · rename_i hi
          rw [killB_get, List.getElem?_append_left hi]
          have : geB h.length i = false := by unfold geB; simp; omega
          rw [this]; cases h[i]? <;> rfl
        · rw [List.getElem?_eq_none (by omega)]
      conv => rhs; lhs; rw [← this]
      exact (List.take_append_drop _ _).symm
  · rintro r h' ⟨t, rfl, hbel, hq⟩ _
    refine ⟨hbel, fun b k hlt e => hb b k ?_, ?_⟩
    · rwa [List.getElem?_append_left hlt] at e
    · rw [List.take_left]; exact hk r hq
def hidden (h : Heap) : Heap := killB (fun _ => true) h
abbrev PT := List (Nat × Option Blk)
structure Own (h0 : Heap) (rs : List PT) (h : Heap) : Prop where
  pre : h0 <+: h
  nd : (rs.flatten.map (·.1)).Nodup
  get : ∀ p ∈ rs.flatten, h0.length ≤ p.1 ∧ h[p.1]? = some p.2
theorem Own.start (h : Heap) : Own h [] h := ⟨List.prefix_rfl, by simp, by simp⟩
theorem Own.len {h0 h : Heap} {rs : List PT} (S : Own h0 rs h) : h0.length ≤ h.length := S.pre.length_le
theorem Own.sub {h0 h : Heap} {rs rs' : List PT} (S : Own h0 rs h) (hs : rs'.flatten.Sublist rs.flatten) : Own h0 rs' h :=
  ⟨S.pre, S.nd.sublist (hs.map _), fun p hp => S.get p (hs.subset hp)⟩
theorem Own.perm {h0 h : Heap} {rs rs' : List PT} (S : Own h0 rs h) (hs : rs'.flatten.Perm rs.flatten) : Own h0 rs' h :=
  ⟨S.pre, (hs.map _).nodup_iff.2 S.nd, fun p hp => S.get p (hs.subset hp)⟩
theorem Own.drop {h0 h : Heap} {L : PT} {rs : List PT} (S : Own h0 (L :: rs) h) : Own h0 rs h := S.sub (by simp)
theorem Own.swap {h0 h : Heap} {L M : PT} {rs : List PT} (S : Own h0 (L :: M :: rs) h) : Own h0 (M :: L :: rs) h := S.perm (by simp only [List.flatten_cons, ← List.append_assoc]; exact List.Perm.append_right _ List.perm_append_comm)
theorem Own.lt {h0 h : Heap} {rs : List PT} (S : Own h0 rs h) {p : Nat × Option Blk} (hp : p ∈ rs.flatten) : p.1 < h.length := (List.getElem?_eq_some_iff.1 (S.get p hp).2).1
theorem prefix_set {h0 h : Heap} (p : h0 <+: h) {b : Nat} (hb : h0.length ≤ b) (x : Option Blk) : h0 <+: h.set b x := by
  obtain ⟨t, rfl⟩ := p
  rw [List.set_append_right _ _ hb]
  exact ⟨_, rfl⟩
theorem Own.push {h0 h : Heap} {rs : List PT} (S : Own h0 rs h) (k : Option Blk) : Own h0 ([(h.length, k)] :: rs) (h ++ [k]) := by
  refine ⟨S.pre.trans (List.prefix_append _ _), ?_, ?_⟩
  · simp only [List.flatten_cons, List.map_append, List.map_cons, List.map_nil, List.singleton_append, List.nodup_cons]
    refine ⟨fun hm => ?_, S.nd⟩
    obtain ⟨p, hp, e⟩ := List.mem_map.1 hm
    have := S.lt hp
    omega
  · intro p hp
    simp only [List.flatten_cons, List.singleton_append, List.mem_cons] at hp
    rcases hp with rfl | hp
    · exact ⟨S.len, by simp⟩
    · refine ⟨(S.get p hp).1, ?_⟩
      rw [List.getElem?_append_left (S.lt hp)]
      exact (S.get p hp).2
theorem Own.set {h0 h : Heap} {b : Nat} {k : Option Blk} {L : PT} {rs : List PT} (S : Own h0 (((b, k) :: L) :: rs) h) (k' : Option Blk) : Own h0 (((b, k') :: L) :: rs) (h.set b k') := by
  have hb := S.get (b, k) (by simp)
  have hlt := S.lt (p := (b, k)) (by simp)
  have hnd := S.nd
  simp only [List.flatten_cons, List.cons_append, List.map_cons, List.nodup_cons] at hnd
  refine ⟨prefix_set S.pre hb.1 _, by simpa using S.nd, ?_⟩
  intro p hp
  simp only [List.flatten_cons, List.cons_append, List.mem_cons] at hp
  rcases hp with rfl | hp
  · exact ⟨hb.1, by simp at hlt; simp [hlt]⟩
  · have := S.get p (by simp only [List.flatten_cons, List.cons_append, List.mem_cons]; exact .inr hp)
    refine ⟨this.1, ?_⟩
    rw [List.getElem?_set_ne]
    · exact this.2
    · rintro rfl; exact hnd.1 (List.mem_map.2 ⟨p, hp, rfl⟩)
theorem Own.move {h0 h : Heap} {b : Nat} {k : Option Blk} {L : PT} {rs : List PT} (S : Own h0 (((b, k) :: L) :: rs) h) (k' : Option Blk) : Own h0 (((h.length, k') :: L) :: rs) (h.set b none ++ [k']) := by
  have hb := S.get (b, k) (by simp)
  have hnd := S.nd
  simp only [List.flatten_cons, List.cons_append, List.map_cons, List.nodup_cons] at hnd
  have S' : Own h0 (L :: rs) (h.set b none) := by
    refine ⟨prefix_set S.pre hb.1 _, by simpa using hnd.2, ?_⟩
    intro p hp
    have hp' : p ∈ L ++ rs.flatten := by simpa using hp
    have := S.get p (by simp only [List.flatten_cons, List.cons_append, List.mem_cons]; exact .inr hp')
    refine ⟨this.1, ?_⟩
    rw [List.getElem?_set_ne]
    · exact this.2
    · rintro rfl; exact hnd.1 (List.mem_map.2 ⟨p, hp', rfl⟩)
  have := S'.push k'
  simp only [List.length_set] at this
  exact this.perm (by simp)
def Sl (n : Nat) (e : TypeId) (s : IV) (es : List (List IV)) (L : PT) : Prop := (s = .snil ∧ es = [] ∧ L = []) ∨ ∃ b, s = .sl b 0 es.length ∧ L = [(b, some ⟨n, e, es⟩)]
theorem Sl.nil (n : Nat) (e : TypeId) : Sl n e .snil [] [] := .inl ⟨rfl, rfl, rfl⟩
theorem Sl.mk (n : Nat) (e : TypeId) (b : Nat) (es : List (List IV)) : Sl n e (.sl b 0 es.length) es [(b, some ⟨n, e, es⟩)] := .inr ⟨b, rfl, rfl⟩
theorem Sl.src {n : Nat} {e : TypeId} {s : IV} {es : List (List IV)} {L : PT} {h0 h : Heap} {rs : List PT} (l : Sl n e s es L) (S : Own h0 (L :: rs) h) : srcI h n s = some es := by
  rcases l with ⟨rfl, rfl, rfl⟩ | ⟨b, rfl, rfl⟩
  · rfl
  · have := (S.get (b, some ⟨n, e, es⟩) (by simp)).2
    simp [srcI, this]
theorem Sl.append {n e : Nat} {h0 h : Heap} {rs : List PT} {s x : IV} {es xs : List (List IV)} {L : PT} {P : Program} {t t2 t' : TypeId} {z : List IV} {by_ : Nat} {K : IV → Heap → Prop}
    (l : Sl n e s es L) (S : Own h0 (L :: rs) h) (hx : srcI h n x = some xs) (ht : elO P t = some e) (ht2 : elO P t2 = some t') (hz : zrO P e = some z) (hs : szO P e = some n) (hb : byO P e = some by_)
    (hc : (decide (z.length = n) && decide (0 < n) && decide (by_ ≤ 65536)) = true) (ho : Zt xs = true) (hlen : es.length + xs.length ≤ 1073741824)
    (k : ∀ s' L' h', Sl n e s' (es ++ xs) L' → Own h0 (L' :: rs) h' → K s' h') : oA (Zk P t t2 s x h) h K := by
  simp only [Bool.and_eq_true, decide_eq_true_eq] at hc
  unfold Zk
  simp only [ht, ht2, hz, hs, hb, hx]
  rw [if_pos ⟨hc.1.1, hc.1.2, hc.2⟩]
  by_cases hne : xs = []
  · subst hne
    rw [if_pos rfl]
    rw [List.append_nil] at k
    rcases l with ⟨rfl, rfl, rfl⟩ | ⟨b, rfl, rfl⟩
    · simp only [oA_some]; exact k _ _ _ (.inl ⟨rfl, rfl, rfl⟩) S
    · simp only [oA_some]; exact k _ _ _ (.inr ⟨b, rfl, rfl⟩) S
  · rw [if_neg hne]
    rcases l with ⟨rfl, rfl, rfl⟩ | ⟨b, rfl, rfl⟩
    · simp only
      rw [if_pos (by simpa using hlen)]
      simp only [oA_some]
      exact k _ _ _ (Sl.mk n e h.length xs) (S.drop.push _)
    · have hg := (S.get (b, some ⟨n, e, es⟩) (by simp)).2
      simp only at hg
      simp only [hg]
      rw [if_pos (by simp [ho]; exact hlen)]
      simp only [oA_some, List.drop_zero, List.take_length]
      have := S.move (some ⟨n, e, es ++ xs⟩)
      refine k _ _ _ ?_ this
      have e1 : es.length + xs.length = (es ++ xs).length := by simp
      rw [e1]
      exact Sl.mk n e _ _
end Go.Ideal
namespace Go.Ideal
abbrev KT := IV → Heap → Prop
abbrev QT := IExit → IAct → Heap → Prop
abbrev sT : Option Bool := some true
abbrev G0 := (IV → Heap → Prop) → Heap → Prop
abbrev G1 := (IV → Heap → Prop) → IV → Heap → Prop
abbrev G2 := (IV → Heap → Prop) → IV → IV → Heap → Prop
abbrev G3 := (IV → Heap → Prop) → IV → IV → IV → Heap → Prop
abbrev G4 := (IV → Heap → Prop) → IV → IV → IV → IV → Heap → Prop
abbrev G5 := (IV → Heap → Prop) → IV → IV → IV → IV → IV → Heap → Prop
abbrev G6 := (IV → Heap → Prop) → IV → IV → IV → IV → IV → IV → Heap → Prop
abbrev G7 := (IV → Heap → Prop) → IV → IV → IV → IV → IV → IV → IV → Heap → Prop
def oB (A B : Prop) : Prop := A ∧ B
noncomputable def bodyN (f : Func) : Code := f.body.getD .skip
def oV (x : IV) (h : Heap) (K : IV → Prop) : Prop := oK (gOp (some true) (some (x, h)) h) fun p => K p.1
theorem oV_eq (x : IV) (h : Heap) (K : IV → Prop) : oV x h K = K x := Z9 rfl
def ICx (P : Program) (n : Nat) (D : Nat → DI) (c : Code) (Q : QT) (a : IAct) (h : Heap) : Prop := IC P n D c Q a h
section
variable {P : Program} {n : Nat} {D : Nat → DI} {c cl x y : Code} {id : Nat} {o : Operand} {Q : QT} {m L : IAct → Heap → Prop} {a : IAct} {h : Heap} {X Y : Prop}
theorem ICx.blk (p : ICx P n D cl (Zu id Q) a h) (e : c = .block id cl := by kernel_rfl) : ICx P n D c Q a h := by subst e; exact p
theorem ICx.sq (hy : ∀ a h, m a h → ICx P n D y Q a h) (p : ICx P n D x (Z6 m Q) a h) (e : c = .seq x y := by kernel_rfl) : ICx P n D c Q a h := by
  subst e; exact IC.mono x (iThen_mono hy) p
theorem ICx.lp (p : ILoop P n cl Q a h) (e : c = .loop cl := by kernel_rfl) : ICx P n D c Q a h := by subst e; exact p
theorem ICx.round (hm : P.follows .mixedOrders = true) (hL : ∀ a h, L a h → ILoop P n c Q a h) (hi : ICx P n D c (Z6 L Q) a h) (hc : chkC P n D c = true := by kernel_rfl) : ILoop P n c Q a h :=
  ILoop.round hm hc hL hi
theorem ICx.to {A B : Prop} (p : B) (e : A = B := by kernel_rfl) : A := Eq.mpr e p
theorem ICx.fn {f : FuncId} {fn : Func} {c : Code} {args : List IV} {K : KT} (hm : P.follows .mixedOrders = true) (hf : P.funcs[f]? = some fn) (hb : fn.body = some c) (hn : args.length ≤ fn.ntmps)
    (hi : ICx P fn.ntmps D c (finK P fn.results.toList K) (actI args) h) (hc : chkC P fn.ntmps D c = true := by kernel_rfl) : Z0 P f args h K := Z0.ofIC hm hf hb hn hc hi
end
attribute [irreducible] ICx
end Go.Ideal
namespace Go.Ideal
variable {P : Program} {x x' v : IV} {h h' : Heap} {K : IV → Prop} {KH : KT} {KP : Heap → Prop} {w w' : Option Bool} {o o' : Option IV} {p p' : Option (IV × Heap)} {X Y A B : Prop} {f : FuncId}
@[congr] theorem oD_congr (e : o = o') : oD o h K = oD o' h K := by rw [e]
def gv (b : Bool) (v : IV) : IV := if b = true then v else .tup []
@[simp] theorem gv_true (v : IV) : gv true v = v := Z9 rfl
@[congr] theorem oG_congr (d : w = w') : oG w o h K = oG w' o h K := by rw [d]
def oH (b : Bool) (o : Option IV) (h : Heap) (K : IV → Prop) : Prop := oG (some b) o h K
@[simp] theorem oG_H {b : Bool} : oG (some b) o h K = oH b o h K := Z9 rfl
@[congr] theorem oH_congr {b b' : Bool} (d : b = b') (e : b' = true → o = o') : oH b o h K = oH b' o' h K := by
  subst d
  cases b with
  | false => rfl
  | true => rw [e rfl]
@[simp] theorem oH_true : oH true o h K = oD o h K := Z9 rfl
@[simp] theorem oH_false : oH false o h K = K (.tup []) := Z9 rfl
def oQ (b : Bool) (p : Option (IV × Heap)) (h : Heap) (K : IV → Prop) : Prop := oP (some b) p h K
@[simp] theorem oQ_congr0 {b : Bool} : oP (some b) p h K = oQ b p h K := Z9 rfl
@[congr] theorem oQ_congr {b b' : Bool} (d : b = b') (e : b' = true → p = p') : oQ b p h K = oQ b' p' h K := by
  subst d
  cases b with
  | false => rfl
  | true => rw [e rfl]
@[simp] theorem oQ_gv {b : Bool} {q : IV × Heap} : oQ b (some q) h K = K (gv b q.1) := by cases b <;> rfl
def callB (P : Program) (b : Bool) (f : FuncId) (args : List IV) (h : Heap) (KH : KT) : Prop := Zi P (some b) f args h KH
@[simp] theorem callS_B {b : Bool} {args : List IV} : Zi P (some b) f args h KH = callB P b f args h KH := Z9 rfl
@[congr] theorem callB_congr {b b' : Bool} {args args' : List IV} (d : b = b') (e : b' = true → args = args') : callB P b f args h KH = callB P b' f args' h KH := by
  subst d
  cases b with
  | false => rfl
  | true => rw [e rfl]
@[simp] theorem callB_true {args : List IV} : callB P true f args h KH = Z0 P f args h KH := Z9 rfl
@[simp] theorem callB_false {args : List IV} : callB P false f args h KH = KH (.tup []) h := Z9 rfl
theorem callB_fun {b : Bool} {args : List IV} {r : IV} (hf : b = true → Fun P f args r) (k : KH (gv b r) h) : callB P b f args h KH := by
  cases b
  · exact k
  · exact (hf rfl).call k
@[simp] theorem oH_gv {b : Bool} : oH b (some v) h K = K (gv b v) := by cases b <;> rfl
@[congr] theorem oP_congr (d : w = w') : oP w p h K = oP w' p h K := by rw [d]
@[congr] theorem oA_congr (e : p = p') : oA p h KH = oA p' h KH := by rw [e]
@[congr] theorem oK_congr {α : Type} {o o' : Option α} {K : α → Prop} (e : o = o') : oK o K = oK o' K := by rw [e]
@[congr] theorem bK'_congr (e : x = x') : bK' x X Y = bK' x' X Y := by rw [e]
@[congr] theorem callS_congr {args : List IV} (d : w = w') : Zi P w f args h KH = Zi P w' f args h KH := by rw [d]
@[simp] theorem readsG_some {b : Bool} : Zz (some b) o v h = (b = true → Za o v h) := by cases b <;> simp [Zz, Za]
section
variable {b c d : Bool} {x y : IV}
@[simp] theorem pick_t : Zg (.bool true) x y h = some (x, h) := Z9 rfl
@[simp] theorem pick_f : Zg (.bool false) x y h = some (y, h) := Z9 rfl
@[simp] theorem pick_or : Zg (.bool b) (.bool true) (gv (!b) (.bool c)) h = some (.bool (b || c), h) := by cases b <;> rfl
@[simp] theorem pick_or' : Zg (.bool (!b)) (.bool true) (gv b (.bool c)) h = some (.bool (!b || c), h) := by cases b <;> rfl
end
@[congr] theorem CallsI_congr {args args' : List IV} (d : args = args') : Z0 P f args h KH = Z0 P f args' h KH := by rw [d]
theorem oB_congr (e : A = B) : oB A Y = oB B Y := by rw [e]
attribute [congr] oB_congr
@[simp] theorem oB_true : oB True Y = Y := by simp [oB]
attribute [simp] oV_eq
@[simp] theorem bK'_true : bK' (.bool true) X Y = X := Z9 rfl
@[simp] theorem bK'_false : bK' (.bool false) X Y = Y := Z9 rfl
theorem bK'_b {b : Bool} (hx : b = true → X) (hy : b = false → Y) : bK' (.bool b) X Y := by
  cases b
  · exact hy rfl
  · exact hx rfl
@[simp] theorem sT_eq : sT = some true := Z9 rfl
@[simp] theorem bin_ii {op : BinOp} {t : TypeId} {k k' : IntKind} {a b : Int} : Z5 P op t (.int k a) (.int k' b) = arithI op k a k' b := Z9 rfl
@[simp] theorem bin_ss {op : BinOp} {t : TypeId} {a b : ByteArray} : Z5 P op t (.str a) (.str b) = strI op a b := Z9 rfl
@[simp] theorem un_not (b : Bool) : unI .not (.bool b) = some (.bool !b) := Z9 rfl
section
variable {k : IntKind} {a b : Int}
@[simp] theorem ar_add : arithI .add k a k b = some (.int k (k.wrap (a + b))) := by simp [arithI]
@[simp] theorem ar_sub : arithI .sub k a k b = some (.int k (k.wrap (a - b))) := by simp [arithI]
@[simp] theorem ar_eql : arithI .eql k a k b = some (.bool (decide (a = b))) := by simp [arithI]; rfl
@[simp] theorem ar_neq : arithI .neq k a k b = some (.bool (!decide (a = b))) := by simp [arithI]; rfl
@[simp] theorem ar_lss : arithI .lss k a k b = some (.bool (decide (a < b))) := by simp [arithI]
@[simp] theorem ar_gtr : arithI .gtr k a k b = some (.bool (decide (b < a))) := by simp [arithI]
theorem ar_rem (h0 : b ≠ 0) : arithI .rem k a k b = some (.int k (a.tmod b)) := by simp [arithI, h0]
end
@[simp] theorem mm_nil (mx : Bool) (x : IV) : mmI mx x [] = some x := by simp [mmI]
@[simp] theorem mm_min {k : IntKind} {a b : Int} {r : List IV} : mmI false (.int k a) (.int k b :: r) = mmI false (.int k (min a b)) r := by
  simp only [mmI, if_true, Bool.false_eq_true, if_false]
  have : (if b < a then b else a) = min a b := by split <;> omega
  rw [this]
@[simp] theorem mm_max {k : IntKind} {a b : Int} {r : List IV} : mmI true (.int k a) (.int k b :: r) = mmI true (.int k (max a b)) r := by
  simp only [mmI, if_true]
  have : (if b > a then b else a) = max a b := by split <;> omega
  rw [this]
theorem w64 {x : Int} (h1 : -9223372036854775808 ≤ x) (h2 : x ≤ 9223372036854775807) : IntKind.i64.wrap x = x := by
  have e : IntKind.i64.wrap x = if 9223372036854775808 ≤ x % 18446744073709551616 then x % 18446744073709551616 - 18446744073709551616 else x % 18446744073709551616 := by
    simp [IntKind.wrap, IntKind.bits, IntKind.signed]
  rw [e]
  split <;> omega
attribute [simp] retK_nil retK_v
@[simp] theorem mkV_none (b : Nat) : mkV none b = .ptr b 0 0 := Z9 rfl
@[simp] theorem mkV_some (n b : Nat) : mkV (some n) b = .sl b 0 n := Z9 rfl
def ldI (a : Option Bool) (n : Option Nat) (cs : List IV) : Option IV := match a, n with
  | some true, some n => if n ≤ cs.length then some (.agg (cs.take n)) else none
  | some false, some _ => cs.head?
  | _, _ => none
theorem ldI_one (n : Nat) (c : IV) (cs : List IV) : ldI (some false) (some n) (c :: cs) = some c := Z9 rfl
attribute [simp] ldI_one
theorem ld_f (t : TypeId) (cs : List IV) (h : Heap) : Z3 P t (.fptr cs) h = ldI (agO P t) (szO P t) cs := by
  unfold Z3 ldI cellsOf
  cases agO P t with
  | none => rfl
  | some a => cases a <;> cases szO P t <;> rfl
theorem ld_p {b i o : Nat} {k : Blk} {e : List IV} (t : TypeId) (hb : h[b]? = some (some k)) (he : k.es[i]? = some e) : Z3 P t (.ptr b i o) h = ldI (agO P t) (szO P t) (e.drop o) := by
  unfold Z3 ldI cellsOf
  simp only [hb, he, Option.map_some]
  cases agO P t with
  | none => rfl
  | some a => cases a <;> cases szO P t <;> rfl
attribute [simp] ld_f
theorem fa_p {t : TypeId} {i b j o off s : Nat} {a : Bool} (hf : fdO P t i = some (off, s, a)) (hs : (decide (s = 0)) = false) : Z4 P t (.ptr b j o) i = some (.ptr b j (o + off)) := by
  simp only [decide_eq_false_iff_not] at hs
  simp [Z4, hf, hs]
theorem fa_f {t : TypeId} {i off s : Nat} {cs : List IV} {a : Bool} (hf : fdO P t i = some (off, s, a)) (hs : (decide (s = 0)) = false) : Z4 P t (.fptr cs) i = some (.fptr (cs.drop off)) := by
  simp only [decide_eq_false_iff_not] at hs
  simp [Z4, hf, hs]
theorem len_v {t t' : TypeId} {s : Nat} {es : List (List IV)} (ht : elO P t = some t') : lenI P t (.vs s es) = some (.int .i64 es.length) := by simp [lenI, ht]
@[simp] theorem bd_none (d : Int) : boundI d none = some d := Z9 rfl
@[simp] theorem bd_some (d : Int) (k : IntKind) (i : Int) : boundI d (some (.int k i)) = some i := Z9 rfl
section
variable {h0 : Heap} {b : Nat} {k : Blk} {r : PT} {L L1 L2 L3 L4 L5 L6 L7 : PT} {rs : List PT}
theorem Own.at0 (S : Own h0 (((b, some k) :: r) :: rs) h) : h[b]? = some (some k) := (S.get (b, some k) (by simp)).2
theorem Own.slot (S : Own h0 rs h) : Own h0 ([(h.length, none)] :: rs) (h ++ [none]) := S.push none
theorem Own.slot2 (S : Own h0 rs h) : Own h0 ([(h.length, none)] :: [(h.length + 1, none)] :: rs) (h ++ [none, none]) := by
  have := (S.push none).push none
  simp only [List.length_append, List.length_cons, List.length_nil, List.append_assoc, List.cons_append, List.nil_append] at this
  exact this.swap
theorem Own.box {cs : List IV} {T : TypeId} (S : Own h0 rs h) (k : ∀ b h', Own h0 ([(b, some ⟨cs.length, T, [cs]⟩)] :: rs) h' → KH (.ptr b 0 0) h') : oA (boxI T (.agg cs) h) h KH := by
  simp only [boxI, Zh, oA_some]
  exact k _ _ (S.push _)
theorem Own.store {n T : Nat} {t : TypeId} {cs new : List IV} {o : Nat} {x : IV} (S : Own h0 (((b, some ⟨n, T, [cs]⟩) :: r) :: rs) h) (hx : Zh x = some new) (hs : szO P t = some new.length) (hl : o + new.length ≤ cs.length) (ho : new.all oneI = true)
    (k : ∀ h', Own h0 (((b, some ⟨n, T, [splice o new cs]⟩) :: r) :: rs) h' → KP h') : oS (Zf P t (.ptr b 0 o) x h) h KP := by
  have hb := S.at0
  simp only [Zf, hx, hs, hb, List.getElem?_cons_zero]
  rw [if_pos (by simp [ho]; exact hl)]
  simp only [oS_some]
  exact k _ (S.set _)
end
end Go.Ideal
namespace Go.Ideal
abbrev IV.n (x : Int) : IV := .int .i64 x
theorem ones_map {α : Type} (f : α → List IV) (hf : ∀ x, (f x).all oneI = true) (l : List α) : Zt (l.map f) = true := by
  simp only [Zt, List.all_map, List.all_eq_true]; intro x _; exact hf x
structure Item where
  number : Int
  value : ByteArray
  deriving DecidableEq
mutual
theorem bel_le {n m : Nat} (h : n ≤ m) : ∀ (r : IV), Bel n r → Bel m r
  | .any, _ => by simp [Bel]
  | .bool _, _ => by simp [Bel]
  | .int _ _, _ => by simp [Bel]
  | .str _, _ => by simp [Bel]
  | .nil, _ => by simp [Bel]
  | .snil, _ => by simp [Bel]
  | .ptr b _ _, k => by simp only [Bel] at k ⊢; omega
  | .sl b _ _, k => by simp only [Bel] at k ⊢; omega
  | .fptr cs, k => by simp only [Bel] at k ⊢; exact bels_le h cs k
  | .vs s es, k => by simp only [Bel] at k ⊢; exact belss_le h es k
  | .fn f cs, k => by simp only [Bel] at k ⊢; exact bels_le h cs k
  | .agg cs, k => by simp only [Bel] at k ⊢; exact bels_le h cs k
  | .tup cs, k => by simp only [Bel] at k ⊢; exact bels_le h cs k
theorem bels_le {n m : Nat} (h : n ≤ m) : ∀ (rs : List IV), Bels n rs → Bels m rs
  | [], _ => by simp [Bels]
  | r :: rs, k => by simp only [Bels] at k ⊢; exact ⟨bel_le h r k.1, bels_le h rs k.2⟩
theorem belss_le {n m : Nat} (h : n ≤ m) : ∀ (rs : List (List IV)), Belss n rs → Belss m rs
  | [], _ => by simp [Belss]
  | r :: rs, k => by simp only [Belss] at k ⊢; exact ⟨bels_le h r k.1, belss_le h rs k.2⟩
end
theorem Ret.val {Q : IV → Prop} {h0 h : Heap} {rs : List PT} {r : IV} (S : Own h0 rs h) (hb : Bel 0 r) (hq : Q r) : Ret Q h0 r h :=
  ⟨r, S.pre, Fz.refl h _ r hb, bel_le (Nat.zero_le _) r hb, hq⟩
end Go.Ideal
namespace Go.Ideal
section
variable {P : Program} {h0 h : Heap} {rs : List PT} {r L : PT} {KH : KT} {KP : Heap → Prop} {n e t t2 t' : Nat} {s x v : IV} {es xs : List (List IV)} {z cs c : List IV} {by_ b i o : Nat}
theorem Own.lit0 (S : Own h0 rs h) (ht : elO P t = some e) (hz : zrO P e = some z) (hs : szO P e = some n) (hc : (decide (z.length = n) && decide (0 < n)) = true)
    (k : ∀ s L h', Sl n e s [] L → Own h0 (L :: rs) h' → KH s h') : oA (Zq P t 0 [] h) h KH := by
  simp only [Bool.and_eq_true, decide_eq_true_eq] at hc
  have e1 : Zq P t 0 [] h = some (.sl h.length 0 0, h ++ [some ⟨n, e, []⟩]) := by
    unfold Zq
    simp only [ht, hz, hs]
    rw [if_pos (by omega)]
    simp [fillI, chunks]
  rw [e1]
  simp only [oA_some]
  exact k _ _ _ (Sl.mk n e h.length []) (S.push _)
end
end Go.Ideal
namespace Go.Ideal
section
variable {P : Program} {h0 h : Heap} {rs : List PT} {r L M : PT} {KH : KT} {KP : Heap → Prop} {n T t b o : Nat} {x : IV} {cs new : List IV} {p : Nat × Option Blk}
theorem sub_flat {l m : List PT} (h : l.Sublist m) : l.flatten.Sublist m.flatten := by
  induction h with
  | slnil => exact List.Sublist.refl _
  | cons a _ ih => rw [List.flatten_cons]; exact ih.trans (List.sublist_append_right _ _)
  | cons_cons a _ ih => rw [List.flatten_cons, List.flatten_cons]; exact List.Sublist.append (List.Sublist.refl _) ih
theorem Own.del (S : Own h0 rs h) (i : Nat) : Own h0 (rs.eraseIdx i) h := S.sub (sub_flat (List.eraseIdx_sublist rs i))
theorem Own.cons1 (S : Own h0 ((p :: L) :: rs) h) : Own h0 ([p] :: L :: rs) h := S.perm (by simp)
theorem Own.uncons (S : Own h0 ([p] :: L :: rs) h) : Own h0 ((p :: L) :: rs) h := S.perm (by simp)
end
end Go.Ideal
namespace Go.Ideal
section
variable {h0 h : Heap} {rs : List PT} {a b x y : Option Blk}
theorem Own.push2 (S : Own h0 rs h) (x y : Option Blk) : Own h0 ([(h.length, x)] :: [(h.length + 1, y)] :: rs) (h ++ [x, y]) := by
  have := (S.push x).push y
  simp only [List.length_append, List.length_cons, List.length_nil, List.append_assoc, List.cons_append, List.nil_append] at this
  exact this.swap
end
end Go.Ideal
namespace Go.Ideal
def factsP (h : Heap) : PT → Prop
  | [] => True
  | p :: l => h[p.1]? = some p.2 ∧ factsP h l
def factsL (h : Heap) : List PT → Prop
  | [] => True
  | L :: rs => factsP h L ∧ factsL h rs
theorem factsP_of {h : Heap} : ∀ {L : PT}, (∀ p ∈ L, h[p.1]? = some p.2) → factsP h L
  | [], _ => trivial
  | p :: l, k => ⟨k p (by simp), factsP_of fun q hq => k q (by simp [hq])⟩
theorem factsL_of {h : Heap} : ∀ {rs : List PT}, (∀ p ∈ rs.flatten, h[p.1]? = some p.2) → factsL h rs
  | [], _ => trivial
  | L :: rs, k => ⟨factsP_of fun p hp => k p (by simp [hp]), factsL_of fun q hq => k q (by rw [List.flatten_cons]; exact List.mem_append_right _ hq)⟩
theorem Own.facts {h0 h : Heap} {rs : List PT} (S : Own h0 rs h) : factsL h rs := factsL_of fun p hp => (S.get p hp).2
def ldB (P : Program) (t : TypeId) (i o : Nat) (x : Option (Option Blk)) : Option IV := match x with
  | some (some k) => match k.es[i]? with
    | some e => ldI (agO P t) (szO P t) (e.drop o)
    | none => none
  | _ => none
theorem ld_pb {P : Program} {t : TypeId} {b i o : Nat} {h : Heap} : Z3 P t (.ptr b i o) h = ldB P t i o h[b]? := by
  unfold ldB
  cases e : h[b]? with
  | none =>
    unfold Z3 cellsOf
    simp only [e]
    try (cases agO P t with
      | none => rfl
      | some a => cases a <;> cases szO P t <;> rfl)
  | some x =>
    cases x with
    | none =>
      unfold Z3 cellsOf
      simp only [e]
      try (cases agO P t with
        | none => rfl
        | some a => cases a <;> cases szO P t <;> rfl)
    | some k =>
      cases e2 : k.es[i]? with
      | none =>
        unfold Z3 cellsOf
        simp only [e, e2]
        try (cases agO P t with
          | none => rfl
          | some a => cases a <;> cases szO P t <;> rfl)
      | some c => simp only [e2]; exact ld_p t e e2
@[simp] theorem ldB_one {P : Program} {t n T : Nat} {o : Nat} {cs : List IV} : ldB P t 0 o (some (some ⟨n, T, [cs]⟩)) = ldI (agO P t) (szO P t) (cs.drop o) := Z9 rfl
def ixB (n : Option Nat) (b lo len : Nat) (i : Int) (x : Option (Option Blk)) : Option IV := match n, x with
  | some n, some (some k) => if 0 ≤ i ∧ i < len ∧ k.size = n then some (.ptr b (lo + i.toNat) 0) else none
  | _, _ => none
theorem ix_sb {P : Program} {t : TypeId} {b lo len : Nat} {k : IntKind} {i : Int} {h : Heap} : Zp P t (.sl b lo len) (.int k i) h = ixB ((elO P t).bind (szO P)) b lo len i h[b]? := by
  unfold Zp ixB
  cases (elO P t).bind (szO P) with
  | none => rfl
  | some n =>
    cases e : h[b]? with
    | none => simp only [e]; split <;> rfl
    | some x =>
      cases x with
      | none => simp only [e]; split <;> rfl
      | some k =>
        simp only [e]
        by_cases h0 : 0 ≤ i ∧ i < (len : Int)
        · rw [if_pos h0]
          by_cases h1 : k.size = n
          · rw [if_pos h1, if_pos ⟨h0.1, h0.2, h1⟩]
          · rw [if_neg h1, if_neg fun h => h1 h.2.2]
        · rw [if_neg h0, if_neg fun h => h0 ⟨h.1, h.2.1⟩]
def ixV (n : Option Nat) (s : Nat) (i : Int) (x : Option (List IV)) : Option IV := match n, x with
  | some n, some e => if 0 ≤ i ∧ s = n then some (.fptr e) else none
  | _, _ => none
theorem ix_vs {P : Program} {t : TypeId} {s : Nat} {es : List (List IV)} {k : IntKind} {i : Int} {h : Heap} : Zp P t (.vs s es) (.int k i) h = ixV ((elO P t).bind (szO P)) s i es[i.toNat]? := by
  unfold Zp ixV
  cases (elO P t).bind (szO P) with
  | none => rfl
  | some n =>
    cases e : es[i.toNat]? with
    | none => simp only [e, Option.map_none]; split <;> rfl
    | some e => simp only [e, Option.map_some]
@[simp] theorem ixV_one {n : Nat} {i : Int} {e : List IV} (h0 : 0 ≤ i) : ixV (some n) n i (some e) = some (.fptr e) := by
  simp [ixV, h0]
section
variable {P : Program} {h0 h : Heap} {r : PT} {rs : List PT} {KP : Heap → Prop} {n T t b o i : Nat} {x : IV} {e c cs new : List IV} {es : List (List IV)} {k : Option Blk}
variable {A0 A1 A2 A3 A4 A5 A6 A7 A8 A9 A10 A11 A12 : PT}
theorem flat_mv {α : Type} : ∀ {rs : List (List α)} {i : Nat} {L : List α}, rs[i]? = some L → rs.flatten.Perm (L :: rs.eraseIdx i).flatten
  | _ :: _, 0, _, h => by simp at h; subst h; simp
  | M :: rs, i + 1, L, h => by
    simp at h
    have := flat_mv h
    simp only [List.flatten_cons, List.eraseIdx_cons_succ] at this ⊢
    refine (List.Perm.append_left M this).trans ?_
    rw [← List.append_assoc, ← List.append_assoc]
    exact List.Perm.append_right _ List.perm_append_comm
theorem Own.mv {L : PT} (S : Own h0 rs h) (i : Nat) (hi : rs[i]? = some L) : Own h0 (L :: rs.eraseIdx i) h := S.perm (flat_mv hi).symm
theorem Own.st0 (S : Own h0 (((b, some ⟨n, T, [cs]⟩) :: r) :: rs) h) (hx : Zh x = some new) (hs : szO P t = some new.length) (hl : o + new.length ≤ cs.length) (ho : new.all oneI = true) (k : ∀ h', Own h0 (((b, some ⟨n, T, [splice o new cs]⟩) :: r) :: rs) h' → KP h') : oS (Zf P t (.ptr b 0 o) x h) h KP := by
  refine (S.mv 0 rfl).store hx hs hl ho fun h' S' => k h' (S'.perm ?_)
  exact (flat_mv (rs := (((b, some ⟨n, T, [splice o new cs]⟩) :: r) :: rs)) (i := 0) rfl)
theorem Own.dp0 (S : Own h0 (r :: rs) h) : Own h0 (rs) h := S.del 0
theorem Own.st1 (S : Own h0 (A0 :: ((b, some ⟨n, T, [cs]⟩) :: r) :: rs) h) (hx : Zh x = some new) (hs : szO P t = some new.length) (hl : o + new.length ≤ cs.length) (ho : new.all oneI = true) (k : ∀ h', Own h0 (A0 :: ((b, some ⟨n, T, [splice o new cs]⟩) :: r) :: rs) h' → KP h') : oS (Zf P t (.ptr b 0 o) x h) h KP := by
  refine (S.mv 1 rfl).store hx hs hl ho fun h' S' => k h' (S'.perm ?_)
  exact (flat_mv (rs := (A0 :: ((b, some ⟨n, T, [splice o new cs]⟩) :: r) :: rs)) (i := 1) rfl)
theorem Own.fi1 (S : Own h0 (A0 :: ((b, none) :: r) :: rs) h) (k : Option Blk) : Own h0 (A0 :: ((b, k) :: r) :: rs) (h.set b k) := (((S.mv 1 rfl).set k).perm (flat_mv (rs := (A0 :: ((b, k) :: r) :: rs)) (i := 1) rfl))
theorem Own.fi2 (S : Own h0 (A0 :: A1 :: ((b, none) :: r) :: rs) h) (k : Option Blk) : Own h0 (A0 :: A1 :: ((b, k) :: r) :: rs) (h.set b k) := (((S.mv 2 rfl).set k).perm (flat_mv (rs := (A0 :: A1 :: ((b, k) :: r) :: rs)) (i := 2) rfl))
theorem Own.dp2 (S : Own h0 (A0 :: A1 :: r :: rs) h) : Own h0 (A0 :: A1 :: rs) h := S.del 2
theorem Own.m1 (S : Own h0 (A0 :: A1 :: rs) h) : Own h0 (A1 :: A0 :: rs) h := S.mv 1 rfl
theorem Own.m2 (S : Own h0 (A0 :: A1 :: A2 :: rs) h) : Own h0 (A2 :: A0 :: A1 :: rs) h := S.mv 2 rfl
theorem Own.b2 (S : Own h0 (A2 :: A0 :: A1 :: rs) h) : Own h0 (A0 :: A1 :: A2 :: rs) h := S.perm (flat_mv (rs := A0 :: A1 :: A2 :: rs) (i := 2) rfl)
theorem Own.m3 (S : Own h0 (A0 :: A1 :: A2 :: A3 :: rs) h) : Own h0 (A3 :: A0 :: A1 :: A2 :: rs) h := S.mv 3 rfl
theorem Own.b3 (S : Own h0 (A3 :: A0 :: A1 :: A2 :: rs) h) : Own h0 (A0 :: A1 :: A2 :: A3 :: rs) h := S.perm (flat_mv (rs := A0 :: A1 :: A2 :: A3 :: rs) (i := 3) rfl)
theorem Own.m4 (S : Own h0 (A0 :: A1 :: A2 :: A3 :: A4 :: rs) h) : Own h0 (A4 :: A0 :: A1 :: A2 :: A3 :: rs) h := S.mv 4 rfl
theorem Own.b4 (S : Own h0 (A4 :: A0 :: A1 :: A2 :: A3 :: rs) h) : Own h0 (A0 :: A1 :: A2 :: A3 :: A4 :: rs) h := S.perm (flat_mv (rs := A0 :: A1 :: A2 :: A3 :: A4 :: rs) (i := 4) rfl)
theorem Own.m5 (S : Own h0 (A0 :: A1 :: A2 :: A3 :: A4 :: A5 :: rs) h) : Own h0 (A5 :: A0 :: A1 :: A2 :: A3 :: A4 :: rs) h := S.mv 5 rfl
end
end Go.Ideal
