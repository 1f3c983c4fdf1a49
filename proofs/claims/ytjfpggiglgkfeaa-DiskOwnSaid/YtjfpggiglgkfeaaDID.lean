/- Regions whose order is open: every order does what the one evaluation does. -/
import Derived.Test.YtjfpggiglgkfeaaDIC
set_option linter.unusedVariables false
set_option linter.unusedSimpArgs false
namespace Go.Ideal

theorem opI_kind0 {P : Program} {ev : Operand → IV} {op : Op} {h h' : Heap} {v : IV} (hk : kindO op = 0) (ho : opI P ev op h = some (v, h')) (h2 : Heap) : opI P ev op h2 = some (v, h2) := by
  have m1 : ∀ {x : Option IV}, x.map (fun v => (v, h)) = some (v, h') → x.map (fun v => (v, h2)) = some (v, h2) := by
    intro x hx
    simp only [Option.map_eq_some_iff, Prod.mk.injEq] at hx
    obtain ⟨v', rfl, rfl, _⟩ := hx
    rfl
  cases op
  case move => simp only [opI] at ho ⊢; cases ho; rfl
  case assign => simp only [opI] at ho ⊢; cases ho; rfl
  case pick c x y =>
    simp only [opI] at ho ⊢
    cases hc : ev c <;> rw [hc] at ho <;> simp only at ho ⊢ <;> cases ho
    rfl
  case build => exact m1 ho
  case nilCheck x =>
    simp only [opI] at ho ⊢
    cases hc : ev x <;> rw [hc] at ho <;> simp only at ho ⊢ <;> cases ho <;> rfl
  case binOp => exact m1 ho
  case unOp => exact m1 ho
  case makeFunc fn first caps =>
    simp only [opI] at ho ⊢
    split at ho
    · cases ho; rfl
    · cases ho
  case fieldAddr => exact m1 ho
  case field => exact m1 ho
  case extract => exact m1 ho
  case call c =>
    obtain ⟨callee, args, argTypes⟩ := c
    simp only [opI] at ho ⊢
    split at ho
    · exact m1 ho
    · simp [kindO] at hk
    · simp [kindO] at hk
    · exact m1 ho
    · exact m1 ho
    · cases ho
  all_goals (exact absurd hk (by simp [kindO]))

theorem IOp_congr {P : Program} {ops : Array Oper} {o : Oper} {a a' : IAct} {h : Heap} {K : IV → Heap → Prop} (hl : ∀ t ∈ o.looksAt ops, a t = a' t) (hi : IOp P ops o a h K) : IOp P ops o a' h K := by
  have he := looks_eval hl
  have hw := looks_want hl
  unfold IOp at hi ⊢
  split at hi
  · rename_i g args ats heq
    rw [heq] at he
    have ha : args.toList.map (ieval a') = args.toList.map (ieval a) := List.map_congr_left fun x hx => (he x (by simp [Op.operands, Call.operands]; right; simpa using hx)).symm
    rw [ha, ← hw]; exact hi
  · rename_i f args ats hne heq
    rw [heq] at he
    have ha : args.toList.map (ieval a') = args.toList.map (ieval a) := List.map_congr_left fun x hx => (he x (by simp [Op.operands, Call.operands]; right; simpa using hx)).symm
    have hf : ieval a' f = ieval a f := (he f (by simp [Op.operands, Call.operands])).symm
    rw [ha, hf, ← hw]
    exact hi
  · rename_i op h1 h2
    rw [← opI_congr he, ← hw]
    exact hi

theorem fillP_set (idOf : Nat → Nat) : ∀ (ps : List (Nat × Blk)) (h : Heap) (b : Nat) (x : Option Blk), (∀ p ∈ ps, idOf p.1 ≠ b) → fillP idOf ps (h.set b x) = (fillP idOf ps h).set b x
  | [], _, _, _, _ => rfl
  | p :: ps, h, b, x, hb => by
    simp only [fillP]
    rw [List.set_comm _ _ (Ne.symm (hb p (by simp)))]
    exact fillP_set idOf ps _ b x fun q hq => hb q (by simp [hq])
/-- The heap that a list of blocks, at distinct numbers, makes depends on the blocks alone. -/
theorem fillP_eq (idOf : Nat → Nat) {ps qs : List (Nat × Blk)} {h : Heap} (hp : (ps.map fun p => idOf p.1).Nodup) (hq : (qs.map fun p => idOf p.1).Nodup) (hm : ∀ p, p ∈ ps ↔ p ∈ qs) (hl : ∀ p ∈ ps, idOf p.1 < h.length) : fillP idOf ps h = fillP idOf qs h := by
  apply List.ext_getElem?
  intro b
  by_cases hb : ∃ p ∈ ps, idOf p.1 = b
  · obtain ⟨p, hpp, rfl⟩ := hb
    rw [fillP_at idOf ps h hp p hpp (hl p hpp), fillP_at idOf qs h hq p ((hm p).1 hpp) (hl p hpp)]
  · rw [fillP_other idOf ps h b fun p hpp e => hb ⟨p, hpp, e⟩, fillP_other idOf qs h b fun p hpp e => hb ⟨p, (hm p).2 hpp, e⟩]
theorem fillP_append (idOf : Nat → Nat) : ∀ (ps qs : List (Nat × Blk)) (h : Heap), fillP idOf (ps ++ qs) h = fillP idOf qs (fillP idOf ps h)
  | [], _, _ => rfl
  | p :: ps, qs, h => by simp [fillP, fillP_append idOf ps qs]

section
variable {P : Program} {n : Nat} {ops : Array Oper} {B : List Nat} {idOf : Nat → Nat} {K : IAct → Heap → Prop} {h0 : Heap} {a0 : IAct} {F0 : Frz} {ρ0 : Lay} {w0 : World}
  {S : Nat → Bool} {F : Frz} {ρ : Lay} {w : World} {ra : Act} {todo : List Nat} {a : IAct} {lds : List (Nat × IAct × IV)} {pend : List (Nat × Blk)} {h : Heap} {vals : Nat → IV}

def addS (S : Nat → Bool) (i : Nat) : Nat → Bool := fun j => decide (j = i) || S j

theorem addS_clos (hc : Clos ops B S) {i : Nat} (hi : i < ops.size) (hp : ∀ i', preB B i' i = true → S i' = true) : Clos ops B (addS S i) := by
  intro j hj
  simp only [addS, Bool.or_eq_true, decide_eq_true_eq] at hj
  rcases hj with rfl | hj
  · exact ⟨hi, fun i' hi' => by simp [addS, hp i' hi']⟩
  · exact ⟨(hc j hj).1, fun i' hi' => by simp [addS, (hc j hj).2 i' hi']⟩

theorem AX_addS (c : DChk P n ops B) (hc : Clos ops B S) {i : Nat} {o : Oper} (ho : ops[i]? = some o) (hS : S i = false) : AX ops a0 vals (addS S i) ops.size = iput (AX ops a0 vals S ops.size) o.dst (vals i) := by
  have := AX_add (a0 := a0) (vals := vals) c hc ho hS (vals i)
  have e : (fun j => if j = i then vals i else vals j) = vals := by
    funext j; split
    · rename_i h; rw [h]
    · rfl
  rw [e] at this
  exact this

theorem DInv.pendInj (I : DInv P n ops B idOf K h0 a0 F0 ρ0 w0 S F ρ w ra todo a lds pend h vals) : (pend.map fun p => idOf p.1).Nodup := by
  have hnd := I.pendNd
  rw [List.Nodup, List.pairwise_map] at hnd ⊢
  refine List.Pairwise.imp_of_mem ?_ hnd
  intro p q hp hq hne e
  obtain ⟨_, o1, m1, g1, g2, _⟩ := I.pendOk p hp
  obtain ⟨_, o2, m2, f1, f2, _⟩ := I.pendOk q hq
  exact hne (I.inj _ _ o1 o2 g1 f1 g2 f2 e)
theorem nodup_filter_map {f : Nat × Blk → Nat} {ps : List (Nat × Blk)} (q : Nat × Blk → Bool) (h : (ps.map f).Nodup) : ((ps.filter q).map f).Nodup :=
  List.Sublist.nodup ((List.filter_sublist (l := ps)).map f) h

/-- What is live in the evaluation is live in the model. -/
theorem DInv.hle (I : DInv P n ops B idOf K h0 a0 F0 ρ0 w0 S F ρ w ra todo a lds pend h vals) (q : Nat × Blk → Bool) : HLe h (fillP idOf (pend.filter q) h) := by
  intro b k hb
  rw [fillP_other]
  · exact hb
  · rintro p hp rfl
    have hp' := (List.mem_filter.1 hp).1
    obtain ⟨_, o, m, g1, g2, _⟩ := I.pendOk p hp'
    exact I.dead _ o g1 g2 (.inr ⟨p, hp', rfl⟩) k hb

/-- An operation that has been evaluated, and makes no block, comes to pass. -/
theorem DInv.put (c : DChk P n ops B) (I : DInv P n ops B idOf K h0 a0 F0 ρ0 w0 S F ρ w ra todo a lds pend h vals) {i : Nat} {o : Oper} (ho : ops[i]? = some o) (hS : S i = false) (hit : i ∉ todo) (hp : ∀ i', preB B i' i = true → S i' = true)
    (hnp : ∀ p ∈ pend, p.1 ≠ i) {ρ1 : Lay} {W : World} {u : Value} (s : Step F ρ (fillP idOf (pend.filter fun p => S p.1) h) w F ρ1 (fillP idOf (pend.filter fun p => S p.1) h) W) (hu : VR F ρ1 (vals i) u) :
    DInv P n ops B idOf K h0 a0 F0 ρ0 w0 (addS S i) F ρ1 W (ra.put o.dst u) todo a lds pend h vals := by
  have hi : i < ops.size := (Array.getElem?_eq_some_iff.1 ho).1
  have hfil : pend.filter (fun p => addS S i p.1) = pend.filter (fun p => S p.1) := List.filter_congr fun p hp' => by simp [addS, hnp p hp']
  have hadd : ∀ j, addS S i j = false → S j = false := fun j hj => by simp only [addS, Bool.or_eq_false_iff] at hj; exact hj.2
  refine ⟨addS_clos I.clos hi hp, ?_, I.closK, I.ord, I.aeq, ?_, ?_, I.ids, I.inj, I.dead, ?_, I.pendOk, I.pendNd, ?_, ?_, ?_, ?_, I.run⟩
  · intro j hj
    simp only [addS, Bool.or_eq_true, decide_eq_true_eq] at hj
    rcases hj with rfl | hj
    · exact hit
    · exact I.known j hj
  · rw [AX_addS c I.clos ho hS]
    exact ARel.put ⟨I.ar.size, I.ar.defers, fun t => VR.mono (n := (fillP idOf (pend.filter fun p => S p.1) h).length) I.step.rel.low s.fF s.fρ (I.ar.tmps t)⟩ (chkOp_dst (c.op i o ho)) hu
  · rw [hfil]; exact I.step.trans s
  · intro j oj hoj hk hor hSj
    have := I.free j oj hoj hk hor (hadd j hSj)
    cases he : ρ1 (idOf j) with
    | none => rfl
    | some l =>
      have := s.old (idOf j) l (by rw [fillP_length]; exact (I.ids j oj hoj hk).2) he
      rw [I.free j oj hoj hk hor (hadd j hSj)] at this; cases this
  · intro j oj hoj hk hjt hSj; exact I.flo j oj hoj hk hjt (hadd j hSj)
  · intro j oj hoj hk hjt hSj; exact I.new j oj hoj hk hjt (hadd j hSj)
  · intro j oj hoj hk hjt
    have := I.eff j oj hoj hk hjt
    simp [addS, this]
  · intro j oj hoj hk hjt hSj; exact I.ldsOk j oj hoj hk hjt (hadd j hSj)

/-- A block that has been evaluated comes to pass. -/
theorem DInv.make (c : DChk P n ops B) (I : DInv P n ops B idOf K h0 a0 F0 ρ0 w0 S F ρ w ra todo a lds pend h vals) {i : Nat} {o : Oper} (ho : ops[i]? = some o) (hS : S i = false) (hp : ∀ i', preB B i' i = true → S i' = true)
    {p : Nat × Blk} (hpp : p ∈ pend) (hpi : p.1 = i) {ρ1 : Lay} {W : World} {u : Value} {m : Option Nat} (hm : vals i = mkV m (idOf i)) (hbel : Belss h.length p.2.es)
    (s : Step F ρ (fillP idOf (pend.filter fun p => S p.1) h) w F ρ1 (fillP idOf (pend.filter fun p => S p.1) h ++ [some p.2]) W) (hu : VR F ρ1 (mkV m (fillP idOf (pend.filter fun p => S p.1) h).length) u) :
    ∃ ρ2, DInv P n ops B idOf K h0 a0 F0 ρ0 w0 (addS S i) F ρ2 W (ra.put o.dst u) todo a lds pend h vals := by
  have hi : i < ops.size := (Array.getElem?_eq_some_iff.1 ho).1
  have hadd : ∀ j, addS S i j = false → S j = false ∧ j ≠ i := fun j hj => by simp only [addS, Bool.or_eq_false_iff, decide_eq_false_iff_not] at hj; exact ⟨hj.2, hj.1⟩
  obtain ⟨hpt, o', m', g1, g2, g3, g4, g5⟩ := I.pendOk p hpp
  rw [hpi] at hpt g1 g3 g4 g5
  rw [ho] at g1; cases g1
  have hids := I.ids i o ho g2
  have hfree := I.free i o ho g2 (.inr ⟨p, hpp, hpi⟩) hS
  obtain ⟨l, st, hext, hother, hv⟩ := Step.slot I.step s (by rw [fillP_length]; exact hbel) hids.1 (by rw [fillP_length]; exact hids.2) hfree hu
  refine ⟨ρ.upd (idOf i) l, ⟨addS_clos I.clos hi hp, ?_, I.closK, I.ord, I.aeq, ?_, ?_, I.ids, I.inj, I.dead, ?_, I.pendOk, I.pendNd, ?_, ?_, ?_, ?_, I.run⟩⟩
  · intro j hj
    simp only [addS, Bool.or_eq_true, decide_eq_true_eq] at hj
    rcases hj with rfl | hj
    · exact hpt
    · exact I.known j hj
  · rw [AX_addS c I.clos ho hS, hm]
    exact ARel.put ⟨I.ar.size, I.ar.defers, fun t => VR.mono (n := (fillP idOf (pend.filter fun p => S p.1) h).length) I.step.rel.low (FLe.refl F) hext (I.ar.tmps t)⟩ (chkOp_dst (c.op i o ho)) hv
  · have heq : fillP idOf (pend.filter fun p => addS S i p.1) h = (fillP idOf (pend.filter fun p => S p.1) h).set (idOf i) (some p.2) := by
      have h1 : fillP idOf ((pend.filter fun p => S p.1) ++ [p]) h = (fillP idOf (pend.filter fun p => S p.1) h).set (idOf i) (some p.2) := by
        rw [fillP_append]; simp [fillP, hpi]
      rw [← h1]
      have hnotin : p ∉ pend.filter (fun p => S p.1) := fun hm => by
        have := (List.mem_filter.1 hm).2
        rw [hpi, hS] at this; cases this
      refine fillP_eq idOf (nodup_filter_map _ I.pendInj) ?_ ?_ ?_
      · rw [List.map_append, List.nodup_append]
        refine ⟨nodup_filter_map _ I.pendInj, by simp, ?_⟩
        intro x hx y hy e
        simp only [List.map_cons, List.map_nil, List.mem_singleton] at hy
        obtain ⟨q, hq, rfl⟩ := List.mem_map.1 hx
        subst hy
        obtain ⟨_, oq, mq, f1, f2, _⟩ := I.pendOk q (List.mem_filter.1 hq).1
        have hqp : q.1 = p.1 := I.inj _ _ oq o f1 (by rw [hpi]; exact ho) f2 g2 e
        have := (List.mem_filter.1 hq).2
        rw [hqp, hpi, hS] at this; cases this
      · intro q
        simp only [List.mem_filter, List.mem_append, List.mem_singleton, addS, Bool.or_eq_true, decide_eq_true_eq]
        constructor
        · rintro ⟨hq, h1 | h1⟩
          · right
            have hnd := I.pendNd
            -- one entry for each operation
            have : ∀ (l : List (Nat × Blk)), (l.map (·.1)).Nodup → ∀ x ∈ l, ∀ y ∈ l, x.1 = y.1 → x = y := by
              intro l
              induction l with
              | nil => simp
              | cons z l ih =>
                intro hn x hx y hy e
                simp only [List.map_cons, List.nodup_cons] at hn
                rcases List.mem_cons.1 hx with rfl | hx' <;> rcases List.mem_cons.1 hy with rfl | hy'
                · rfl
                · exact absurd (List.mem_map.2 ⟨y, hy', e.symm⟩ : x.1 ∈ l.map (·.1)) hn.1
                · exact absurd (List.mem_map.2 ⟨x, hx', e⟩ : y.1 ∈ l.map (·.1)) hn.1
                · exact ih hn.2 x hx' y hy' e
            exact this pend hnd q hq p hpp (by rw [h1, hpi])
          · exact .inl ⟨hq, h1⟩
        · rintro (⟨hq, h1⟩ | rfl)
          · exact ⟨hq, .inr h1⟩
          · exact ⟨hpp, .inl hpi⟩
      · intro q hq
        obtain ⟨_, oq, mq, f1, f2, _⟩ := I.pendOk q (List.mem_filter.1 hq).1
        exact (I.ids _ oq f1 f2).2
    rw [heq]; exact st
  · intro j oj hoj hk hor hSj
    obtain ⟨h1, h2⟩ := hadd j hSj
    rw [hother (idOf j) (fun e => h2 (I.inj j i oj o hoj ho hk g2 e))]
    exact I.free j oj hoj hk hor h1
  · intro j oj hoj hk hjt hSj; exact I.flo j oj hoj hk hjt (hadd j hSj).1
  · intro j oj hoj hk hjt hSj; exact I.new j oj hoj hk hjt (hadd j hSj).1
  · intro j oj hoj hk hjt
    have := I.eff j oj hoj hk hjt
    simp [addS, this]
  · intro j oj hoj hk hjt hSj; exact I.ldsOk j oj hoj hk hjt (hadd j hSj).1
end
end Go.Ideal
