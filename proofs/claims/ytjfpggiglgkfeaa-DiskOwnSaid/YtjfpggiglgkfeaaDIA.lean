/- Regions whose order is open: operations evaluated once, in one order that is checked, stand for every order. -/
import Derived.Test.YtjfpggiglgkfeaaDI9
set_option linter.unusedVariables false
set_option linter.unusedSimpArgs false
namespace Go.Ideal

theorem opI_congr {P : Program} {ev ev' : Operand → IV} {op : Op} {h : Heap} (he : ∀ x ∈ op.operands, ev x = ev' x) : opI P ev op h = opI P ev' op h := by
  have pairs : ∀ ps : List (Nat × Operand), (∀ x ∈ ps.map (·.2), ev x = ev' x) → ps.map (fun p => (p.1, ev p.2)) = ps.map (fun p => (p.1, ev' p.2)) := fun ps hp =>
    List.map_congr_left fun p hm => by rw [hp p.2 (List.mem_map.2 ⟨p, hm, rfl⟩)]
  cases op <;> simp only [opI]
  case move x => rw [he x (by simp [Op.operands])]
  case assign x => rw [he x (by simp [Op.operands])]
  case pick c x y => rw [he c (by simp [Op.operands]), he x (by simp [Op.operands]), he y (by simp [Op.operands])]
  case box t x => rw [he x (by simp [Op.operands])]
  case build t ps =>
    unfold buildI
    rw [pairs ps.toList fun x hx => he x (by simpa [Op.operands] using hx)]
  case buildSlice t n ps =>
    unfold buildSliceI
    rw [pairs ps.toList fun x hx => he x (by simpa [Op.operands] using hx)]
  case load t x => rw [he x (by simp [Op.operands])]
  case store t x y => rw [he x (by simp [Op.operands]), he y (by simp [Op.operands])]
  case nilCheck x => rw [he x (by simp [Op.operands])]
  case binOp op t x y yt => rw [he x (by simp [Op.operands]), he y (by simp [Op.operands])]
  case unOp op t x => rw [he x (by simp [Op.operands])]
  case convert s d x => rw [he x (by simp [Op.operands])]
  case makeFunc fn first caps =>
    have : caps.toList.map ev = caps.toList.map ev' := List.map_congr_left fun x hx => he x (by simp [Op.operands]; right; simpa using hx)
    rw [this]
  case makeSlice t l c => rw [he l (by simp [Op.operands]), he c (by simp [Op.operands])]
  case slice t x lo hi mx =>
    cases mx with
    | some m => rfl
    | none =>
      simp only
      have h1 : lo.map ev = lo.map ev' := by cases lo with | none => rfl | some y => simp [he y (by simp [Op.operands])]
      have h2 : hi.map ev = hi.map ev' := by cases hi with | none => rfl | some y => simp [he y (by simp [Op.operands])]
      rw [h1, h2, he x (by simp [Op.operands])]
  case fieldAddr t x i => rw [he x (by simp [Op.operands])]
  case field t x i => rw [he x (by simp [Op.operands])]
  case indexAddr t x i => rw [he x (by simp [Op.operands]), he i (by simp [Op.operands])]
  case extract x i => rw [he x (by simp [Op.operands])]
  case call c =>
    obtain ⟨callee, args, argTypes⟩ := c
    have ha : ∀ x ∈ args.toList, ev x = ev' x := fun x hx => he x (by simp [Op.operands, Call.operands]; right; simpa using hx)
    simp only
    split <;> (try rfl)
    · rename_i h1 h2; rw [h1] at ha; rw [ha _ (by simp)]
    · rename_i h1 h2; rw [h1] at ha; rw [ha _ (by simp), ha _ (by simp)]
    · rename_i h1 h2; rw [h1] at ha; rw [ha _ (by simp), ha _ (by simp)]
    · rename_i h1; rw [h1] at ha; rw [ha _ (by simp), List.map_congr_left fun x hx => ha x (by simp [hx])]
    · rename_i h1; rw [h1] at ha; rw [ha _ (by simp), List.map_congr_left fun x hx => ha x (by simp [hx])]

/-! ### new blocks at a number that was laid aside -/
def newI (P : Program) (ev : Operand → IV) : Op → Option (Option Nat × Blk)
  | .alloc t => (zrO P t).map fun z => (none, ⟨z.length, t, [z]⟩)
  | .box t x => (cellsI (ev x)).map fun cs => (none, ⟨cs.length, t, [cs]⟩)
  | .buildSlice t n parts => match elO P t with
    | some e => match zrO P e, szO P e with
      | some z, some s => if n * s ≤ 16777216 ∧ 0 < s ∧ z.length = s then
          (fillI (fun i => some (i * s, s)) (List.replicate n z).flatten (parts.toList.map fun p => (p.1, ev p.2))).map fun cs => (some n, ⟨s, e, chunks s n cs⟩) else none
      | _, _ => none
    | none => none
  | .makeSlice t l c => match ev l, ev c, elO P t with
    | .int _ n, .int _ m, some e => match zrO P e, szO P e, byO P e with
      | some z, some s, some by_ => if 0 ≤ n ∧ n ≤ m ∧ m ≤ 1073741824 ∧ by_ ≤ 65536 ∧ 0 < s ∧ z.length = s then some (some n.toNat, ⟨s, e, List.replicate n.toNat z⟩) else none
      | _, _, _ => none
    | _, _, _ => none
  | _ => none
def mkV : Option Nat → Nat → IV
  | none, b => .ptr b 0 0
  | some n, b => .sl b 0 n
theorem newI_op {P : Program} {ev : Operand → IV} {op : Op} {m : Option Nat} {k : Blk} (hn : newI P ev op = some (m, k)) (h : Heap) : opI P ev op h = some (mkV m h.length, h ++ [some k]) := by
  cases op <;> simp only [newI] at hn <;> (try cases hn) <;> simp only [opI]
  case alloc t =>
    simp only [Option.map_eq_some_iff, Prod.mk.injEq] at hn
    obtain ⟨z, hz, rfl, rfl⟩ := hn
    simp [allocI, hz, mkV]
  case box t x =>
    simp only [Option.map_eq_some_iff, Prod.mk.injEq] at hn
    obtain ⟨z, hz, rfl, rfl⟩ := hn
    simp [boxI, hz, mkV]
  case buildSlice t n parts =>
    unfold buildSliceI
    split at hn
    · rename_i e he
      rw [he]; simp only
      split at hn
      · rename_i z s hz hs
        rw [hz, hs]; simp only
        split at hn
        · rename_i hc
          rw [if_pos hc]
          simp only [Option.map_eq_some_iff, Prod.mk.injEq] at hn
          obtain ⟨cs, hcs, rfl, rfl⟩ := hn
          simp [hcs, mkV]
        · cases hn
      · cases hn
    · cases hn
  case makeSlice t l c =>
    unfold makeSliceI
    split at hn
    · rename_i k1 n k2 m' e h1 h2 he
      rw [h1, h2, he]; simp only
      split at hn
      · rename_i z s by_ hz hs hb
        rw [hz, hs, hb]; simp only
        split at hn
        · rename_i hc
          rw [if_pos hc]
          cases hn
          rfl
        · cases hn
      · cases hn
    · cases hn

theorem bel_toIV (n : Nat) (v : Value) : Bel n (toIV v) := by
  unfold Ideal.toIV
  split <;> simp [Bel, Bels]
theorem bels_iff {n : Nat} : ∀ {cs : List IV}, Bels n cs ↔ ∀ v ∈ cs, Bel n v
  | [] => by simp [Bels]
  | c :: cs => by simp [Bels, bels_iff (cs := cs)]
theorem belss_iff {n : Nat} : ∀ {es : List (List IV)}, Belss n es ↔ ∀ e ∈ es, Bels n e
  | [] => by simp [Belss]
  | c :: cs => by simp [Belss, belss_iff (es := cs)]
theorem bels_zrO {P : Program} {t : TypeId} {z : List IV} {n : Nat} (h : zrO P t = some z) : Bels n z := by
  unfold zrO at h
  simp only [Option.map_eq_some_iff] at h
  obtain ⟨v, _, rfl⟩ := h
  rw [bels_iff]
  intro x hx
  obtain ⟨y, _, rfl⟩ := List.mem_map.1 hx
  exact bel_toIV n y
theorem bels_cellsI {n : Nat} {v : IV} {cs : List IV} (h : cellsI v = some cs) (hb : Bel n v) : Bels n cs := by
  cases v <;> simp only [cellsI, Option.some.injEq] at h <;> (try cases h) <;> first | exact ⟨hb, trivial⟩ | exact hb
theorem bels_splice {n o : Nat} {c cs : List IV} (h : Bels n c) (h' : Bels n cs) : Bels n (splice o c cs) := by
  rw [bels_iff] at *
  intro v hv
  unfold splice at hv
  rcases List.mem_append.1 hv with hv | hv
  · rcases List.mem_append.1 hv with hv | hv
    · exact h' v (List.mem_of_mem_take hv)
    · exact h v hv
  · exact h' v (List.mem_of_mem_drop hv)
theorem bels_fillI {n : Nat} {pl : Nat → Option (Nat × Nat)} : ∀ {ps : List (Nat × IV)} {cs cs' : List IV}, (∀ p ∈ ps, Bel n p.2) → Bels n cs → fillI pl cs ps = some cs' → Bels n cs'
  | [], cs, cs', _, h, hf => by simp [fillI] at hf; subst hf; exact h
  | (i, v) :: ps, cs, cs', hp, h, hf => by
    simp only [fillI] at hf
    split at hf
    · rename_i off size c _ hc
      split at hf
      · exact bels_fillI (fun p hp' => hp p (by simp [hp'])) (bels_splice (bels_cellsI hc (hp (i, v) (by simp))) h) hf
      · cases hf
    · cases hf
theorem belss_chunks {n s : Nat} : ∀ {m : Nat} {cs : List IV}, Bels n cs → Belss n (chunks s m cs)
  | 0, _, _ => by simp [chunks, Belss]
  | m + 1, cs, h => by
    rw [bels_iff] at h
    refine ⟨bels_iff.2 fun v hv => h v (List.mem_of_mem_take hv), belss_chunks (bels_iff.2 fun v hv => h v (List.mem_of_mem_drop hv))⟩
theorem newI_bel {P : Program} {ev : Operand → IV} {op : Op} {m : Option Nat} {k : Blk} {n : Nat} (he : ∀ x, Bel n (ev x)) (hn : newI P ev op = some (m, k)) : Belss n k.es := by
  cases op <;> simp only [newI] at hn <;> (try cases hn)
  case alloc t =>
    simp only [Option.map_eq_some_iff, Prod.mk.injEq] at hn
    obtain ⟨z, hz, rfl, rfl⟩ := hn
    exact ⟨bels_zrO hz, trivial⟩
  case box t x =>
    simp only [Option.map_eq_some_iff, Prod.mk.injEq] at hn
    obtain ⟨z, hz, rfl, rfl⟩ := hn
    exact ⟨bels_cellsI hz (he x), trivial⟩
  case buildSlice t n' parts =>
    split at hn
    · split at hn
      · rename_i z s hz hs
        split at hn
        · simp only [Option.map_eq_some_iff, Prod.mk.injEq] at hn
          obtain ⟨cs, hcs, rfl, rfl⟩ := hn
          refine belss_chunks (bels_fillI (fun p hp => ?_) ?_ hcs)
          · obtain ⟨q, _, rfl⟩ := List.mem_map.1 hp; exact he q.2
          · rw [bels_iff]
            intro v hv
            obtain ⟨e, he', hv⟩ := List.mem_flatten.1 hv
            rw [List.eq_of_mem_replicate he'] at hv
            exact bels_iff.1 (bels_zrO hz) v hv
        · cases hn
      · cases hn
    · cases hn
  case makeSlice t l c =>
    split at hn
    · split at hn
      · rename_i z s by_ hz hs hb
        split at hn
        · cases hn
          rw [belss_iff]
          intro e he'
          rw [List.eq_of_mem_replicate he']
          exact bels_zrO hz
        · cases hn
      · cases hn
    · cases hn

/-- The last block goes to a number that was laid aside. -/
theorem Step.slot {F0 F : Frz} {ρ0 ρ ρ1 : Lay} {h0 h : Heap} {w0 w W : World} {k : Blk} (s0 : Step F0 ρ0 h0 w0 F ρ h w) (s : Step F ρ h w F ρ1 (h ++ [some k]) W) (hbel : Belss h.length k.es) {b : Nat} (hb0 : h0.length ≤ b) (hblen : b < h.length) (hρ : ρ b = none) {m : Option Nat} {u : Value} (hv : VR F ρ1 (mkV m h.length) u) :
    ∃ l, Step F0 ρ0 h0 w0 F (ρ.upd b l) (h.set b (some k)) W ∧ (∀ c l', ρ c = some l' → (ρ.upd b l) c = some l') ∧ (∀ c, c ≠ b → (ρ.upd b l) c = ρ c) ∧ VR F (ρ.upd b l) (mkV m b) u := by
  have hr := s0.rel
  have t := s0.trans s
  have hk : (h ++ [some k])[h.length]? = some (some k) := by simp
  obtain ⟨l, hl, hF, cs, g1, g2, g3, g4, g5⟩ := s.rel.liv h.length k hk
  have hext : ∀ c l', ρ c = some l' → (ρ.upd b l) c = some l' := fun c l' e => by
    rw [Lay.upd_other]
    · exact e
    · rintro rfl; rw [hρ] at e; cases e
  have hρ1 : ∀ c l', c < h.length → ρ1 c = some l' → (ρ.upd b l) c = some l' := fun c l' hc e => hext c l' (s.old c l' hc e)
  have hdead : ∀ (k' : Blk), h[b]? = some (some k') → False := fun k' e => by
    obtain ⟨l', h1, _⟩ := hr.liv b k' e
    rw [hρ] at h1; cases h1
  have hset : ∀ (c : Nat) (k' : Blk), (h.set b (some k))[c]? = some (some k') → c = b ∧ k' = k ∨ c ≠ b ∧ h[c]? = some (some k') := by
    intro c k' e
    by_cases hc : c = b
    · subst hc; simp [hblen] at e; exact .inl ⟨rfl, e.symm⟩
    · rw [List.getElem?_set_ne (Ne.symm hc)] at e; exact .inr ⟨hc, e⟩
  have happ : ∀ (c : Nat) (k' : Blk), h[c]? = some (some k') → (h ++ [some k])[c]? = some (some k') := fun c k' e => by
    rw [List.getElem?_append_left (List.getElem?_eq_some_iff.1 e).1]; exact e
  have hlnew : w.heap.size ≤ l.R := by
    rcases Nat.lt_or_ge l.R w.heap.size with hlt | hge
    · obtain ⟨c, k', l', e, h1, h2⟩ := s.img l.R ⟨h.length, k, l, hk, hl, rfl⟩ hlt
      have hclt : c < h.length := hr.low c l' h1
      have := s.rel.inj c h.length k' k l' l (happ c k' e) hk (s.fρ c l' h1) hl h2
      omega
    · exact hge
  have hcontent : BlkRel F (ρ.upd b l) k l W := ⟨cs, g1, g2, g3, g4, RowsAt.move (n := h.length) (FLe.refl F) hρ1 _ _ _ _ _ hbel (fun _ _ e => e) g5⟩
  refine ⟨l, ⟨t.fF, fun c l' e => hext c l' (s0.fρ c l' e), ⟨s.rel.frz, ?_, ?_, ?_⟩, t.frame, ?_, t.newF, by simpa using s0.len, ?_, t.size, t.os, t.tape, t.output⟩, hext, fun c hc => Lay.upd_other _ _ hc, ?_⟩
  · intro c k' e
    rcases hset c k' e with ⟨rfl, rfl⟩ | ⟨hne, e⟩
    · exact ⟨l, Lay.upd_same _ _ _, hF, hcontent⟩
    · obtain ⟨l', h1, h2, cs', h3, h4, h5, h6, h7⟩ := s.rel.liv c k' (happ c k' e)
      have hclt := (List.getElem?_eq_some_iff.1 e).1
      have hbk : Belss h.length k'.es := by
        obtain ⟨_, _, _, _, _, _, _, _, q⟩ := hr.liv c k' e
        exact RowsAt.bel hr.low _ _ _ _ q
      exact ⟨l', hρ1 c l' hclt h1, h2, cs', h3, h4, h5, h6, RowsAt.move (n := h.length) (FLe.refl F) hρ1 _ _ _ _ _ hbk (fun _ _ e => e) h7⟩
  · intro c c' k1 k2 l1 l2 e e' h1 h2 h3
    rcases hset c k1 e with ⟨rfl, rfl⟩ | ⟨hne, f⟩
    · rw [Lay.upd_same] at h1; cases h1
      rcases hset c' k2 e' with ⟨rfl, rfl⟩ | ⟨hne', f'⟩
      · rfl
      · rw [Lay.upd_other _ _ hne'] at h2
        have hlt := hr.low c' l2 h2
        have := s.rel.inj h.length c' k1 k2 l l2 hk (happ c' k2 f') hl (s.fρ c' l2 h2) h3
        omega
    · rw [Lay.upd_other _ _ hne] at h1
      rcases hset c' k2 e' with ⟨rfl, rfl⟩ | ⟨hne', f'⟩
      · rw [Lay.upd_same] at h2; cases h2
        have hlt := hr.low c l1 h1
        have := s.rel.inj c h.length k1 k2 l1 l (happ c k1 f) hk (s.fρ c l1 h1) hl h3
        omega
      · rw [Lay.upd_other _ _ hne'] at h2
        exact hr.inj c c' k1 k2 l1 l2 f f' h1 h2 h3
  · intro c l' e
    simp only [List.length_set]
    by_cases hc : c = b
    · omega
    · rw [Lay.upd_other _ _ hc] at e; exact hr.low c l' e
  · rintro i ⟨c, k', l', e, h1, h2⟩ hi
    rcases hset c k' e with ⟨rfl, rfl⟩ | ⟨hne, f⟩
    · rw [Lay.upd_same] at h1; cases h1
      have := s0.size
      omega
    · rw [Lay.upd_other _ _ hne] at h1
      exact s0.img i ⟨c, k', l', f, h1, h2⟩ hi
  · intro c l' hc e
    rw [Lay.upd_other _ _ (by omega)] at e
    exact s0.old c l' hc e
  · cases m with
    | none =>
      simp only [mkV, VR] at hv ⊢
      obtain ⟨l', e, h1⟩ := hv
      rw [hl] at e; cases e
      exact ⟨l, Lay.upd_same _ _ _, h1⟩
    | some n =>
      simp only [mkV, VR] at hv ⊢
      obtain ⟨l', a, c, e, h1⟩ := hv
      rw [hl] at e; cases e
      exact ⟨l, a, c, Lay.upd_same _ _ _, h1⟩

/-- Some live blocks are no longer followed. -/
theorem Rel.hide {F : Frz} {ρ : Lay} {h h1 : Heap} {w : World} (hr : Rel F ρ h w) (hlen : h1.length = h.length) (hh : HLe h1 h) : Rel F ρ h1 w ∧ ∀ i, Img h1 ρ i → Img h ρ i :=
  ⟨⟨hr.frz, fun b k e => hr.liv b k (hh b k e), fun b b' k k' l l' e e' => hr.inj b b' k k' l l' (hh b k e) (hh b' k' e'), fun b l e => by rw [hlen]; exact hr.low b l e⟩,
    fun i ⟨b, k, l, e, h1, h2⟩ => ⟨b, k, l, hh b k e, h1, h2⟩⟩
end Go.Ideal
