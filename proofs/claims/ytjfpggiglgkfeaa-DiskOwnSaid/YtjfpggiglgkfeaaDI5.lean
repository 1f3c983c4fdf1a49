/- append and copy on the ideal memory. -/
import Derived.Test.YtjfpggiglgkfeaaDI4
set_option linter.unusedVariables false
set_option linter.unusedSimpArgs false
namespace Go.Ideal

/-- A live block gets another number; its elements are looked at from another place on. -/
theorem Step.rename {F : Frz} {ρ : Lay} {h : Heap} {w : World} (hr : Rel F ρ h w) {b : Nat} {k : Blk} {l : Loc} (hb : h[b]? = some (some k)) (hl : ρ b = some l) (k2 : Blk) (base2 : Nat) (hty : k2.ty = k.ty) (hsz : k2.size = k.size)
    (hrows : ∀ cs : Array Value, w.heap[l.R]? = some (.cells cs k.ty (0, 0)) → base2 + k2.es.length * k2.size ≤ cs.size ∧ RowsAt F ρ k2.size k2.es (cs[·]?) base2) :
    Step F ρ h w F (ρ.upd h.length ⟨l.R, base2, k.size, l.tot⟩) (h.set b none ++ [some k2]) w := by
  have hext := Lay.upd_ext hr.low ⟨l.R, base2, k.size, l.tot⟩
  obtain ⟨l0, hl0, hF, cs, g1, g2, g3, g4, g5⟩ := hr.liv b k hb
  rw [hl] at hl0; cases hl0
  have hset : ∀ (c : Nat) (k' : Blk), (h.set b none ++ [some k2])[c]? = some (some k') → c < h.length ∧ c ≠ b ∧ h[c]? = some (some k') ∨ c = h.length ∧ k' = k2 := by
    intro c k' e
    rcases getElem?_app e with ⟨e1, hlt⟩ | ⟨e0, e1⟩
    · by_cases hc : c = b
      · subst hc; rw [List.getElem?_set] at e1; simp at e1
      · rw [List.getElem?_set_ne (Ne.symm hc)] at e1; exact .inl ⟨by simpa using hlt, hc, e1⟩
    · cases e1; exact .inr ⟨by simpa using e0, rfl⟩
  obtain ⟨q1, q2⟩ := hrows cs g1
  refine ⟨FLe.refl F, hext, ⟨hr.frz, ?_, ?_, ?_⟩, fun _ _ _ => rfl, ?_, fun R o e => .inl e, by simp, fun b l' hb e => by rw [Lay.upd_other _ _ (Nat.ne_of_lt hb)] at e; exact e, Nat.le_refl _, rfl, rfl, rfl⟩
  · intro c k' e
    rcases hset c k' e with ⟨hlt, hne, e⟩ | ⟨rfl, rfl⟩
    · obtain ⟨l', h1, h2, cs', h3, h4, h5, h6, h7⟩ := hr.liv c k' e
      exact ⟨l', hext c l' h1, h2, cs', h3, h4, h5, h6, RowsAt.move (n := h.length) (FLe.refl F) (fun b l _ e => hext b l e) _ _ _ _ _ (RowsAt.bel hr.low _ _ _ _ h7) (fun _ _ e => e) h7⟩
    · exact ⟨_, Lay.upd_same _ _ _, hF, cs, by rw [hty]; exact g1, g2, hsz.symm, q1, RowsAt.move (n := h.length) (FLe.refl F) (fun b l _ e => hext b l e) _ _ _ _ _ (RowsAt.bel hr.low _ _ _ _ q2) (fun _ _ e => e) q2⟩
  · intro c c' k1 k2' l1 l2 e e' h1 h2 h3
    rcases hset c k1 e with ⟨hlt, hne, f⟩ | ⟨rfl, rfl⟩
    · rw [Lay.upd_other _ _ (Nat.ne_of_lt hlt)] at h1
      rcases hset c' k2' e' with ⟨hlt', hne', f'⟩ | ⟨rfl, rfl⟩
      · rw [Lay.upd_other _ _ (Nat.ne_of_lt hlt')] at h2
        exact hr.inj c c' k1 k2' l1 l2 f f' h1 h2 h3
      · rw [Lay.upd_same] at h2; cases h2
        exact absurd (hr.inj c b k1 k l1 l f hb h1 hl h3) hne
    · rw [Lay.upd_same] at h1; cases h1
      rcases hset c' k2' e' with ⟨hlt', hne', f'⟩ | ⟨rfl, rfl⟩
      · rw [Lay.upd_other _ _ (Nat.ne_of_lt hlt')] at h2
        exact absurd (hr.inj c' b k2' k l2 l f' hb h2 hl h3.symm) hne'
      · rfl
  · intro c l' e
    simp only [List.length_append, List.length_set, List.length_cons, List.length_nil]
    by_cases hc : c = h.length
    · omega
    · rw [Lay.upd_other _ _ hc] at e
      have := hr.low c l' e
      omega
  · rintro i ⟨c, k', l', e, h1, h2⟩ _
    rcases hset c k' e with ⟨hlt, hne, e⟩ | ⟨rfl, rfl⟩
    · rw [Lay.upd_other _ _ (Nat.ne_of_lt hlt)] at h1
      exact ⟨c, k', l', e, h1, h2⟩
    · rw [Lay.upd_same] at h1; cases h1
      exact ⟨b, k, l, hb, hl, h2⟩

/-- The elements of a slice, each of n cells. -/
def srcI (h : Heap) (n : Nat) : IV → Option (List (List IV))
  | .vs s es => if s = n then some es else none
  | .sl b lo len => match h[b]? with
    | some (some k) => if lo + len ≤ k.es.length ∧ k.size = n then some ((k.es.drop lo).take len) else none
    | _ => none
  | .snil => some []
  | _ => none
theorem srcI_at {F : Frz} {ρ : Lay} {h : Heap} {w : World} (hr : Rel F ρ h w) {n : Nat} {x : IV} {u : Value} {es : List (List IV)} (hx : VR F ρ x u) (hs : srcI h n x = some es) :
    ∃ A c, u = .slice A es.length c ∧ es.length ≤ c ∧ (es ≠ [] → ∃ R off, A = some ⟨R, off, none⟩ ∧ RowsAt F ρ n es (fun j => w.cell? ⟨R, j, none⟩) off) := by
  unfold srcI at hs
  split at hs
  · split at hs
    · rename_i hn
      subst hn
      cases hs
      simp only [VR] at hx
      obtain ⟨A, c, rfl, hlc, hrows⟩ := hx
      refine ⟨A, c, rfl, hlc, fun hne => ?_⟩
      obtain ⟨R, off, hA, hrow⟩ := hrows hne
      refine ⟨R, off, hA, RowsAt.shift hrow fun j u _ hj => ?_⟩
      unfold fcell at hj
      cases e : F R with
      | none => rw [e] at hj; cases hj
      | some o =>
        rw [e] at hj
        have := hr.frz R o e
        cases o <;> simp at hj
        simpa [World.cell?, this] using hj
    · cases hs
  · rename_i b lo len
    split at hs
    · rename_i k hb
      split at hs
      · rename_i hc
        obtain ⟨hle, rfl⟩ := hc
        cases hs
        have hlen : ((k.es.drop lo).take len).length = len := by simp; omega
        simp only [VR] at hx
        obtain ⟨l, a, c, hl, rfl, hlc, hor⟩ := hx
        refine ⟨some a, c, by rw [hlen], by rw [hlen]; exact hlc, fun hne => ?_⟩
        obtain ⟨l', hl', _, cs, g1, g2, g3, g4, g5⟩ := hr.liv b k hb
        rw [hl] at hl'; cases hl'
        rcases hor with ⟨h0, _⟩ | ⟨rfl, _⟩
        · subst h0; simp at hne
        · refine ⟨_, _, rfl, ?_⟩
          rw [g3]
          exact RowsAt.shift (RowsAt.take len (RowsAt.drop lo g5)) fun j u _ hj => by simpa [World.cell?, g1] using hj
      · cases hs
    · cases hs
  · cases hs
    simp only [VR] at hx
    subst hx
    exact ⟨none, 0, rfl, Nat.le_refl _, fun h => absurd rfl h⟩
  · cases hs
theorem rows_news {F : Frz} {ρ : Lay} {w : World} {n R off : Nat} {es : List (List IV)} (h : RowsAt F ρ n es (fun j => w.cell? ⟨R, j, none⟩) off) :
    ∃ news : List Value, VRs F ρ es.flatten news ∧ news.length = es.length * n ∧ ∀ j u, news[j]? = some u → w.cell? ((⟨R, off, none⟩ : Addr).add j) = some u := by
  obtain ⟨h1, h2⟩ := RowsAt.flat h
  obtain ⟨us, hv, hg⟩ := CellsAt.get h1
  exact ⟨us, hv, by rw [← hv.length, h2], fun j u hj => by rw [Addr.add_lit]; exact hg j u hj⟩

def onesI (es : List (List IV)) : Bool := es.all (·.all oneI)
theorem onesI_news {F : Frz} {ρ : Lay} {es : List (List IV)} {news : List Value} (h : onesI es = true) (hv : VRs F ρ es.flatten news) : ∀ u ∈ news, u.oneCell' = true := by
  refine oneI_all ?_ hv
  rw [List.all_eq_true]
  intro x hx
  obtain ⟨e, he, hxe⟩ := List.mem_flatten.1 hx
  exact List.all_eq_true.1 (List.all_eq_true.1 h e he) x hxe

def appendI (P : Program) (t t2 : TypeId) (s x : IV) (h : Heap) : Option (IV × Heap) :=
  match elO P t, elO P t2 with
  | some e, some _ => match zrO P e, szO P e, byO P e with
    | some z, some n, some by_ =>
      if z.length = n ∧ 0 < n ∧ by_ ≤ 65536 then
        match srcI h n x with
        | none => none
        | some es =>
          if es = [] then (match s with | .vs _ _ | .sl _ _ _ | .snil => some (s, h) | _ => none)
          else match s with
            | .snil => if es.length ≤ 1073741824 then some (.sl h.length 0 es.length, h ++ [some ⟨n, e, es⟩]) else none
            | .sl b lo len => match h[b]? with
              | some (some k) => if lo + len ≤ k.es.length ∧ k.size = n ∧ k.ty = e ∧ len + es.length ≤ 1073741824 ∧ onesI es = true then
                  some (.sl h.length 0 (len + es.length), h.set b none ++ [some ⟨n, e, (k.es.drop lo).take len ++ es⟩]) else none
              | _ => none
            | _ => none
      else none
    | _, _, _ => none
  | _, _ => none

theorem append_types {P : Program} {t t2 ty e e2 : TypeId} (h1 : P.underlying t = some (.slice e)) (h2 : P.underlying t2 = some (.slice e2)) (args : Array Value) (w : World) :
    (Builtin.append_ #[t, t2] ty args).run P w = (Builtin.append_ #[t, t] ty args).run P w := by
  unfold Builtin.append_
  cases args[0]? with
  | none => rfl
  | some s =>
    cases args[1]? with
    | none => rfl
    | some x => cases s <;> (cases hi : P.info? e <;> simp [run_underlying h1, run_underlying h2, sizeOf, typeInfo, hi])
theorem run_append_none {P : Program} {w : World} {t ty e : TypeId} {n : Nat} (h1 : P.underlying t = some (.slice e)) (hs : szO P e = some n) (base A : Option Addr) (sLen sCap c : Nat) (hle : sLen ≤ sCap) :
    (Builtin.append_ #[t, t] ty #[.slice base sLen sCap, .slice A 0 c]).run P w = .ok (.slice base sLen sCap) w := by
  have hl : ∀ x : Addr, (loadCells x 0).run P w = .ok #[] w := fun x => by simpa using run_loadCells_list (P := P) w x [] (by simp)
  cases base <;> cases A <;> simp [Builtin.append_, run_underlying h1, run_sizeOf hs, Builtin.lenOf, Builtin.firstCells, hle, hl, storeCells]

theorem appendI_run {P : Program} {F : Frz} {ρ : Lay} {h h' : Heap} {w : World} (hr : Rel F ρ h w) {t t2 ty : TypeId} {s x v : IV} {su xu : Value} (hs : VR F ρ s su) (hx : VR F ρ x xu) (ha : appendI P t t2 s x h = some (v, h')) :
    ∃ u W ρ', (Builtin.append_ #[t, t2] ty #[su, xu]).run P w = .ok u W ∧ Step F ρ h w F ρ' h' W ∧ VR F ρ' v u := by
  unfold appendI at ha
  split at ha
  · rename_i e e2 hel hel2
    split at ha
    · rename_i z n by_ hz hn hby
      split at ha
      · rename_i hcond
        obtain ⟨hzl, hpos, hbb⟩ := hcond
        have hu := elO_underlying hel
        rw [append_types hu (elO_underlying hel2)]
        split at ha
        · cases ha
        · rename_i es hsrc
          obtain ⟨A, c, rfl, hlc, hrows⟩ := srcI_at hr hx hsrc
          split at ha
          · rename_i hes
            subst hes
            have key : ∀ base sl sc, su = .slice base sl sc → sl ≤ sc → v = s → h' = h → ∃ u W ρ', (Builtin.append_ #[t, t] ty #[su, .slice A ([] : List (List IV)).length c]).run P w = .ok u W ∧ Step F ρ h w F ρ' h' W ∧ VR F ρ' v u := by
              rintro base sl sc rfl hle rfl rfl
              exact ⟨_, w, ρ, run_append_none hu hn base A sl sc c hle, Step.refl hr, hs⟩
            split at ha
            · simp only [Option.some.injEq, Prod.mk.injEq] at ha
              have hs' := hs
              simp only [VR] at hs'
              obtain ⟨A', c', rfl, hle, _⟩ := hs'
              exact key _ _ _ rfl hle ha.1.symm ha.2.symm
            · simp only [Option.some.injEq, Prod.mk.injEq] at ha
              have hs' := hs
              simp only [VR] at hs'
              obtain ⟨l', a', c', _, rfl, hle, _⟩ := hs'
              exact key _ _ _ rfl hle ha.1.symm ha.2.symm
            · simp only [Option.some.injEq, Prod.mk.injEq] at ha
              have hs' := hs
              simp only [VR] at hs'
              subst hs'
              exact key _ _ _ rfl (Nat.le_refl _) ha.1.symm ha.2.symm
            · cases ha
          · rename_i hes
            obtain ⟨R, off, rfl, hrow⟩ := hrows hes
            obtain ⟨news, hnv, hnl, hng⟩ := rows_news hrow
            have huni := RowsAt.uniform hrow
            have hm : 0 < es.length := by cases es with | nil => exact absurd rfl hes | cons _ _ => simp
            unfold zrO at hz
            have hn' := hn
            have hby' := hby
            unfold szO at hn'
            unfold byO at hby'
            cases hi : P.info? e with
            | none => simp [hi] at hz
            | some ie =>
            cases hzero : ie.zero with
            | none => simp [hi, hzero] at hz
            | some zv =>
            simp [hi, hzero] at hz hn' hby'
            have hzs : zv.cells.size = n := by rw [← hzl, ← hz]; simp
            have growRows : ∀ (olds : List (List IV)) (ou : List Value) (cap : Nat), VRs F ρ olds.flatten ou → (∀ e ∈ olds, e.length = n) → ou.length = olds.length * n → olds.length + es.length ≤ cap →
                (ou.toArray ++ news.toArray ++ Builtin.zeroCells zv.cells (cap - (olds.length + es.length))).size = cap * n ∧ RowsAt F ρ n (olds ++ es) ((ou.toArray ++ news.toArray ++ Builtin.zeroCells zv.cells (cap - (olds.length + es.length)))[·]?) 0 := by
              intro olds ou cap hov hou hol hcap
              refine ⟨?_, ?_⟩
              · simp only [Array.size_append, List.size_toArray, size_zeroCells, hzs, hol, hnl, ← Nat.add_mul]
                congr 1; omega
              · have huo : ∀ e' ∈ olds ++ es, e'.length = n := fun e' he' => (List.mem_append.1 he').elim (hou e') (huni e')
                refine RowsAt.of_flat huo ?_
                rw [List.flatten_append]
                refine CellsAt.mk (hov.append hnv) fun j u hj => ?_
                have hjl := (List.getElem?_eq_some_iff.1 hj).1
                rw [Array.getElem?_append_left (by simpa using hjl)]
                simpa using hj
            split at ha
            · split at ha
              · rename_i hle
                simp only [Option.some.injEq, Prod.mk.injEq] at ha
                obtain ⟨rfl, rfl⟩ := ha
                simp only [VR] at hs
                subst hs
                have hrun := run_append_nil (P := P) w t ty e ie zv hu hi hzero ⟨R, off, none⟩ es.length c news (by rw [hnl, hn']) hng hm (by omega) (by
                  have : es.length * ie.bytes ≤ 1073741824 * 65536 := Nat.mul_le_mul hle (by omega)
                  omega)
                have hge := grownCap_ge w es.length 0 e
                obtain ⟨q1, q2⟩ := growRows [] [] (grownCap w es.length 0 e) (by simp [VRs]) (by simp) (by simp) (by simpa using hge)
                simp only [List.length_nil, Nat.zero_add, List.nil_append] at q1 q2
                have e1 : (([] : List Value).toArray ++ news.toArray ++ Builtin.zeroCells zv.cells (grownCap w es.length 0 e - es.length)) = (news.toArray ++ Builtin.zeroCells zv.cells (grownCap w es.length 0 e - es.length)) := by simp
                rw [e1] at q1 q2
                obtain ⟨ρ', st, hv⟩ := push_slice hr e (n := es.length) (c := grownCap w es.length 0 e) rfl hge q1 q2 (W := w.drew.alloc (.cells (news.toArray ++ Builtin.zeroCells zv.cells (grownCap w es.length 0 e - es.length)) e)) rfl rfl rfl rfl
                exact ⟨_, _, ρ', hrun, st, hv⟩
              · cases ha
            · rename_i b lo len
              split at ha
              · rename_i k hb
                split at ha
                · rename_i hcc
                  obtain ⟨hle, hks, hkt, hsmall, hones⟩ := hcc
                  simp only [Option.some.injEq, Prod.mk.injEq] at ha
                  obtain ⟨rfl, rfl⟩ := ha
                  simp only [VR] at hs
                  obtain ⟨l, a, sc, hl, rfl, hlsc, hor⟩ := hs
                  obtain ⟨l', hl', hF, cs, g1, g2, g3, g4, g5⟩ := hr.liv b k hb
                  rw [hl] at hl'; cases hl'
                  have holdlen : ((k.es.drop lo).take len).length = len := by simp; omega
                  by_cases hroom : len + es.length ≤ sc
                  · -- in its own array
                    rcases hor with ⟨h0, h00⟩ | ⟨rfl, htot⟩
                    · omega
                    have hlen_news : news.length = es.length * n := hnl
                    have hfit : l.base + lo * l.size + len * n + es.length * n ≤ cs.size := by
                      rw [g3, hks] at htot ⊢
                      have h1 : (lo + len + es.length) * n ≤ (lo + sc) * n := Nat.mul_le_mul_right _ (by omega)
                      simp only [Nat.add_mul] at h1 htot
                      rw [g2] at htot
                      omega
                    have hst := run_storeCells_at P l.R (l.base + lo * l.size + len * n) k.ty news 0 cs w g1 (by rw [hlen_news]; omega) (onesI_news hones hnv)
                    simp only [Nat.add_zero] at hst
                    have hf := run_firstCells_some (P := P) w ie.size es.length ⟨R, off, none⟩ es.length c news (by rw [hnl, hn']) hng
                    have hrun : (Builtin.append_ #[t, t] ty #[.slice (some ⟨l.R, l.base + lo * l.size, none⟩) len sc, .slice (some ⟨R, off, none⟩) es.length c]).run P w =
                        .ok (.slice (some ⟨l.R, l.base + lo * l.size, none⟩) (len + es.length) sc) (w.setRow l.R (cs.toList.take (l.base + lo * l.size + len * n) ++ news ++ cs.toList.drop (l.base + lo * l.size + len * n + news.length)).toArray) := by
                      rw [← hn'] at hst ⊢
                      simp [Builtin.append_, run_underlying hu, sizeOf, typeInfo, hi, Builtin.lenOf, hroom, hf, Addr.add_lit, hst]
                    refine ⟨_, _, ρ.upd h.length ⟨l.R, l.base + lo * l.size, n, l.tot⟩, hrun, ?_, ?_⟩
                    · let cs' := (cs.toList.take (l.base + lo * l.size + len * n) ++ news ++ cs.toList.drop (l.base + lo * l.size + len * n + news.length)).toArray
                      have hcs' : cs'.size = cs.size := by
                        simp only [cs', List.size_toArray, List.length_append, List.length_take, List.length_drop, Array.length_toList]; omega
                      have hlow : ∀ j u, j < l.base + lo * l.size + len * n → cs[j]? = some u → cs'[j]? = some u := by
                        intro j u hj hu'
                        simp only [cs', List.getElem?_toArray]
                        rw [List.append_assoc, List.getElem?_append_left (by simp; omega), List.getElem?_take, if_pos hj]
                        simpa using hu'
                      have hmid : ∀ j u, news[j]? = some u → cs'[l.base + lo * l.size + len * n + j]? = some u := by
                        intro j u hj
                        have hjl := (List.getElem?_eq_some_iff.1 hj).1
                        simp only [cs', List.getElem?_toArray]
                        rw [List.append_assoc, List.getElem?_append_right (by simp; omega), List.getElem?_append_left (by simp; omega), ← hj]
                        congr 1; simp; omega
                      -- the first lo + len elements are kept
                      have hkeep : RowsAt F ρ k.size (k.es.take (lo + len)) (cs'[·]?) l.base := by
                        refine RowsAt.shift (RowsAt.take (lo + len) g5) fun j u hj hu' => hlow _ u ?_ hu'
                        rw [List.length_take, Nat.min_eq_left hle, hks] at hj
                        rw [g3, hks]
                        simp only [Nat.add_mul] at hj
                        omega
                      have s1 := Step.write hr hb hl cs' (k.es.take (lo + len)) (setRow_heap w l.R cs cs' k.ty _ g1) (fun j hj => setRow_other w l.R j _ hj) (by simp [World.setRow]) rfl rfl rfl (by rw [hcs', g2]) (by
                        rw [hcs', List.length_take, Nat.min_eq_left hle, hks]
                        rw [g3, hks] at hfit
                        simp only [Nat.add_mul]
                        omega) hkeep
                      have hb1 : (h.set b (some { k with es := k.es.take (lo + len) }))[b]? = some (some { k with es := k.es.take (lo + len) }) := by
                        rw [List.getElem?_set]; simp [hr.low b l hl]
                      have s2 := Step.rename s1.rel hb1 hl ⟨n, e, (k.es.drop lo).take len ++ es⟩ (l.base + lo * l.size) hkt.symm hks.symm (fun cs2 hcs2 => by
                        have hc2 : cs2 = cs' := by
                          rw [setRow_heap w l.R cs cs' k.ty _ g1] at hcs2
                          cases hcs2; rfl
                        subst hc2
                        refine ⟨?_, ?_⟩
                        · show l.base + lo * l.size + ((k.es.drop lo).take len ++ es).length * n ≤ cs'.size
                          rw [hcs', List.length_append, holdlen, Nat.add_mul]; omega
                        · refine RowsAt.append ?_ ?_
                          · have hd := RowsAt.drop lo hkeep
                            rw [hks] at hd
                            rw [g3, hks, List.take_drop]
                            exact hd
                          · rw [holdlen]
                            exact RowsAt.of_flat huni (CellsAt.mk hnv fun j u hj => hmid j u hj))
                      have s3 := s1.trans s2
                      simp only [List.length_set, hks, List.set_set] at s3
                      exact s3
                    · refine ⟨_, _, sc, Lay.upd_same _ _ _, rfl, hroom, .inr ⟨by simp, ?_⟩⟩
                      rw [g3, hks] at htot
                      simp only [Nat.zero_add]
                      rw [g3, hks]
                      rw [Nat.add_mul] at htot
                      omega
                  · -- in a new array
                    have holdrow : RowsAt F ρ n ((k.es.drop lo).take len) (cs[·]?) (l.base + lo * n) := by
                      have := RowsAt.take len (RowsAt.drop lo g5)
                      rwa [hks] at this
                    obtain ⟨hoc, hol⟩ := RowsAt.flat holdrow
                    obtain ⟨ou, hov, hog⟩ := CellsAt.get hoc
                    have hou := hov.length
                    have hou2 : ou.length = len * n := by rw [← hou, hol, holdlen]
                    have haddr : ∀ j u, ou[j]? = some u → w.cell? (a.add j) = some u := by
                      intro j u hj
                      rcases hor with ⟨h0, h00⟩ | ⟨rfl, htot⟩
                      · have := (List.getElem?_eq_some_iff.1 hj).1
                        rw [hou2, h0] at this; simp at this
                      · rw [Addr.add_lit, g3, hks]
                        simpa [World.cell?, g1] using hog j u hj
                    have hbytes : (len + es.length) * ie.bytes ≤ 140737488355328 := by
                      have : (len + es.length) * ie.bytes ≤ 1073741824 * 65536 := Nat.mul_le_mul hsmall (by omega)
                      omega
                    have hrun := run_append_grow (P := P) w t ty e ie zv hu hi hzero a len sc ou (by rw [hou2, hn']) haddr ⟨R, off, none⟩ es.length c news (by rw [hnl, hn']) hng (by omega) (by omega) (growslice_fits (by omega) hbytes)
                    have hge := grownCap_ge w (len + es.length) sc e
                    obtain ⟨q1, q2⟩ := growRows ((k.es.drop lo).take len) ou (grownCap w (len + es.length) sc e) hov (RowsAt.uniform holdrow) (by rw [hou2, holdlen]) (by rw [holdlen]; exact hge)
                    rw [holdlen] at q1 q2
                    have sk := Step.kill hr b
                    obtain ⟨ρ', st, hv⟩ := push_slice sk.rel e (n := len + es.length) (c := grownCap w (len + es.length) sc e) (by rw [List.length_append, holdlen]) hge q1 q2 (W := w.drew.alloc (.cells (ou.toArray ++ news.toArray ++ Builtin.zeroCells zv.cells (grownCap w (len + es.length) sc e - (len + es.length))) e)) rfl rfl rfl rfl
                    simp only [List.length_set] at st hv
                    exact ⟨_, _, ρ', hrun, sk.trans st, hv⟩
                · cases ha
              · cases ha
            · cases ha
      · cases ha
    · cases ha
  · cases ha

end Go.Ideal
