/- copy, conversions, min and max; all operations but the calls together. -/
import Derived.Test.YtjfpggiglgkfeaaDI6
set_option linter.unusedVariables false
set_option linter.unusedSimpArgs false
namespace Go.Ideal

def copyI (P : Program) (t : TypeId) (d x : IV) (h : Heap) : Option (IV × Heap) :=
  match (elO P t).bind (szO P) with
  | none => none
  | some n => match srcI h n x with
    | none => none
    | some es => match d with
      | .snil => some (.int .i64 0, h)
      | .sl b lo len => match h[b]? with
        | some (some k) => if lo + len ≤ k.es.length ∧ k.size = n ∧ onesI es = true then
            some (.int .i64 (min es.length len : Nat), h.set b (some { k with es := k.es.take lo ++ es.take (min es.length len) ++ k.es.drop (lo + min es.length len) })) else none
        | _ => none
      | _ => none

theorem copyI_run {P : Program} {F : Frz} {ρ : Lay} {h h' : Heap} {w : World} (hr : Rel F ρ h w) {t t2 ty : TypeId} {d x v : IV} {du xu : Value} (hd : VR F ρ d du) (hx : VR F ρ x xu) (hc : copyI P t d x h = some (v, h')) :
    ∃ u W, (Builtin.copy_ #[t, t2] ty #[du, xu]).run P w = .ok u W ∧ Step F ρ h w F ρ h' W ∧ VR F ρ v u := by
  unfold copyI at hc
  split at hc
  · cases hc
  · rename_i n hn
    simp only [Option.bind_eq_some_iff] at hn
    obtain ⟨e, he, hsz⟩ := hn
    have hu := elO_underlying he
    split at hc
    · cases hc
    · rename_i es hsrc
      obtain ⟨A, c, rfl, hlc, hrows⟩ := srcI_at hr hx hsrc
      split at hc
      · simp only [Option.some.injEq, Prod.mk.injEq] at hc
        obtain ⟨rfl, rfl⟩ := hc
        simp only [VR] at hd
        subst hd
        have hl : ∀ x : Addr, (loadCells x 0).run P w = .ok #[] w := fun x => by simpa using run_loadCells_list (P := P) w x [] (by simp)
        refine ⟨goInt 0, w, ?_, Step.refl hr, by simp [VR, goInt]⟩
        have hm0 : Nat.min es.length 0 = 0 := Nat.min_zero _
        cases A <;> simp [Builtin.copy_, run_underlying hu, Builtin.lenOf, Builtin.firstCells, run_sizeOf hsz, hl, hm0]
      · rename_i b lo len
        split at hc
        · rename_i k hb
          split at hc
          · rename_i hcond
            obtain ⟨hle, hks, hones⟩ := hcond
            simp only [Option.some.injEq, Prod.mk.injEq] at hc
            obtain ⟨rfl, rfl⟩ := hc
            simp only [VR] at hd
            obtain ⟨l, a, dc, hl, rfl, hldc, hor⟩ := hd
            obtain ⟨l', hl', hF, cs, g1, g2, g3, g4, g5⟩ := hr.liv b k hb
            rw [hl] at hl'; cases hl'
            by_cases h0 : min es.length len = 0
            · have hes : k.es.take lo ++ es.take (min es.length len) ++ k.es.drop (lo + min es.length len) = k.es := by rw [h0]; simp
              rw [hes]
              have hset : h.set b (some { k with es := k.es }) = h := by
                apply List.ext_getElem?
                intro j
                rw [List.getElem?_set]
                split
                · rename_i hj; subst hj; rw [if_pos (hr.low b l hl)]; exact hb.symm
                · rfl
              rw [hset]
              have hl0 : ∀ x : Addr, (loadCells x 0).run P w = .ok #[] w := fun x => by simpa using run_loadCells_list (P := P) w x [] (by simp)
              refine ⟨goInt 0, w, ?_, Step.refl hr, by simp [VR, goInt, h0]⟩
              have hmin : Nat.min es.length len = 0 := h0
              cases A <;> simp [Builtin.copy_, run_underlying hu, Builtin.lenOf, Builtin.firstCells, run_sizeOf hsz, hmin, hl0, storeCells]
            · have hpos : es ≠ [] := by rintro rfl; simp at h0
              obtain ⟨R, off, rfl, hrow⟩ := hrows hpos
              have hm1 : min es.length len ≤ es.length := Nat.min_le_left _ _
              have hm2 : min es.length len ≤ len := Nat.min_le_right _ _
              generalize hmdef : min es.length len = m at *
              obtain ⟨news, hnv, hnl, hng⟩ := rows_news (RowsAt.take m hrow)
              rw [List.length_take, Nat.min_eq_left hm1] at hnl
              have hones' : onesI (es.take m) = true := by
                unfold onesI at *
                rw [List.all_eq_true] at *
                exact fun x hx => hones x (List.mem_of_mem_take hx)
              rcases hor with ⟨h1, _⟩ | ⟨rfl, htot⟩
              · omega
              have hfit : l.base + lo * l.size + m * n ≤ cs.size := by
                rw [g3, hks]
                have h1 : (lo + m) * n ≤ (k.es.length) * n := Nat.mul_le_mul_right _ (by omega)
                rw [hks] at g4
                rw [Nat.add_mul] at h1
                omega
              have hst := run_storeCells_at P l.R (l.base + lo * l.size) k.ty news 0 cs w g1 (by rw [hnl]; omega) (onesI_news hones' hnv)
              simp only [Nat.add_zero] at hst
              have hf := run_firstCells_some (P := P) w n m ⟨R, off, none⟩ es.length c news hnl hng
              have hmin : Nat.min es.length len = m := hmdef
              have hrun : (Builtin.copy_ #[t, t2] ty #[.slice (some ⟨l.R, l.base + lo * l.size, none⟩) len dc, .slice (some ⟨R, off, none⟩) es.length c]).run P w =
                  .ok (goInt m) (w.setRow l.R (cs.toList.take (l.base + lo * l.size) ++ news ++ cs.toList.drop (l.base + lo * l.size + news.length)).toArray) := by
                simp [Builtin.copy_, run_underlying hu, Builtin.lenOf, run_sizeOf hsz, hmin, hf, hst]
              refine ⟨_, _, hrun, ?_, by simp [VR, goInt]⟩
              let cs' := (cs.toList.take (l.base + lo * l.size) ++ news ++ cs.toList.drop (l.base + lo * l.size + news.length)).toArray
              have hcs' : cs'.size = cs.size := by
                simp only [cs', List.size_toArray, List.length_append, List.length_take, List.length_drop, Array.length_toList]; omega
              have hlow : ∀ j u, j < l.base + lo * l.size → cs[j]? = some u → cs'[j]? = some u := by
                intro j u hj hu'
                simp only [cs', List.getElem?_toArray]
                rw [List.append_assoc, List.getElem?_append_left (by simp; omega), List.getElem?_take, if_pos hj]
                simpa using hu'
              have hmid : ∀ j u, news[j]? = some u → cs'[l.base + lo * l.size + j]? = some u := by
                intro j u hj
                have hjl := (List.getElem?_eq_some_iff.1 hj).1
                simp only [cs', List.getElem?_toArray]
                rw [List.append_assoc, List.getElem?_append_right (by simp; omega), List.getElem?_append_left (by simp; omega), ← hj]
                congr 1; simp; omega
              have hhigh : ∀ j u, l.base + lo * l.size + news.length ≤ j → cs[j]? = some u → cs'[j]? = some u := by
                intro j u hj hu'
                simp only [cs', List.getElem?_toArray]
                rw [List.getElem?_append_right (by simp; omega), List.getElem?_drop]
                simp only [List.length_append, List.length_take, Array.length_toList, Array.getElem?_toList]
                rw [← hu']; congr 1; omega
              have hlo : lo ≤ k.es.length := by omega
              refine Step.write hr hb hl cs' _ (setRow_heap w l.R cs cs' k.ty _ g1) (fun j hj => setRow_other w l.R j _ hj) (by simp [World.setRow]) rfl rfl rfl (by rw [hcs', g2]) ?_ ?_
              · rw [hcs']
                simp only [List.length_append, List.length_take, List.length_drop]
                rw [Nat.min_eq_left hlo, Nat.min_eq_left hm1, show lo + m + (k.es.length - (lo + m)) = k.es.length by omega]
                exact g4
              · refine RowsAt.append (RowsAt.append (RowsAt.shift (RowsAt.take lo g5) fun j u hj hu' => hlow _ u ?_ hu') ?_) (RowsAt.shift (RowsAt.drop (lo + m) g5) fun j u hj hu' => ?_)
                · rw [List.length_take, Nat.min_eq_left hlo, hks] at hj; rw [g3, hks]; omega
                · rw [List.length_take, Nat.min_eq_left hlo, hks]
                  refine RowsAt.of_flat (fun e' he' => RowsAt.uniform hrow e' (List.mem_of_mem_take he')) (CellsAt.mk hnv fun j u hj => ?_)
                  have := hmid j u hj
                  rwa [g3, hks] at this
                · have e1 : l.base + (List.take lo k.es ++ List.take m es).length * k.size + j = l.base + (lo + m) * k.size + j := by
                    rw [List.length_append, List.length_take, List.length_take, Nat.min_eq_left hlo, Nat.min_eq_left hm1]
                  rw [e1]
                  refine hhigh _ u ?_ hu'
                  rw [g3, hnl, hks, Nat.add_mul]; omega
          · cases hc
        · cases hc
      · cases hc

/-! ### conversions -/
def bytesI : List (List IV) → Option (List Int)
  | [] => some []
  | [.int .u8 n] :: es => (bytesI es).map (n :: ·)
  | _ => none
theorem bytesI_flat : ∀ {es : List (List IV)} {xs : List Int}, bytesI es = some xs → es.flatten = xs.map (IV.int .u8) ∧ es.length = xs.length
  | [], xs, h => by simp [bytesI] at h; subst h; simp
  | e :: es, xs, h => by
    unfold bytesI at h
    split at h
    · rename_i heq; cases heq
    · rename_i n es' heq
      cases heq
      simp only [Option.map_eq_some_iff] at h
      obtain ⟨ys, h, rfl⟩ := h
      obtain ⟨h1, h2⟩ := bytesI_flat h
      simp [h1, h2]
    · cases h
def isU8 (P : Program) (t : TypeId) : Bool := match P.underlying t with | some (.int .u8) => true | _ => false
theorem isU8_underlying {P : Program} {t : TypeId} (h : isU8 P t = true) : P.underlying t = some (.int .u8) := by
  unfold isU8 at h; split at h
  · assumption
  · cases h
def inO (P : Program) (t : TypeId) : Option IntKind := match P.underlying t with | some (.int k) => some k | _ => none
theorem inO_underlying {P : Program} {t : TypeId} {k : IntKind} (h : inO P t = some k) : P.underlying t = some (.int k) := by
  unfold inO at h; split at h
  · rename_i hu; cases h; exact hu
  · cases h
def convI (P : Program) (src dst : TypeId) (x : IV) (h : Heap) : Option IV :=
  match x with
  | .int _ n => match inO P src, inO P dst with
    | some _, some k => some (.int k (k.wrap n))
    | _, _ => none
  | x => match elO P src with
    | some e => if isU8 P e && strO P dst then (match (srcI h 1 x).bind bytesI with | some xs => some (.str (strOfNums xs)) | none => none) else none
    | none => none
theorem convI_run {P : Program} {F : Frz} {ρ : Lay} {h : Heap} {w : World} (hr : Rel F ρ h w) {src dst : TypeId} {x v : IV} {u : Value} (hx : VR F ρ x u) (hc : convI P src dst x h = some v) :
    ∃ z, (convert src dst u).run P w = .ok z w ∧ VR F ρ v z := by
  unfold convI at hc
  split at hc
  · split at hc
    · rename_i k n k1 k2 hs hd
      cases hc
      simp only [VR] at hx
      subst hx
      exact ⟨_, by simp [convert, run_underlying (inO_underlying hs), run_underlying (inO_underlying hd), Conv.intToInt]; rfl, by simp [VR]⟩
    · cases hc
  · split at hc
    · rename_i e he
      split at hc
      · rename_i hb
        simp only [Bool.and_eq_true] at hb
        split at hc
        · rename_i xs hxs
          cases hc
          simp only [Option.bind_eq_some_iff] at hxs
          obtain ⟨es, h1, h2⟩ := hxs
          obtain ⟨A, c, rfl, hlc, hrows⟩ := srcI_at hr hx h1
          obtain ⟨f1, f2⟩ := bytesI_flat h2
          refine ⟨_, ?_, rfl⟩
          by_cases hne : es = []
          · subst hne
            simp at f2
            have hx0 : xs = [] := List.eq_nil_of_length_eq_zero f2.symm
            subst hx0
            cases A with
            | none =>
              rw [run_convert_bytes_nil w src e (elO_underlying he) (isU8_underlying hb.1) _ _ dst (strO_underlying hb.2)]
              rfl
            | some a =>
              have hl : (loadCells a 0).run P w = .ok #[] w := by simpa using run_loadCells_list (P := P) w a [] (by simp)
              rw [run_convert_bytes_string w src dst e _ _ c (elO_underlying he) (isU8_underlying hb.1) (strO_underlying hb.2)]
              simp [Conv.bytesToString, hl]
              rfl
          · obtain ⟨R, off, rfl, hrow⟩ := hrows hne
            obtain ⟨news, hnv, hnl, hng⟩ := rows_news hrow
            rw [f1] at hnv
            have hlen := hnv.length
            simp at hlen
            refine run_convert_bytes_arg w src e (elO_underlying he) (isU8_underlying hb.1) R off es.length c xs f2.symm (fun i hi => ?_) dst (strO_underlying hb.2)
            have hi' : i < xs.length := by omega
            obtain ⟨u, hu1, hu2⟩ := hnv.get (j := i) (v := .int .u8 xs[i]) (by simp [hi'])
            simp only [VR] at hu2
            subst hu2
            have := hng i _ hu1
            rw [Addr.add_lit] at this
            rw [this]
            simp [List.getD, List.getElem?_eq_getElem hi']
        · cases hc
      · cases hc
    · cases hc

/-! ### min and max -/
def mmI (mx : Bool) : IV → List IV → Option IV
  | x, [] => some x
  | .int k a, .int k' b :: r => if k = k' then mmI mx (.int k (if mx then (if b > a then b else a) else (if b < a then b else a))) r else none
  | _, _ => none
theorem mmI_run {P : Program} {F : Frz} {ρ : Lay} {w : World} (mx : Bool) : ∀ (xs : List IV) (us : List Value) (x v : IV) (u : Value), VRs F ρ xs us → VR F ρ x u → mmI mx x xs = some v →
    ∃ z, (us.foldlM (if mx then Builtin.max2 else Builtin.min2) u : Sem Value).run P w = .ok z w ∧ VR F ρ v z
  | [], us, x, v, u, h, hx, hm => by
    simp only [VRs] at h; subst h
    simp [mmI] at hm; subst hm
    exact ⟨u, by simp, hx⟩
  | y :: xs, us, x, v, u, h, hx, hm => by
    simp only [VRs] at h
    obtain ⟨y', us', rfl, hy, h⟩ := h
    unfold mmI at hm
    split at hm
    · rename_i heq; cases heq
    · rename_i k a k' b r heq
      cases heq
      split at hm
      · rename_i hk
        subst hk
        simp only [VR] at hx hy
        subst hx; subst hy
        obtain ⟨z, h1, h2⟩ := mmI_run mx xs us' _ v (.int k (if mx then (if b > a then b else a) else (if b < a then b else a))) h (by simp only [VR]) hm
        refine ⟨z, ?_, h2⟩
        cases mx
        · simpa [Builtin.min2] using h1
        · simp only [if_true] at h1 ⊢
          rw [List.foldlM_cons]
          simpa only [Builtin.max2, Sem.run_bind, Sem.run_pure, Result.andThen_ok] using h1
      · cases hm
    · cases hm

end Go.Ideal
