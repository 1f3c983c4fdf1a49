/- Fields, indexes, slices, lengths, arithmetic on the ideal memory. -/
import Derived.Test.YtjfpggiglgkfeaaDI3
set_option linter.unusedVariables false
set_option linter.unusedSimpArgs false
namespace Go.Ideal

theorem agO_underlying {P : Program} {t : TypeId} {b : Bool} (h : agO P t = some b) : ∃ d, P.underlying t = some d := by
  unfold agO at h
  cases e : P.underlying t with
  | none => rw [e] at h; cases h
  | some d => exact ⟨d, rfl⟩
theorem elO_underlying {P : Program} {t e : TypeId} (h : elO P t = some e) : P.underlying t = some (.slice e) := by
  unfold elO at h; split at h
  · rename_i e' hu; cases h; exact hu
  · cases h
theorem fdO_spec {P : Program} {t : TypeId} {i : Nat} {off s : Nat} {a : Bool} (h : fdO P t i = some (off, s, a)) :
    ∃ fs f, P.underlying t = some (.struct fs) ∧ fs[i]? = some f ∧ f.offset = off ∧ szO P f.type = some s ∧ agO P f.type = some a := by
  unfold fdO at h
  split at h
  · rename_i fs hu
    split at h
    · rename_i f hf
      split at h
      · rename_i s' a' h1 h2
        simp only [Option.some.injEq, Prod.mk.injEq] at h
        obtain ⟨rfl, rfl, rfl⟩ := h
        exact ⟨fs, f, hu, hf, rfl, h1, h2⟩
      · cases h
    · cases h
  · cases h

/-! ### fields -/
def fieldAddrI (P : Program) (t : TypeId) (x : IV) (i : Nat) : Option IV :=
  match fdO P t i, x with
  | some (off, s, _), .fptr cs => if s = 0 then none else some (.fptr (cs.drop off))
  | some (off, s, _), .ptr b j o => if s = 0 then none else some (.ptr b j (o + off))
  | _, _ => none
theorem fieldAddrI_run {P : Program} {F : Frz} {ρ : Lay} {w : World} {t : TypeId} {x v : IV} {u : Value} {i : Nat} (hx : VR F ρ x u) (h : fieldAddrI P t x i = some v) :
    ∃ y, (Instr.fieldAt t u i).run P w = .ok y w ∧ VR F ρ v y := by
  unfold fieldAddrI at h
  split at h
  · rename_i off s a cs hf
    split at h
    · cases h
    · rename_i hs
      cases h
      obtain ⟨fs, f, hu, hfi, rfl, hsz, _⟩ := fdO_spec hf
      simp only [VR] at hx
      obtain ⟨R, o, rfl, hc⟩ := hx
      refine ⟨.pointer (some ⟨R, o + f.offset, none⟩), ?_, R, _, rfl, CellsAt.drop _ hc⟩
      simp [Instr.fieldAt, Instr.sureAddr, run_underlying hu, hfi, fieldPlace, run_sizeOf hsz, hs, Addr.add_lit]
  · rename_i off s a b j o hf
    split at h
    · cases h
    · rename_i hs
      cases h
      obtain ⟨fs, f, hu, hfi, rfl, hsz, _⟩ := fdO_spec hf
      simp only [VR] at hx
      obtain ⟨l, hl, rfl⟩ := hx
      refine ⟨.pointer (some ⟨l.R, l.base + j * l.size + o + f.offset, none⟩), ?_, l, hl, by rw [Nat.add_assoc]⟩
      simp [Instr.fieldAt, Instr.sureAddr, run_underlying hu, hfi, fieldPlace, run_sizeOf hsz, hs, Addr.add_lit]
  · cases h

def fieldI (P : Program) (t : TypeId) (x : IV) (i : Nat) : Option IV :=
  match fdO P t i, x with
  | some (off, s, true), .agg cs => if off + s ≤ cs.length then some (.agg ((cs.drop off).take s)) else none
  | some (off, _, false), .agg cs => cs[off]?
  | _, _ => none
theorem fieldI_run {P : Program} {F : Frz} {ρ : Lay} {w : World} {t : TypeId} {x v : IV} {u : Value} {i : Nat} (hx : VR F ρ x u) (h : fieldI P t x i = some v) :
    ∃ y, (Instr.field t u i).run P w = .ok y w ∧ VR F ρ v y := by
  unfold fieldI at h
  split at h
  · rename_i off s cs hf
    split at h
    · rename_i hle
      cases h
      obtain ⟨fs, f, hu, hfi, rfl, hsz, hag⟩ := fdO_spec hf
      simp only [VR] at hx
      obtain ⟨us, rfl, hc⟩ := hx
      refine ⟨.agg (us.extract f.offset (f.offset + s)), ?_, _, rfl, ?_⟩
      · simp [Instr.field, run_underlying hu, hfi, part, asAgg, run_isAgg hag, run_sizeOf hsz]
      · have := (hc.drop f.offset).take s
        simpa [Array.toList_extract, List.extract] using this
    · cases h
  · rename_i off s cs hf
    obtain ⟨fs, f, hu, hfi, rfl, hsz, hag⟩ := fdO_spec hf
    simp only [VR] at hx
    obtain ⟨us, rfl, hc⟩ := hx
    obtain ⟨y, hy, hv⟩ := hc.get h
    rw [Array.getElem?_toList] at hy
    exact ⟨y, by simp [Instr.field, run_underlying hu, hfi, part, asAgg, run_isAgg hag, hy], hv⟩
  · cases h

def extractI (x : IV) (i : Nat) : Option IV :=
  match x with
  | .tup cs => cs[i]?
  | _ => none
theorem extractI_run {P : Program} {F : Frz} {ρ : Lay} {w : World} {x v : IV} {u : Value} {i : Nat} (hx : VR F ρ x u) (h : extractI x i = some v) :
    ∃ y, (Instr.extract u i).run P w = .ok y w ∧ VR F ρ v y := by
  cases x <;> simp only [extractI] at h <;> try cases h
  simp only [VR] at hx
  obtain ⟨us, rfl, hc⟩ := hx
  obtain ⟨y, hy, hv⟩ := hc.get h
  rw [Array.getElem?_toList] at hy
  exact ⟨y, by simp [Instr.extract, hy], hv⟩

/-! ### indexes -/
def indexAddrI (P : Program) (t : TypeId) (x ix : IV) (h : Heap) : Option IV :=
  match (elO P t).bind (szO P), x, ix with
  | some n, .vs s es, .int _ i => if 0 ≤ i ∧ s = n then (es[i.toNat]?).map IV.fptr else none
  | some n, .sl b lo len, .int _ i => if 0 ≤ i ∧ i < (len : Int) then (match h[b]? with | some (some k) => if k.size = n then some (.ptr b (lo + i.toNat) 0) else none | _ => none) else none
  | _, _, _ => none
theorem indexAddrI_run {P : Program} {F : Frz} {ρ : Lay} {h : Heap} {w : World} (hr : Rel F ρ h w) {t : TypeId} {x ix v : IV} {u y : Value} (hx : VR F ρ x u) (hi : VR F ρ ix y) (hv : indexAddrI P t x ix h = some v) :
    ∃ z, (Instr.indexAt t u y).run P w = .ok z w ∧ VR F ρ v z := by
  unfold indexAddrI at hv
  split at hv
  · rename_i n s es k i hn
    split at hv
    · rename_i hc
      obtain ⟨h0, rfl⟩ := hc
      simp only [Option.bind_eq_some_iff] at hn
      obtain ⟨e, he, hsz⟩ := hn
      have hu := elO_underlying he
      simp only [Option.map_eq_some_iff] at hv
      obtain ⟨el, hel, rfl⟩ := hv
      simp only [VR] at hx hi
      subst hi
      obtain ⟨A, c, rfl, hlc, hrows⟩ := hx
      have hlt : i.toNat < es.length := (List.getElem?_eq_some_iff.1 hel).1
      have hne : es ≠ [] := by intro e0; rw [e0] at hlt; simp at hlt
      obtain ⟨R, off, rfl, hrow⟩ := hrows hne
      refine ⟨.pointer (some ⟨R, off + i.toNat * s, none⟩), ?_, R, _, rfl, (RowsAt.get hrow hel).2⟩
      have hlt' : i < (es.length : Int) := by omega
      simp [Instr.indexAt, asIntOf, run_underlying hu, h0, hlt', run_sizeOf hsz, Addr.add_lit]
    · cases hv
  · rename_i n b lo len k i hn
    split at hv
    · rename_i hc
      obtain ⟨h0, hlt'⟩ := hc
      split at hv
      · rename_i kb hb
        split at hv
        · rename_i hks
          cases hv
          simp only [Option.bind_eq_some_iff] at hn
          obtain ⟨e, he, hsz⟩ := hn
          have hu := elO_underlying he
          simp only [VR] at hx hi
          subst hi
          obtain ⟨l, a, c, hl, rfl, hlc, hor⟩ := hx
          obtain ⟨l', hl', _, cs, _, _, g3, _⟩ := hr.liv b kb hb
          rw [hl] at hl'; cases hl'
          rcases hor with ⟨hz, _⟩ | ⟨rfl, _⟩
          · omega
          · refine ⟨.pointer (some ⟨l.R, l.base + lo * l.size + i.toNat * n, none⟩), ?_, l, hl, ?_⟩
            · simp [Instr.indexAt, asIntOf, run_underlying hu, h0, hlt', run_sizeOf hsz, Addr.add_lit]
            · rw [g3, hks, Nat.add_mul, Nat.add_zero, Nat.add_assoc]
        · cases hv
      · cases hv
    · cases hv
  · cases hv

def strO (P : Program) (t : TypeId) : Bool := match P.underlying t with | some .string => true | _ => false
theorem strO_underlying {P : Program} {t : TypeId} (h : strO P t = true) : P.underlying t = some .string := by
  unfold strO at h; split at h
  · assumption
  · cases h

/-! ### slices of slices -/
def boundI (d : Int) : Option IV → Option Int
  | none => some d
  | some (.int _ i) => some i
  | _ => none
def sliceI (P : Program) (t : TypeId) (x : IV) (lo hi : Option IV) (h : Heap) : Option IV :=
  match x, (elO P t).bind (szO P) with
  | .vs s es, some n => match boundI 0 lo, boundI es.length hi with
    | some l, some m => if 0 ≤ l ∧ l ≤ m ∧ m ≤ (es.length : Int) ∧ s = n then some (.vs s ((es.drop l.toNat).take (m.toNat - l.toNat))) else none
    | _, _ => none
  | .sl b lo' len, some n => match boundI 0 lo, boundI len hi, h[b]? with
    | some l, some m, some (some k) => if 0 ≤ l ∧ l ≤ m ∧ m ≤ (len : Int) ∧ k.size = n then some (.sl b (lo' + l.toNat) (m.toNat - l.toNat)) else none
    | _, _, _ => none
  | .snil, some _ => match boundI 0 lo, boundI 0 hi with
    | some l, some m => if l = 0 ∧ m = 0 then some .snil else none
    | _, _ => none
  | _, _ => none
theorem run_bounds {P : Program} {F : Frz} {ρ : Lay} {w : World} {lo hi : Option IV} {lu hu : Option Value} (len cap : Nat) (l m : Int) (hlo : ∀ v, lo = some v → ∃ u, lu = some u ∧ VR F ρ v u) (hlo' : lo = none → lu = none) (hhi : ∀ v, hi = some v → ∃ u, hu = some u ∧ VR F ρ v u) (hhi' : hi = none → hu = none)
    (h1 : boundI 0 lo = some l) (h2 : boundI len hi = some m) (h0 : 0 ≤ l) (hlm : l ≤ m) (hm : m ≤ (len : Int)) (hc : len ≤ cap) : (Instr.sliceBounds true len cap lu hu none).run P w = .ok (l.toNat, m.toNat, cap) w := by
  have bnd : ∀ (k : IntKind) (i : Int) (y : Nat) (code : BoundsCode), 0 ≤ i → i ≤ (y : Int) → (Instr.sliceBound (.int k i) y code).run P w = .ok i.toNat w := by
    intro k i y code h0 h1
    simp [Instr.sliceBound, asIntOf, h0, h1]
  have hhigh : hu = none ∧ m = len ∨ ∃ k, hu = some (.int k m) := by
    cases hi with
    | none =>
      simp only [boundI, Option.some.injEq] at h2
      exact .inl ⟨hhi' rfl, h2.symm⟩
    | some v =>
      obtain ⟨u, hu', hv⟩ := hhi v rfl
      cases v <;> simp only [boundI, Option.some.injEq] at h2 <;> try cases h2
      simp only [VR] at hv
      subst hv
      exact .inr ⟨_, hu'⟩
  have hlow : lu = none ∧ l = 0 ∨ ∃ k, lu = some (.int k l) := by
    cases lo with
    | none =>
      simp only [boundI, Option.some.injEq] at h1
      exact .inl ⟨hlo' rfl, h1.symm⟩
    | some v =>
      obtain ⟨u, hu', hv⟩ := hlo v rfl
      cases v <;> simp only [boundI, Option.some.injEq] at h1 <;> try cases h1
      simp only [VR] at hv
      subst hv
      exact .inr ⟨_, hu'⟩
  unfold Instr.sliceBounds
  rcases hhigh with ⟨rfl, rfl⟩ | ⟨k, rfl⟩ <;> rcases hlow with ⟨rfl, rfl⟩ | ⟨k', rfl⟩
  · simp
  · simp [bnd k' l len _ h0 (by omega)]
  · simp [bnd k m cap _ (by omega) (by omega)]
  · simp [bnd k m cap _ (by omega) (by omega), bnd k' l m.toNat _ h0 (by omega)]

theorem sliceI_run {P : Program} {F : Frz} {ρ : Lay} {h : Heap} {w : World} (hr : Rel F ρ h w) {t : TypeId} {x v : IV} {u : Value} {lo hi : Option IV} {lu hu : Option Value} (hx : VR F ρ x u)
    (hlo : ∀ v, lo = some v → ∃ u, lu = some u ∧ VR F ρ v u) (hlo' : lo = none → lu = none) (hhi : ∀ v, hi = some v → ∃ u, hu = some u ∧ VR F ρ v u) (hhi' : hi = none → hu = none)
    (hv : sliceI P t x lo hi h = some v) : ∃ z, (Instr.sliceAt t u lu hu none).run P w = .ok z w ∧ VR F ρ v z := by
  unfold sliceI at hv
  split at hv
  · rename_i s es n hn
    simp only [Option.bind_eq_some_iff] at hn
    obtain ⟨e, he, hsz⟩ := hn
    have hun := elO_underlying he
    split at hv
    · rename_i l m h1 h2
      split at hv
      · rename_i hc
        obtain ⟨h0, hlm, hm, rfl⟩ := hc
        cases hv
        simp only [VR] at hx
        obtain ⟨A, c, rfl, hlc, hrows⟩ := hx
        have hb := run_bounds (P := P) (w := w) es.length c l m hlo hlo' hhi hhi' h1 h2 h0 hlm hm hlc
        refine ⟨_, by
          simp only [Instr.sliceAt, Instr.slice, Sem.run_bind, run_underlying hun, Result.andThen_ok, hb, run_sizeOf hsz, Sem.run_pure]; rfl, ?_⟩
        have hlen : ((es.drop l.toNat).take (m.toNat - l.toNat)).length = m.toNat - l.toNat := by simp; omega
        refine ⟨_, c - l.toNat, by rw [hlen], by rw [hlen]; omega, fun hne => ?_⟩
        have hpos : 0 < m.toNat - l.toNat := by
          rcases Nat.eq_zero_or_pos (m.toNat - l.toNat) with h0 | h0
          · rw [h0] at hne; simp at hne
          · exact h0
        have hne' : es ≠ [] := by intro e0; rw [e0] at hm; simp at hm; omega
        obtain ⟨R, off, rfl, hrow⟩ := hrows hne'
        refine ⟨R, off + l.toNat * s, ?_, RowsAt.take _ (RowsAt.drop _ hrow)⟩
        rw [if_neg (by omega)]
        simp [Addr.add_lit]
      · cases hv
    · cases hv
  · rename_i b lo1 len n hn
    simp only [Option.bind_eq_some_iff] at hn
    obtain ⟨e, he, hsz⟩ := hn
    have hun := elO_underlying he
    split at hv
    · rename_i l m k h1 h2 hbk
      split at hv
      · rename_i hc
        obtain ⟨h0, hlm, hm, hks⟩ := hc
        cases hv
        simp only [VR] at hx
        obtain ⟨lc, a, c, hl, rfl, hlc, hor⟩ := hx
        obtain ⟨l', hl', _, cs, _, _, g3, _⟩ := hr.liv b k hbk
        rw [hl] at hl'; cases hl'
        have hb := run_bounds (P := P) (w := w) len c l m hlo hlo' hhi hhi' h1 h2 h0 hlm hm hlc
        refine ⟨_, by
          simp only [Instr.sliceAt, Instr.slice, Sem.run_bind, run_underlying hun, Result.andThen_ok, hb, run_sizeOf hsz, Sem.run_pure]; rfl, ?_⟩
        by_cases hcl : c = l.toNat
        · simp only [VR]
          refine ⟨lc, a, 0, hl, ?_, by omega, .inl ⟨by omega, rfl⟩⟩
          rw [if_pos hcl, hcl]; simp
        · rw [if_neg hcl]
          simp only [VR]
          rcases hor with ⟨hz, hz'⟩ | ⟨rfl, htot⟩
          · omega
          · refine ⟨lc, _, c - l.toNat, hl, rfl, by omega, .inr ⟨?_, ?_⟩⟩
            · show Addr.add _ _ = _
              rw [Addr.add_lit, g3, hks, Nat.add_mul, Nat.add_assoc]
            · have : lo1 + l.toNat + (c - l.toNat) = lo1 + c := by omega
              rw [this]; exact htot
      · cases hv
    · cases hv
  · rename_i n hn
    simp only [Option.bind_eq_some_iff] at hn
    obtain ⟨e, he, hsz⟩ := hn
    have hun := elO_underlying he
    split at hv
    · rename_i l m h1 h2
      split at hv
      · rename_i hc
        obtain ⟨rfl, rfl⟩ := hc
        cases hv
        simp only [VR] at hx
        subst hx
        have hb := run_bounds (P := P) (w := w) 0 0 0 0 hlo hlo' hhi hhi' h1 h2 (Int.le_refl _) (Int.le_refl _) (Int.le_refl _) (Nat.le_refl _)
        refine ⟨_, by
          simp only [Instr.sliceAt, Instr.slice, Sem.run_bind, run_underlying hun, Result.andThen_ok, hb, run_sizeOf hsz, Sem.run_pure]; rfl, ?_⟩
        simp [VR]
      · cases hv
    · cases hv
  · cases hv

def lenI (P : Program) (t : TypeId) (x : IV) : Option IV :=
  match x with
  | .vs _ es => if (elO P t).isSome then some (.int .i64 es.length) else none
  | .sl _ _ len => if (elO P t).isSome then some (.int .i64 len) else none
  | .snil => if (elO P t).isSome then some (.int .i64 0) else none
  | .str s => if strO P t then some (.int .i64 s.size) else none
  | _ => none
theorem lenI_run {P : Program} {F : Frz} {ρ : Lay} {w : World} {t ty : TypeId} {x v : IV} {u : Value} (hx : VR F ρ x u) (h : lenI P t x = some v) :
    ∃ z, (Builtin.len_ #[t] ty #[u]).run P w = .ok z w ∧ VR F ρ v z := by
  unfold lenI at h
  split at h
  · split at h
    · rename_i hs
      cases h
      obtain ⟨e, he⟩ := Option.isSome_iff_exists.1 hs
      simp only [VR] at hx
      obtain ⟨A, c, rfl, _⟩ := hx
      exact ⟨_, by simp [Builtin.len_, run_underlying (elO_underlying he)]; rfl, by simp [VR, goInt]⟩
    · cases h
  · split at h
    · rename_i hs
      cases h
      obtain ⟨e, he⟩ := Option.isSome_iff_exists.1 hs
      simp only [VR] at hx
      obtain ⟨l, a, c, _, rfl, _⟩ := hx
      exact ⟨_, by simp [Builtin.len_, run_underlying (elO_underlying he)]; rfl, by simp [VR, goInt]⟩
    · cases h
  · split at h
    · rename_i hs
      cases h
      obtain ⟨e, he⟩ := Option.isSome_iff_exists.1 hs
      simp only [VR] at hx
      subst hx
      exact ⟨_, by simp [Builtin.len_, run_underlying (elO_underlying he)]; rfl, by simp [VR, goInt]⟩
    · cases h
  · split at h
    · rename_i hs
      cases h
      simp only [VR] at hx
      subst hx
      exact ⟨_, by simp [Builtin.len_, run_underlying (strO_underlying hs)]; rfl, by simp [VR, goInt]⟩
    · cases h
  · cases h

/-! ### numbers -/
def arithI (op : BinOp) (k : IntKind) (a : Int) (k' : IntKind) (b : Int) : Option IV :=
  match op with
  | .shl => if 0 ≤ b then some (.int k (k.wrap (a * 2 ^ (min b.toNat k.bits)))) else none
  | .shr => if 0 ≤ b then some (.int k (a.fdiv (2 ^ (min b.toNat k.bits)))) else none
  | op =>
    if k = k' then
      match op with
      | .add => some (.int k (k.wrap (a + b)))
      | .sub => some (.int k (k.wrap (a - b)))
      | .mul => some (.int k (k.wrap (a * b)))
      | .quo => if b = 0 then none else some (.int k (k.wrap (a.tdiv b)))
      | .rem => if b = 0 then none else some (.int k (a.tmod b))
      | .and => some (.int k (k.wrap (BitVec.ofInt k.bits a &&& BitVec.ofInt k.bits b).toNat))
      | .or => some (.int k (k.wrap (BitVec.ofInt k.bits a ||| BitVec.ofInt k.bits b).toNat))
      | .xor => some (.int k (k.wrap (BitVec.ofInt k.bits a ^^^ BitVec.ofInt k.bits b).toNat))
      | .andNot => some (.int k (k.wrap (BitVec.ofInt k.bits a &&& ~~~ BitVec.ofInt k.bits b).toNat))
      | .eql => some (.bool (a == b))
      | .neq => some (.bool (a != b))
      | .lss => some (.bool (a < b))
      | .leq => some (.bool (a ≤ b))
      | .gtr => some (.bool (a > b))
      | .geq => some (.bool (a ≥ b))
      | _ => none
    else none
theorem arithI_run {P : Program} {F : Frz} {ρ : Lay} {w : World} {op : BinOp} {t : TypeId} {k k' : IntKind} {a b : Int} {v : IV} (h : arithI op k a k' b = some v) :
    ∃ z, (binOp op t (.int k a) (.int k' b)).run P w = .ok z w ∧ VR F ρ v z := by
  unfold arithI at h
  cases op <;> simp only at h <;>
  first
  | (split at h
     · rename_i hb
       cases h
       exact ⟨_, by simp [binOp, Op.shift, show ¬ b < 0 by omega]; rfl, by simp [VR]⟩
     · cases h)
  | (split at h
     · rename_i hk
       subst hk
       first
       | (cases h; exact ⟨_, by simp [binOp, Op.intArith, Op.intBits, Op.intCmp]; rfl, by simp [VR]⟩)
       | (split at h
          · cases h
          · rename_i hb
            cases h; exact ⟨_, by simp [binOp, Op.intDiv, hb]; rfl, by simp [VR]⟩)
       | cases h
     · cases h)

end Go.Ideal
