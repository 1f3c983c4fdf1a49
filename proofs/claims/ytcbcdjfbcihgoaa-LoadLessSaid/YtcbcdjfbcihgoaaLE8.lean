/- Part of a proof: functions of the program over an ideal memory, and what they compute. No condition. -/
import Derived.Test.YtcbcdjfbcihgoaaLE7
import Derived.ProofKit
set_option linter.unusedVariables false
set_option linter.unusedSimpArgs false
namespace Go.Ideal
open Go.ChangeShapes Go.WideShapes Go.ChangeAt Go.RowKit
def allF (W : World) : Frz := fun R => W.heap[R]?
theorem rel0 (W : World) : Rel (allF W) (fun _ => none) [] W :=
  ⟨fun _ _ h => h, fun _ _ h => by simp at h, fun _ _ _ _ _ _ h => by simp at h, fun _ _ h => by cases h⟩
theorem Z5.enter {P : Program} {f : FuncId} {args : List IV} {us : Array Value} {W : World} (hc : Z5 P f args [] fun r _ => r = .bool true) (hv : VRs (allF W) (fun _ => none) args us.toList) :
    Calls P f us W fun e W' => e = .returned (.bool true) ∧ Below W.heap.size W W' := by
  refine (hc (allF W) (fun _ => none) W us (rel0 W) hv).mono ?_
  rintro e W' ⟨r, h', v, F', ρ', rfl, rfl, st, hv'⟩
  simp only [VR] at hv'
  subst hv'
  exact ⟨rfl, st.os, st.tape, st.output, st.size, fun k hk => st.frame k hk fun ⟨b, k, l, h, _⟩ => by simp at h⟩
inductive Sh where
  | b
  | i (k : IntKind)
  | str
  | sl (n : Nat) (cs : List Sh)
mutual
def Shd : Sh → IV → Prop
  | .b, v => ∃ x, v = .bool x
  | .i k, v => ∃ n, v = .int k n ∧ (Lit.int k n).wf = true
  | .str, v => ∃ x, v = .str x ∧ x.size ≤ maxLen
  | .sl n cs, v => ∃ es, v = .vs n es ∧ es.length ≤ maxLen ∧ ∀ e ∈ es, Shds cs e
def Shds : List Sh → List IV → Prop
  | [], vs => vs = []
  | c :: cs, vs => ∃ v vs', vs = v :: vs' ∧ Shd c v ∧ Shds cs vs'
end
theorem Shds.append : ∀ {a b : List Sh} {x y : List IV}, Shds a x → Shds b y → Shds (a ++ b) (x ++ y)
  | [], _, _, _, h, k => by simp only [Shds] at h; subst h; simpa using k
  | c :: a, b, x, y, h, k => by
    simp only [Shds] at h
    obtain ⟨v, vs, rfl, h1, h2⟩ := h
    simp only [List.cons_append, Shds]
    exact ⟨v, vs ++ y, rfl, h1, Shds.append h2 k⟩
theorem Shds.length : ∀ {a : List Sh} {x : List IV}, Shds a x → x.length = a.length
  | [], _, h => by simp only [Shds] at h; subst h; rfl
  | c :: a, x, h => by
    simp only [Shds] at h
    obtain ⟨v, vs, rfl, h1, h2⟩ := h
    simp [Shds.length h2]
def shFs (P : Program) (g : TypeId → Option (List Sh)) : List Field → Nat → Option (List Sh)
  | [], _ => some []
  | f :: fs, off => match g f.type, shFs P g fs (off + P.cellsOf f.type) with
    | some c, some r => if c.length = P.cellsOf f.type ∧ f.offset = off then some (c ++ r) else none
    | _, _ => none
def shOf (P : Program) : Nat → TypeId → Option (List Sh)
  | 0, _ => none
  | n + 1, t => match P.underlying t with
    | some .bool => some [.b]
    | some (.int k) => some [.i k]
    | some .string => some [.str]
    | some (.slice e) => match shOf P n e with
      | some c => if c.length = P.cellsOf e ∧ c ≠ [] then some [.sl (P.cellsOf e) c] else none
      | none => none
    | some (.struct fs) => match shFs P (shOf P n) fs.toList 0 with
      | some c => if c.length = P.cellsOf t then some c else none
      | none => none
    | _ => none
section
variable {H : Type} {enc : TypeId × Value → H} {P : Program} {W : World} {ρ : Lay} {sp : Nat → Bool} {held : Bool}
def Opn (W : World) (ρ : Lay) (sh : List Sh) (cs : List Value) : Prop := ∃ vs, Shds sh vs ∧ VRs (allF W) ρ vs cs
theorem VRs.append' {F : Frz} : ∀ {a b : List IV} {x y : List Value}, VRs F ρ a x → VRs F ρ b y → VRs F ρ (a ++ b) (x ++ y)
  | [], _, _, _, h, k => by simp only [VRs] at h; subst h; simpa using k
  | c :: a, b, x, y, h, k => by
    simp only [VRs] at h
    obtain ⟨v, vs, rfl, h1, h2⟩ := h
    simp only [List.cons_append, VRs]
    exact ⟨v, vs ++ y, rfl, h1, VRs.append' h2 k⟩
theorem Opn.append {a b : List Sh} {x y : List Value} (h : Opn W ρ a x) (k : Opn W ρ b y) : Opn W ρ (a ++ b) (x ++ y) := by
  obtain ⟨u, h1, h2⟩ := h
  obtain ⟨v, k1, k2⟩ := k
  exact ⟨u ++ v, h1.append k1, h2.append' k2⟩
theorem opn_fields {g : TypeId → Option (List Sh)} {n : Nat} {cs : List Value} (hg : ∀ t sh cs x, g t = some sh → DataW.trod enc P W 0 sp held n t cs = some x → Opn W ρ sh cs) :
    ∀ (fs : List Field) (off : Nat) (sh : List Sh), shFs P g fs off = some sh → (∀ f ∈ fs, ∃ x, DataW.trod enc P W 0 sp held n f.type ((cs.drop f.offset).take (P.cellsOf f.type)) = some x) → Opn W ρ sh ((cs.drop off).take sh.length)
  | [], off, sh, h, _ => by
    simp only [shFs, Option.some.injEq] at h
    subst h
    exact ⟨[], by simp [Shds], by simp [VRs]⟩
  | f :: fs, off, sh, h, hx => by
    simp only [shFs] at h
    split at h
    · rename_i c r hc hr
      split at h
      · rename_i hq
        obtain ⟨hl, ho⟩ := hq
        simp only [Option.some.injEq] at h
        subst h
        obtain ⟨x, hx0⟩ := hx f (by simp)
        have h1 := hg _ _ _ _ hc hx0
        have h2 := opn_fields hg fs _ r hr fun f' hf' => hx f' (by simp [hf'])
        have e : (cs.drop off).take (c ++ r).length = (cs.drop f.offset).take (P.cellsOf f.type) ++ (cs.drop (off + P.cellsOf f.type)).take r.length := by
          rw [ho, List.length_append, hl, List.take_add, List.drop_drop]
        rw [e]
        exact h1.append h2
      · cases h
    · cases h
theorem add_block (a : Addr) (i : Nat) : (a.add i).block = a.block := by unfold Addr.add; split <;> rfl
theorem add_off (a : Addr) (n : Nat) : (a.add n).off = a.off + n := by unfold Addr.add; split <;> simp_all
theorem cell_spot {w : World} {a : Addr} {v : Value} (h : w.cell? a = some v) : a.spot = none ∧ fcell (allF w) a.block a.off = some v := by
  unfold World.cell? at h
  unfold fcell allF
  split at h
  · rename_i c x y hh
    rw [hh]
    by_cases hsp : a.spot.isSome = true
    · rw [if_pos hsp] at h; cases h
    · rw [if_neg hsp] at h
      exact ⟨by simpa using hsp, h⟩
  · cases h
theorem cells_at {F : Frz} {g : Nat → Option Value} : ∀ {vs : List IV} {cs : List Value} {off : Nat}, VRs F ρ vs cs → (∀ i, i < cs.length → g (off + i) = cs[i]?) → CellsAt F ρ vs g off
  | [], _, _, _, _ => by simp [CellsAt]
  | v :: vs, cs, off, h, k => by
    simp only [VRs] at h
    obtain ⟨u, us, rfl, h1, h2⟩ := h
    simp only [CellsAt]
    refine ⟨⟨u, by simpa using k 0 (by simp), h1⟩, cells_at h2 fun i hi => ?_⟩
    have := k (i + 1) (by simpa using hi)
    simpa [Nat.add_assoc, Nat.add_comm 1 i] using this
theorem rows_of {F : Frz} {g : Nat → Option Value} {s : Nat} {c : List Sh} (hs : c.length = s) : ∀ (len off : Nat), (∀ i, i < len → ∃ vs, Shds c vs ∧ CellsAt F ρ vs g (off + i * s)) → ∃ es, es.length = len ∧ (∀ e ∈ es, Shds c e) ∧ RowsAt F ρ s es g off
  | 0, _, _ => ⟨[], rfl, by simp, by simp [RowsAt]⟩
  | len + 1, off, h => by
    obtain ⟨vs, h1, h2⟩ := h 0 (by omega)
    obtain ⟨es, e1, e2, e3⟩ := rows_of hs len (off + s) fun i hi => by
      obtain ⟨vs, g1, g2⟩ := h (i + 1) (by omega)
      refine ⟨vs, g1, ?_⟩
      have : off + (i + 1) * s = off + s + i * s := by rw [Nat.succ_mul]; omega
      rw [this] at g2; exact g2
    refine ⟨vs :: es, by simp [e1], ?_, ?_⟩
    · intro e he
      rcases List.mem_cons.1 he with rfl | he
      · exact h1
      · exact e2 e he
    · simp only [RowsAt]
      exact ⟨by rw [h1.length, hs], by simpa using h2, e3⟩
theorem opn_of : ∀ (m : Nat) (t : TypeId) (sh : List Sh) (cs : List Value) (n : Nat) (x : DataW H × List MemPlace), shOf P m t = some sh → DataW.trod enc P W 0 sp held n t cs = some x → Opn W ρ sh cs
  | 0, _, _, _, _, _, h, _ => by simp [shOf] at h
  | m + 1, t, sh, cs, n, x, h, k => by
    cases hu : P.underlying t with
    | none => simp [shOf, hu] at h
    | some u =>
      cases n with
      | zero => simp [DataW.trod] at k
      | succ n =>
        have hn : ∀ (hs : ∀ fs, u ≠ .struct fs), True := fun _ => trivial
        cases u with
        | bool =>
          simp [shOf, hu] at h; subst h
          unfold DataW.trod at k; rw [hu] at k
          split at k <;> simp_all
          rename_i b
          exact ⟨[.bool b], by simp [Shds, Shd], by simp [VRs, VR]⟩
        | int kd =>
          simp [shOf, hu] at h; subst h
          unfold DataW.trod at k; rw [hu] at k
          split at k <;> simp_all
          rename_i n' _
          obtain ⟨⟨rfl, hw⟩, _⟩ := k
          exact ⟨[.int _ n'], ⟨_, _, rfl, ⟨n', rfl, hw⟩, rfl⟩, by simp [VRs, VR]⟩
        | string =>
          simp [shOf, hu] at h; subst h
          unfold DataW.trod at k; rw [hu] at k
          split at k <;> simp_all
          rename_i s
          exact ⟨[.str s], by simp [Shds, Shd, k.1], by simp [VRs, VR]⟩
        | slice e =>
          simp only [shOf, hu] at h
          split at h
          · rename_i c hc
            split at h
            · rename_i hq
              obtain ⟨hl, hne⟩ := hq
              simp only [Option.some.injEq] at h
              subst h
              rcases DataW.trod_slice hu k with ⟨rfl, _⟩ | ⟨a, len, cap, elems, rest, n2, hn2, rfl, _, _, hlc, hcap, hlen, hel, _⟩
              · exact ⟨[.vs _ []], ⟨_, _, rfl, ⟨[], rfl, by simp, by simp⟩, rfl⟩, by simp [VRs, VR]⟩
              · have each : ∀ i, i < len → ∃ vs, Shds c vs ∧ CellsAt (allF W) ρ vs (fcell (allF W) a.block) (a.off + i * P.cellsOf e) ∧ (i = 0 → a.spot = none) := by
                  intro i hi
                  have h1 := hel i hi
                  obtain ⟨y, hy⟩ : ∃ y, elems[i]? = some y := ⟨_, List.getElem?_eq_getElem (by omega)⟩
                  rw [hy] at h1
                  simp only [Option.bind_eq_some_iff] at h1
                  obtain ⟨ci, hci, hyi⟩ := h1
                  obtain ⟨vs, g1, g2⟩ := opn_of m e c ci n2 y hc hyi
                  obtain ⟨_, hcl, hcell⟩ := World.cells?_some hci
                  have sp0 : ∀ j, j < P.cellsOf e → ((a.add (i * P.cellsOf e)).add j).spot = none ∧ fcell (allF W) ((a.add (i * P.cellsOf e)).add j).block ((a.add (i * P.cellsOf e)).add j).off = ci[j]? := by
                    intro j hj
                    have := hcell j hj
                    obtain ⟨v, hv⟩ : ∃ v, ci[j]? = some v := ⟨_, List.getElem?_eq_getElem (by omega)⟩
                    rw [hv] at this ⊢
                    exact cell_spot this
                  have pos : 0 < P.cellsOf e := by
                    rw [← hl]
                    rcases Nat.eq_zero_or_pos c.length with h0 | h0
                    · exact absurd (List.length_eq_zero_iff.1 h0) hne
                    · exact h0
                  refine ⟨vs, g1, cells_at g2 fun j hj => ?_, fun h0 => by subst h0; simpa [Addr.add] using (sp0 0 pos).1⟩
                  have := (sp0 j (by omega)).2
                  have e1 : ((a.add (i * P.cellsOf e)).add j).off = a.off + i * P.cellsOf e + j := by
                    rw [add_off, add_off]
                  rw [add_block, add_block, e1] at this
                  exact this
                obtain ⟨es, e1, e2, e3⟩ := rows_of hl len a.off fun i hi => by
                  obtain ⟨vs, g1, g2, _⟩ := each i hi
                  exact ⟨vs, g1, g2⟩
                refine ⟨[.vs (P.cellsOf e) es], ?_, ?_⟩
                · simp only [Shds, Shd]
                  exact ⟨_, [], rfl, ⟨es, rfl, by omega, e2⟩, rfl⟩
                · simp only [VRs, VR]
                  refine ⟨_, [], rfl, ⟨some a, cap, by rw [e1], by omega, fun hne' => ⟨a.block, a.off, ?_, e3⟩⟩, rfl⟩
                  have : 0 < len := by
                    rw [← e1]
                    rcases Nat.eq_zero_or_pos es.length with h0 | h0
                    · exact absurd (List.length_eq_zero_iff.1 h0) hne'
                    · exact h0
                  obtain ⟨_, _, _, asp⟩ := each 0 this
                  rw [← asp rfl]
            · cases h
          · cases h
        | struct fs =>
          simp only [shOf, hu] at h
          split at h
          · rename_i c hc
            split at h
            · rename_i hq
              simp only [Option.some.injEq] at h
              subst h
              obtain ⟨xs, n2, hn2, _, hl, hxl, hf⟩ := DataW.trod_struct hu k
              have := opn_fields (cs := cs) (fun t sh cs x h k => opn_of m t sh cs n2 x h k) fs.toList 0 c hc fun f hf' => by
                obtain ⟨i, hi⟩ := List.getElem?_of_mem hf'
                have hi' : fs[i]? = some f := by simpa using hi
                have h1 := hf i f hi'
                have hlt : i < fs.size := (Array.getElem?_eq_some_iff.1 hi').1
                obtain ⟨y, hy⟩ : ∃ y, xs[i]? = some y := ⟨_, List.getElem?_eq_getElem (by omega)⟩
                exact ⟨y, by rw [h1, hy]⟩
              rw [List.drop_zero, List.take_of_length_le (by omega)] at this
              exact this
            · cases h
          · cases h
        | _ => simp [shOf, hu] at h
def oneT (P : Program) (t : TypeId) : Bool := match P.underlying t with
  | some .bool => true
  | some (.int _) => true
  | some .string => true
  | some (.slice _) => true
  | _ => false
theorem one_cells {b0 : Nat} {W : World} {t : TypeId} {v : Value} (h1 : oneT P t = true) (hv : Value.okWide P W .any b0 t v) : v.cells.toList = [v] := by
  unfold oneT at h1
  cases hu : P.underlying t with
  | none => simp [hu] at h1
  | some u =>
    rw [hu] at h1
    cases u with
    | bool => obtain ⟨x, rfl⟩ : ∃ x, v = .bool x := by
                simp only [Value.okWide, hu, Cell.okWide] at hv
                cases v <;> simp_all [Cell.ok]
              rfl
    | int k => obtain ⟨n, rfl⟩ : ∃ n, v = .int k n := by
                simp only [Value.okWide, hu, Cell.okWide] at hv
                cases v <;> simp_all [Cell.ok]
               rfl
    | string => obtain ⟨x, rfl⟩ := okWide_string hu hv; rfl
    | slice e => obtain ⟨a, l, c, rfl⟩ := okWide_slice hu hv; rfl
    | _ => simp at h1
def argsB (P : Program) (ts : List TypeId) : Bool := ts.all fun t => oneT P t && P.readableRec t && decide (t < P.types.size)
theorem opn_args {b0 : Nat} : ∀ {ts : List TypeId} {shs : List Sh} {vs : List Value} {ds : List (DataW H)} {ps : List MemPlace}, ts.map (shOf P 12) = shs.map (fun s => some [s]) → argsB P ts = true →
    (∀ (j : Nat) t v, ts[j]? = some t → vs[j]? = some v → Value.okWide P W .any b0 t v) → DataW.TrodAll enc P W 0 (fun _ => true) true ts vs ds ps → Opn W ρ shs vs
  | [], shs, vs, ds, ps, h, _, _, hA => by
    obtain ⟨rfl, _, _⟩ := trodAll_nil hA
    simp at h; subst h
    exact ⟨[], by simp [Shds], by simp [VRs]⟩
  | t :: ts, shs, vs, ds, ps, h, hb, hv, hA => by
    obtain ⟨v, vs', d, ds', p, p', rfl, rfl, rfl, h0, h1⟩ := trodAll_cons hA
    cases shs with
    | nil => simp at h
    | cons sh shs =>
      simp only [List.map_cons, List.cons.injEq] at h
      simp only [argsB, List.all_cons, Bool.and_eq_true] at hb
      have hc := one_cells hb.1.1.1 (hv 0 t v rfl rfl)
      obtain ⟨fuel, hf⟩ := h0
      rw [hc] at hf
      have o1 := opn_of (ρ := ρ) 12 t [sh] [v] fuel _ h.1 hf
      have o2 := opn_args h.2 (by unfold argsB; exact hb.2) (fun j t v e1 e2 => hv (j + 1) t v (by simpa using e1) (by simpa using e2)) h1
      exact o1.append o2
theorem trodAll_len {base : Nat} {sp : Nat → Bool} {held : Bool} : ∀ {ts : List TypeId} {vs : List Value} {ds : List (DataW H)} {ps : List MemPlace}, DataW.TrodAll enc P W base sp held ts vs ds ps → ds.length = ts.length
  | [], vs, ds, ps, hA => by
    obtain ⟨rfl, rfl, rfl⟩ := trodAll_nil hA
    rfl
  | t :: ts, vs, ds, ps, hA => by
    obtain ⟨v, vs', d, ds', p, p', rfl, rfl, rfl, h0, h1⟩ := trodAll_cons hA
    simp [trodAll_len h1]
theorem below_args (hl : laidOutB P = true) {W' : World} : ∀ {ts : List TypeId} {vs : List Value} {ds : List (DataW H)} {ps : List MemPlace}, argsB P ts = true →
    DataW.TrodAll enc P W 0 (fun _ => true) true ts vs ds ps → Below W.heap.size W W' → (∀ x ∈ ps, x.block < W.heap.size) → DataW.TrodAll enc P W' 0 (fun b => decide (b < W.heap.size)) true ts vs ds ps
  | [], vs, ds, ps, _, hA, _, _ => by
    obtain ⟨rfl, rfl, rfl⟩ := trodAll_nil hA
    exact trodAll_mk0
  | t :: ts, vs, ds, ps, hb, hA, hB, hlt => by
    obtain ⟨v, vs', d, ds', p, p', rfl, rfl, rfl, h0, h1⟩ := trodAll_cons hA
    simp only [argsB, List.all_cons, Bool.and_eq_true, decide_eq_true_eq] at hb
    refine ⟨p, p', Below.trod hl hb.1.1.2 hb.1.2 h0 hB (fun x hx => hlt x (List.mem_append.2 (.inl hx))), below_args hl (by unfold argsB; simpa using hb.2) h1 hB fun x hx => hlt x (List.mem_append.2 (.inr hx)), rfl⟩
end
theorem law_true {C : Checked} {os : Os} {f : FuncId} {fn : Func} {s : ChangeSpec} {H : Type} {enc : TypeId × Value → H} {shs : List Sh} {tb : TypeId}
    (own : ownKnob C.prog.godebug = none) (started : os.Started) (noInit : C.prog.inits.idxOf? f = none) (hfn : C.prog.funcs[f]? = some fn)
    (witness : ∃ (w : World) (tape : Tape) (i : Input), w.os = os ∧ (w.forCall tape i).Shaped C.prog ∧ i.vars = [] ∧ Input.okWide C.prog (w.forCall tape i) .any w.heap.size f i ∧
      s.pre6 enc C.prog fn [] false (w.forCall tape i).memory i.args ∧ ({} : Assume).holds C.prog (lone (Frame.enter C.prog f i.args .normal) [] (w.forCall tape i)))
    (hvars : s.vars = []) (hres : fn.resultTypes = #[tb]) (htb : C.prog.underlying tb = some .bool)
    (hspec : ∀ ds : List (DataW H), ds.length = fn.params.size → (s.fn H ds).results = [.lit (.bool true)] ∧ (s.fn H ds).args = ds ∧ (s.fn H ds).vars = [])
    (laid : laidOutB C.prog = true) (hB : argsB C.prog fn.params.toList = true) (hS : fn.params.toList.map (shOf C.prog 12) = shs.map fun s => some [s])
    (law : ∀ vs, Shds shs vs → Z5 C.prog f vs [] fun r _ => r = .bool true) :
    ReturnsInHanded {} C os f .any (s.pre6 enc C.prog fn [] false) (s.post enc C.prog fn false true false false) := by
  refine returnsInHanded_of_change own started noInit hfn witness ?_
  intro W base args ds gs before hval0 hW _ _
  have hW' := hW
  obtain ⟨p, q, hA, hV, rfl, _, _⟩ := hW
  rw [hvars] at hV
  obtain ⟨rfl, rfl⟩ := trodVars_none hV
  obtain ⟨vs, h1, h2⟩ := opn_args (ρ := fun _ => none) hS hB (fun j t v e1 e2 => hval0 j t v (by simpa using e1) (by simpa using e2)) hA
  have hlt : ∀ x ∈ p, x.block < W.heap.size := fun x hx => hW'.lt x (List.mem_append.2 (.inl hx))
  refine (Z5.enter (law vs h1) h2).mono fun e W' ⟨he, hb⟩ => ?_
  subst he
  have hlen : ds.length = fn.params.size := by have := trodAll_len hA; simpa using this
  obtain ⟨e1, e2, e3⟩ := hspec ds hlen
  refine ⟨_, rfl, ds, [], p ++ [], [], p, [], hW', ?_, ?_, ?_, hb.frame _, fun h => by cases h⟩
  · rw [List.append_nil, e1, hres]
    exact trodAll_mk1 (shut_bool htb true)
  · rw [List.append_nil, e2]
    exact below_args laid hB hA hb hlt
  · rw [List.append_nil, e3, hvars]
    rfl
end Go.Ideal
namespace Go.Ideal
theorem shd_list {α : Type} {f : α → List IV} {n : Nat} {cs : List Sh} {v : IV} (hf : ∀ e, Shds cs e → ∃ x, e = f x) (h : Shd (.sl n cs) v) : ∃ l : List α, v = .vs n (l.map f) := by
  simp only [Shd] at h
  obtain ⟨es, rfl, _, he⟩ := h
  have : ∃ l : List α, es = l.map f := by
    induction es with
    | nil => exact ⟨[], rfl⟩
    | cons e es ih =>
      obtain ⟨x, rfl⟩ := hf e (he e (by simp))
      obtain ⟨l, rfl⟩ := ih (by rename_i h; simp at h ⊢; omega) fun e h => he e (by simp [h])
      exact ⟨x :: l, rfl⟩
  obtain ⟨l, rfl⟩ := this
  exact ⟨l, rfl⟩
theorem shd_ints {v : IV} (h : Shd (.sl 1 [.i .i64]) v) : ∃ l : List Int, v = .vs 1 (ints l) := by
  refine shd_list (f := fun x => [.int .i64 x]) (fun e h => ?_) h
  simp only [Shds, Shd] at h
  obtain ⟨_, _, rfl, ⟨a, rfl, _⟩, rfl⟩ := h
  exact ⟨a, rfl⟩
theorem shd_TS {v : IV} (h : Shd (.sl 12 [.b, .b, .i .i64, .i .i64, .i .i64, .i .i64, .i .i64, .i .i64, .i .i64, .i .i64, .i .i64, .i .i64]) v) : ∃ l : List TState, v = .vs 12 (l.map TState.c) := by
  refine shd_list (fun e h => ?_) h
  simp only [Shds, Shd] at h
  obtain ⟨_, _, rfl, ⟨a1, rfl⟩, _, _, rfl, ⟨a2, rfl⟩, _, _, rfl, ⟨a3, rfl, _⟩, _, _, rfl, ⟨a4, rfl, _⟩, _, _, rfl, ⟨a5, rfl, _⟩, _, _, rfl, ⟨a6, rfl, _⟩, _, _, rfl, ⟨a7, rfl, _⟩, _, _, rfl, ⟨a8, rfl, _⟩, _, _, rfl, ⟨a9, rfl, _⟩, _, _, rfl, ⟨a10, rfl, _⟩, _, _, rfl, ⟨a11, rfl, _⟩, _, _, rfl, ⟨a12, rfl, _⟩, rfl⟩ := h
  exact ⟨⟨a1, a2, a3, a4, a5, a6, a7, ⟨a8, a9, a10, a11, a12⟩⟩, rfl⟩
theorem shd_CS {v : IV} (h : Shd (.sl 4 [.i .i64, .i .i64, .i .i64, .i .i64]) v) : ∃ l : List CState, v = .vs 4 (l.map CState.c) := by
  refine shd_list (fun e h => ?_) h
  simp only [Shds, Shd] at h
  obtain ⟨_, _, rfl, ⟨a3, rfl, _⟩, _, _, rfl, ⟨a4, rfl, _⟩, _, _, rfl, ⟨a5, rfl, _⟩, _, _, rfl, ⟨a6, rfl, _⟩, rfl⟩ := h
  exact ⟨⟨a3, a4, a5, a6⟩, rfl⟩
theorem shd_b {v : IV} (h : Shd .b v) : ∃ x, v = .bool x := by simpa only [Shd] using h
theorem shd_i {k : IntKind} {v : IV} (h : Shd (.i k) v) : ∃ n, v = .int k n := by
  simp only [Shd] at h
  obtain ⟨n, rfl, _⟩ := h
  exact ⟨n, rfl⟩
end Go.Ideal
namespace Go.Ideal
set_option maxRecDepth 100000
def ctr (k : Int) (p : TState × Tenant) : Int :=
  (if active p.1 then (if p.1.home = k then p.2.load else 0) + (if p.1.target = k then p.2.load else 0) else 0) + (if p.1.placed then (if p.1.standby = k then p.2.shadow else 0) + (if p.1.next = k then p.2.shadow else 0) else 0)
def LoadOk (t : Tenant) : Prop := (0 ≤ t.load ∧ t.load ≤ 12) ∧ (0 ≤ t.shadow ∧ t.shadow ≤ 12)
theorem addAt_get {l : List Int} {i n : Int} {k : Nat} {v : Int} (h : l[k]? = some v) : (addAt l i n)[k]? = some (if i = k then IntKind.i64.wrap (v + n) else v) := by
  unfold addAt
  cases e : gt l i with
  | none =>
    have hk := (List.getElem?_eq_some_iff.1 h).1
    have : ¬ i = k := by rcases gt_none.1 e with h | h <;> omega
    simp [this, h]
  | some x =>
    obtain ⟨i0, hx⟩ := gt_some.1 e
    simp only
    by_cases hik : i = k
    · subst hik
      simp at hx
      rw [h] at hx
      cases hx
      have := (List.getElem?_eq_some_iff.1 h).1
      simp [this]
    · have : i.toNat ≠ k := by omega
      simp [hik, List.getElem?_set_ne this, h]
theorem addAt_getS {l : List Int} {i n : Int} {k : Nat} {v : Int} (h : l[k]? = some v) (hb : -1000000 ≤ v + n ∧ v + n ≤ 1000000) : (addAt l i n)[k]? = some (v + if i = k then n else 0) := by
  rw [addAt_get h]
  by_cases hik : i = k
  · rw [if_pos hik, if_pos hik, w64 (by omega) (by omega)]
  · rw [if_neg hik, if_neg hik]; simp
theorem ctr_bd {k : Int} {x : TState} {t : Tenant} (ht : LoadOk t) : 0 ≤ ctr k (x, t) ∧ ctr k (x, t) ≤ 48 := by
  obtain ⟨⟨a, b⟩, c, d⟩ := ht
  unfold ctr
  simp only
  constructor <;> (repeat' split) <;> omega
theorem bookT_get {acc : List Int} {k : Nat} {v : Int} {x : TState} {t : Tenant} (h : acc[k]? = some v) (hv : 0 ≤ v ∧ v ≤ 900000) (ht : LoadOk t) : (bookT acc (x, t))[k]? = some (v + ctr k (x, t)) := by
  obtain ⟨⟨a, b⟩, c, d⟩ := ht
  unfold bookT ctr
  simp only
  have h1 : ∃ w, (if active x = true then addAt (addAt acc x.home t.load) x.target t.load else acc)[k]? = some w ∧ w = v + (if active x = true then (if x.home = k then t.load else 0) + (if x.target = k then t.load else 0) else 0) ∧ 0 ≤ w ∧ w ≤ v + 24 := by
    by_cases ha : active x = true
    · simp only [ha, if_true]
      have e1 := addAt_getS (i := x.home) (n := t.load) h (by omega)
      have e2 := addAt_getS (i := x.target) (n := t.load) e1 (by split <;> omega)
      refine ⟨_, e2, by omega, ?_, ?_⟩ <;> (repeat' split) <;> omega
    · simp only [ha]
      exact ⟨v, h, by simp, by omega, by omega⟩
  obtain ⟨w, hw, he, w0, w1⟩ := h1
  by_cases hp : x.placed = true
  · simp only [hp, if_true] at *
    have e1 := addAt_getS (i := x.standby) (n := t.shadow) hw (by omega)
    have e2 := addAt_getS (i := x.next) (n := t.shadow) e1 (by split <;> omega)
    rw [e2, he]
    congr 1
    omega
  · simp only [hp, Bool.false_eq_true, if_false]
    rw [hw, he]
    simp
theorem fold_get {k : Nat} : ∀ (l : List (TState × Tenant)) (acc : List Int) (v : Int), acc[k]? = some v → 0 ≤ v → v + 48 * l.length ≤ 900000 → (∀ p ∈ l, LoadOk p.2) → (l.foldl bookT acc)[k]? = some (v + (l.map (ctr k)).sum) ∧ 0 ≤ (l.map (ctr k)).sum ∧ (l.map (ctr k)).sum ≤ 48 * l.length
  | [], acc, v, h, _, _, _ => by simp [h]
  | p :: l, acc, v, h, h0, h1, hl => by
    obtain ⟨x, t⟩ := p
    have ht : LoadOk t := hl (x, t) (by simp)
    have hb := ctr_bd (k := k) (x := x) ht
    have h1' : v + 48 * ((l.length : Int) + 1) ≤ 900000 := by simpa using h1
    have e := bookT_get h (x := x) (t := t) ⟨h0, by omega⟩ ht
    have := fold_get l (bookT acc (x, t)) (v + ctr k (x, t)) e (by omega) (by omega) (fun p hp => hl p (by simp [hp]))
    simp only [List.foldl_cons, List.map_cons, List.sum_cons, List.length_cons]
    rw [this.1]
    refine ⟨by congr 1; omega, by omega, by push_cast; omega⟩
theorem Made.loads {c : Config} (m : Made c) : ∀ t ∈ c.tenants, LoadOk t := fun t ht => by
  have := (m.tenants t ht).load; have := (m.tenants t ht).shadow
  exact ⟨by omega, by omega⟩
theorem zip_loads {c : Config} (m : Made c) (s : State) : ∀ p ∈ s.tenants.zip c.tenants, LoadOk p.2 := fun p hp => m.loads _ (List.of_mem_zip hp).2
theorem zeros_get {c : Config} {k : Nat} (hk : k < c.cells.length) : (zeros c)[k]? = some 0 := by simp [zeros, hk]
def bk (c : Config) (s : State) (k : Int) : Int := ((s.tenants.zip c.tenants).map (ctr k)).sum
theorem booked_get {c : Config} {s : State} {k : Nat} (m : Made c) (hk : k < c.cells.length) : (booked c s)[k]? = some (bk c s k) ∧ 0 ≤ bk c s k ∧ bk c s k ≤ 240 := by
  have hl : (s.tenants.zip c.tenants).length ≤ 5 := by have := m.tl; simp; omega
  have := fold_get (k := k) (s.tenants.zip c.tenants) (zeros c) 0 (zeros_get hk) (by omega) (by omega) (zip_loads m s)
  unfold booked bk
  rw [this.1]
  refine ⟨by simp, this.2.1, by omega⟩
theorem partB_get {c : Config} {s : State} {i k : Nat} (m : Made c) (hk : k < c.cells.length) : (partB c s bookT i)[k]? = some (((s.tenants.zip c.tenants).take i).map (ctr k)).sum ∧ 0 ≤ (((s.tenants.zip c.tenants).take i).map (ctr k)).sum ∧ (((s.tenants.zip c.tenants).take i).map (ctr k)).sum ≤ 240 := by
  have hl : ((s.tenants.zip c.tenants).take i).length ≤ 5 := by have := m.tl; simp; omega
  have := fold_get (k := k) ((s.tenants.zip c.tenants).take i) (zeros c) 0 (zeros_get hk) (by omega) (by omega) (fun p hp => zip_loads m s p (List.mem_of_mem_take hp))
  unfold partB
  rw [this.1]
  refine ⟨by simp, this.2.1, by omega⟩
def eT : TState := ⟨false, false, -1, -1, -1, -1, 0, ⟨-1, 0, 0, 0, 0⟩⟩
theorem ctr_eT (k : Int) (t : Tenant) : ctr k (eT, t) = 0 := by simp [ctr, eT, active]
theorem sum_eT (k : Int) : ∀ (n : Nat) (ts : List Tenant), (((List.replicate n eT).zip ts).map (ctr k)).sum = 0
  | 0, _ => by simp
  | n + 1, [] => by simp
  | n + 1, t :: ts => by simp [List.replicate_succ, ctr_eT, sum_eT k n ts]
theorem sum_one (k : Int) (x : TState) : ∀ (n i : Nat) (ts : List Tenant) (t : Tenant), i < n → ts[i]? = some t → ((((List.replicate n eT).set i x).zip ts).map (ctr k)).sum = ctr k (x, t)
  | 0, _, _, _, h, _ => by omega
  | n + 1, i, [], _, _, h => by simp at h
  | n + 1, 0, t' :: ts, t, _, h => by
    simp at h
    subst h
    simp [List.replicate_succ, sum_eT]
  | n + 1, i + 1, t' :: ts, t, h, h2 => by
    simp only [List.getElem?_cons_succ] at h2
    simp [List.replicate_succ, ctr_eT, sum_one k x n i ts t (by omega) h2]
theorem sum_take (k : Int) {l : List (TState × Tenant)} {i : Nat} {p : TState × Tenant} (h : l[i]? = some p) : ((l.take (i + 1)).map (ctr k)).sum = ((l.take i).map (ctr k)).sum + ctr k p := by
  rw [List.take_add_one, h]
  simp
end Go.Ideal
namespace Go.Ideal
open Go.Proofs
set_option maxRecDepth 100000
theorem killB_no (h : Heap) : killB (fun _ => false) h = h := by
  apply List.ext_getElem?
  intro i
  rw [killB_get]
  cases h[i]? <;> rfl
theorem FunQ.nil {P : Program} {f : FuncId} {args args2 : List IV} {Q : IV → Prop} (hf : FunQ P f args2 Q) (hz : ∀ h, Fzs h (fun _ => false) args2 args) : FunQ P f args Q := by
  intro h K k
  refine hf.give (fun _ => false) (hz h) fun r hr => ?_
  rw [killB_no]
  exact k r hr
def oneS (s : State) (i : Nat) (x : TState) : State := { s with tenants := (List.replicate s.tenants.length eT).set i x }
theorem booked_one {c : Config} {s : State} {i k : Nat} {x : TState} {t : Tenant} (m : Made c) (hs : s.tenants.length = c.tenants.length) (hk : k < c.cells.length) (hi : i < s.tenants.length) (ht : c.tenants[i]? = some t) : (booked c (oneS s i x))[k]? = some (ctr k (x, t)) := by
  rw [(booked_get m hk).1]
  unfold bk oneS
  rw [sum_one k x _ i _ t hi ht]
section
variable {l : List Int} {t : List TState} {wild : Bool} {c : Config} {s : State} {h0 : Heap} {b7 b8 : Nat}
abbrev AddK (h0 : Heap) : KT := Ret (fun x => x = .bool true) h0
theorem adds_l3 {x10 : IV} {sv bv : IV} {old tgt bs : List Int} (ho : old.length = c.cells.length) (hg : tgt.length = c.cells.length) (hb : bs.length = c.cells.length) (hc : c.cells.length ≤ 1000) (hadd : ∀ (k : Nat) (u w : Int), old[k]? = some u → bs[k]? = some w → tgt[k]? = some (u + w) ∧ -1000000 ≤ u + w ∧ u + w ≤ 1000000)
    {rs : List PT} {Lb : PT} (lb : Sl 1 Z0 bv (ints bs) Lb) (fin : ∀ L h, Sl 1 Z0 sv (ints tgt) L → Own h0 (L :: Lb :: rs) h → ZG.j15 (AddK h0) (.ptr b7 0 0) (.ptr b8 0 0) sv x10 h) :
    ∀ (m k : Nat) (L : PT) (h : Heap), k + m = c.cells.length → Sl 1 Z0 sv (ints (tgt.take k ++ old.drop k)) L → Own h0 (L :: Lb :: rs) h → ZG.l3 (AddK h0) (.ptr b7 0 0) (.ptr b8 0 0) sv x10 bv (.n k) h := by
  intro m
  induction m with
  | zero =>
    intro k L h hk ls S
    refine ZG.l3_round ?_
    have hl : (tgt.take k ++ old.drop k).length = c.cells.length := by simp; omega
    have hlt : ¬ (k : Int) < c.cells.length := by omega
    try simp +contextual (disch := omega) [ZG.b3g, ls.len Z1K, hl, hlt]
    refine fin L h ?_ S
    rw [List.take_of_length_le (by omega), List.drop_eq_nil_of_le (by omega), List.append_nil] at ls
    exact ls
  | succ m ih =>
    intro k L h hk ls S
    refine ZG.l3_round ?_
    have hl : (tgt.take k ++ old.drop k).length = c.cells.length := by simp; omega
    have hlt : (k : Int) < c.cells.length := by omega
    have hlt' : (k : Int) < bs.length := by omega
    obtain ⟨u, hu⟩ : ∃ u, old[k]? = some u := ⟨_, List.getElem?_eq_getElem (by omega)⟩
    obtain ⟨w, hw⟩ : ∃ w, bs[k]? = some w := ⟨_, List.getElem?_eq_getElem (by omega)⟩
    obtain ⟨hs, w1, w2⟩ := hadd k u w hu hw
    have hu' : (tgt.take k ++ old.drop k)[k]? = some u := by
      rw [List.getElem?_append_right (by simp; omega)]
      simp
      rw [show k - min k tgt.length = 0 by omega]
      simpa using hu
    try simp +contextual (disch := omega) [ZG.b3g, ls.len Z1K, lb.len Z1K, hl, hlt, hlt', hb]
    obtain ⟨bs1, rfl, rfl, _⟩ := ls.at_ (ints_get hu')
    obtain ⟨bb, rfl, rfl, _⟩ := lb.at_ (ints_get hw)
    try (have G := S.facts; simp only [factsL, factsP, tp, List.cons_append, List.nil_append, and_true, true_and] at G; simp +contextual (disch := omega) [-getElem?_pos, ld_pb, ix_sb, ix_vs, G, Zb, ZG.j13g, ldB_gen, ints_get hu', ints_get hw, hl, hb, hlt, w64])
    refine S.seM (f := fun x => [.int .i64 x]) (y := u) (y' := u + w) hu' rfl (by simp) (by simp) (by simp [oneI]) rfl fun h1 S1 => ?_
    try simp +contextual (disch := omega) [ZG.j14g, w64]
    have q := ih (k + 1) _ h1 (by omega) ?_ S1
    · simpa [hl, hb] using q
    have e : (tgt.take k ++ old.drop k).set k (u + w) = tgt.take (k + 1) ++ old.drop (k + 1) := by
      apply List.ext_getElem?
      intro j
      by_cases hj : j = k
      · subst hj
        rw [List.getElem?_set_self (by omega), List.getElem?_append_left (by simp; omega), List.getElem?_take_of_lt (by omega), hs]
      · rw [List.getElem?_set_ne (fun e => hj e.symm)]
        rcases Nat.lt_or_ge j k with h | h
        · rw [List.getElem?_append_left (by simp; omega), List.getElem?_append_left (by simp; omega), List.getElem?_take_of_lt (by omega), List.getElem?_take_of_lt (by omega)]
        · rw [List.getElem?_append_right (by simp; omega), List.getElem?_append_right (by simp; omega)]
          simp
          congr 1
          omega
    have := Sl.mk 1 Z0 bs1 (ints (tgt.take (k + 1) ++ old.drop (k + 1)))
    rw [e]
    simpa [hl, ints, show min (k + 1) tgt.length + (old.length - (k + 1)) = c.cells.length by omega, show min k tgt.length + (old.length - k) = c.cells.length by omega] using this
theorem fz_half {s : State} {a : IV} {L1 : PT} {h : Heap} {rs : List PT} (l1 : Sl 12 Za a (s.tenants.map TState.c) L1) (S : Own h0 rs h) (m1 : L1 ∈ rs) : Fz h (geB h0.length) s.v (.agg (svc s a (.vs 4 (s.cells.map CState.c)))) := by
  simp only [Fz, State.c, svc]
  refine ⟨_, rfl, ?_⟩
  exact Fzs.cons (by simp [Fz]) (Fzs.cons (by simp [Fz]) (Fzs.cons (l1.fzm S m1 (TState.bels 0 _)) (Fzs.cons (Fz.refl _ _ _ (by simp [Bel])) (Fzs.cons (by simp [Fz]) (Fzs.cons (by simp [Fz]) (Fzs.cons (by simp [Fz]) (Fzs.cons (by simp [Fz]) (Fzs.nil _ _))))))))
def zT : TState := ⟨false, false, 0, 0, 0, 0, 0, ⟨0, 0, 0, 0, 0⟩⟩
abbrev AddB (c : Config) (s : State) (b7 b8 : Nat) : List PT := [(b8, some ⟨8, Z3, [s.c]⟩)] :: [(b7, some ⟨10, Z6, [c.c]⟩)] :: []
theorem adds_l1 (ms : MadeS wild c s) (sv : IV) : ∀ (m i : Nat) (L : PT) (h : Heap), i + m = s.tenants.length → Sl 1 Z0 sv (ints (partB c s bookT i)) L → Own h0 (L :: AddB c s b7 b8) h →
    ZG.l1 (AddK h0) (.ptr b7 0 0) (.ptr b8 0 0) sv (.n i) h := by
  have mk := ms.made
  have tn := ms.fits.tn
  have hm := small_of mk ms.fits
  have hcl := mk.cl
  have htl := mk.tl
  intro m
  induction m with
  | zero =>
    intro i L h hi ls S
    refine ZG.l1_round ?_
    have hlt : ¬ (i : Int) < s.tenants.length := by omega
    try (have G := S.facts; simp only [factsL, factsP, tp, List.cons_append, List.nil_append, and_true, true_and] at G; simp +contextual (disch := omega) [-getElem?_pos, ld_pb, ix_sb, ix_vs, G, Zb, ZG.b1g, hlt, ZG.j16])
    refine Z1u.call ?_
    try (have G := S.facts; simp only [factsL, factsP, tp, List.cons_append, List.nil_append, and_true, true_and] at G; simp +contextual (disch := omega) [-getElem?_pos, ld_pb, ix_sb, ix_vs, G, Zb, ])
    first | refine (Z22 hm).call ?_ | refine callB_fun (fun _ => Z22 hm) ?_
    try (have G := S.facts; simp only [factsL, factsP, tp, List.cons_append, List.nil_append, and_true, true_and] at G; simp +contextual (disch := omega) [-getElem?_pos, ld_pb, ix_sb, ix_vs, G, Zb, ])
    have hp : partB c s bookT i = booked c s := by
      have := partB_all (c := c) (s := s) (f := bookT)
      rw [show i = min s.tenants.length c.tenants.length by omega]; exact this
    rw [hp] at ls
    first | refine Fun.lend (args2 := [.vs 1 (ints (booked c s)), .vs 1 (ints (booked c s))]) (Z1k _ _ (by simp; omega)) rfl (B := geB h0.length) (Fzs.cons (Fz.refl _ _ _ (by simp [Bel])) (Fzs.cons (ls.fz S (ls.geB S) (Fzss.refl _ _ _ (by simp))) (Fzs.nil _ _))) ?_ | refine callB_lend (args2 := [.vs 1 (ints (booked c s)), .vs 1 (ints (booked c s))]) (fun _ => Z1k _ _ (by simp; omega)) rfl (B := geB h0.length) (Fzs.cons (Fz.refl _ _ _ (by simp [Bel])) (Fzs.cons (ls.fz S (ls.geB S) (Fzss.refl _ _ _ (by simp))) (Fzs.nil _ _))) ?_
    try (have G := S.facts; simp only [factsL, factsP, tp, List.cons_append, List.nil_append, and_true, true_and] at G; simp +contextual (disch := omega) [-getElem?_pos, ld_pb, ix_sb, ix_vs, G, Zb, ])
    exact Ret.val S (by simp [Bel]) (by simp)
  | succ m ih =>
    intro i L h hi ls S
    refine ZG.l1_round ?_
    have hlt : (i : Int) < s.tenants.length := by omega
    obtain ⟨x, hx⟩ : ∃ x, s.tenants[i]? = some x := ⟨_, List.getElem?_eq_getElem (by omega)⟩
    obtain ⟨t, ht⟩ : ∃ t, c.tenants[i]? = some t := ⟨_, List.getElem?_eq_getElem (by omega)⟩
    try (have G := S.facts; simp only [factsL, factsP, tp, List.cons_append, List.nil_append, and_true, true_and] at G; simp +contextual (disch := omega) [-getElem?_pos, ld_pb, ix_sb, ix_vs, G, Zb, ZG.b1g, hlt, ZG.j5g])
    refine S.alloc ZH fun b11 h1 S1 => ?_
    try simp +contextual (disch := omega)
    refine S1.pu0 (new := svc s (.vs 12 (s.tenants.map TState.c)) (.vs 4 (s.cells.map CState.c))) rfl (by simp) rfl rfl fun h2 S2 => ?_
    try (have G := S2.facts; simp only [factsL, factsP, tp, List.cons_append, List.nil_append, and_true, true_and] at G; simp +contextual (disch := omega) [-getElem?_pos, ld_pb, ix_sb, ix_vs, G, Zb, ZG.j6g])
    refine Z5l S2 (by omega) (by omega) fun a La h3 la S3 => ?_
    try simp +contextual (disch := omega)
    refine S3.st1 (o := 2) (new := [a]) la.one.1 (by simp) (by simp) (by simp [la.one.2]) fun h4 S4 => ?_
    have la' : Sl 12 Za a ((List.replicate s.tenants.length zT).map TState.c) La := by simpa [zT, TState.c] using la
    obtain ⟨bt, rfl, rfl, _⟩ := la'.at_ (i := i) (c := zT.c) (by simp [show i < s.tenants.length by omega])
    simp only [List.length_map, List.length_replicate, svc_st2] at S4
    have hE : Zo PP Za [(2, .n (-1)), (3, .n (-1)), (4, .n (-1)), (5, .n (-1)), (7, (Window.mk (-1) 0 0 0 0).v)] = some eT.v := by simp only [Zo, Z4e, Z1D]; rfl
    have hW : Zo PP Zu [(0, .n (-1))] = some (Window.mk (-1) 0 0 0 0).v := by simp only [Zo, Z3f, Z20]; rfl
    have l2 : ∀ (m2 j : Nat) (ys : List TState) (h : Heap), j + m2 = s.tenants.length → ys.length = s.tenants.length → (∀ j', j' < j → ys[j']? = some eT) →
        Own h0 ([(bt, some ⟨12, Za, ys.map TState.c⟩)] :: [(b11, some ⟨8, Z3, [svc s (.sl bt 0 s.tenants.length) (.vs 4 (s.cells.map CState.c))]⟩)] :: L :: AddB c s b7 b8) h →
        ZG.l2 (AddK h0) (.ptr b7 0 0) (.ptr b8 0 0) sv (.n i) (.ptr b11 0 0) (.n j) h := by
      intro m2
      induction m2 with
      | zero =>
        intro j ys h hj hy hE2 S
        refine ZG.l2_round ?_
        have hlt2 : ¬ (j : Int) < s.tenants.length := by omega
        have hys : ys = List.replicate s.tenants.length eT := by
          apply List.ext_getElem?
          intro q
          by_cases hq : q < s.tenants.length
          · rw [hE2 q (by omega)]; simp [hq]
          · rw [List.getElem?_eq_none (by omega), List.getElem?_eq_none (by simp; omega)]
        subst hys
        try (have G := S.facts; simp only [factsL, factsP, tp, List.cons_append, List.nil_append, and_true, true_and] at G; simp +contextual (disch := omega) [-getElem?_pos, ld_pb, ix_sb, ix_vs, G, Zb, ZG.b2g, hlt2])
        try (have G := S.facts; simp only [factsL, factsP, tp, List.cons_append, List.nil_append, and_true, true_and] at G; simp +contextual (disch := omega) [-getElem?_pos, ld_pb, ix_sb, ix_vs, G, Zb, ZG.j10g, hx, hlt])
        refine S.seM (y := eT) (y' := x) (by simp [show i < s.tenants.length by omega]) rfl (by simp) (by simp) (by simp) (by simp) fun h1 S1 => ?_
        have l1' : Sl 12 Za (.sl bt 0 s.tenants.length) ((oneS s i x).tenants.map TState.c) [(bt, some ⟨12, Za, (oneS s i x).tenants.map TState.c⟩)] := by
          have := Sl.mk 12 Za bt ((oneS s i x).tenants.map TState.c)
          simpa [oneS] using this
        have hm1 : Small c (oneS s i x) := ⟨hm.cells, hm.zones, hm.tenants, by simpa [oneS] using hm.stenants, hm.scells⟩
        try (have G := S1.facts; simp only [factsL, factsP, tp, List.cons_append, List.nil_append, and_true, true_and] at G; simp +contextual (disch := omega) [-getElem?_pos, ld_pb, ix_sb, ix_vs, G, Zb, ZG.j11g])
        refine (Z4m hm1).lend (nofss_ints _) _ (Fzs.cons (Fz.refl _ _ _ (by simp [Bel])) (Fzs.cons (fz_half (s := oneS s i x) l1' S1 (by simp [oneS])) (Fzs.nil _ _))) S1 fun bv Lb h2 lb S2 => ?_
        try simp +contextual (disch := omega) [ZG.j12g]
        have hpl : ∀ i, (partB c s bookT i).length = c.cells.length := fun i => by unfold partB; rw [foldl_length _ (fun a p => by simp)]; simp [zeros]
        refine adds_l3 (old := partB c s bookT i) (tgt := partB c s bookT (i + 1)) (bs := booked c (oneS s i x)) (hpl _) (hpl _) (by simp) (by omega) ?_ lb ?_ c.cells.length 0 L h2 (by omega) (by simpa using ls) S2.m3.m1.b1
        · intro k u w hu hw
          have hk : k < c.cells.length := by have := (List.getElem?_eq_some_iff.1 hu).1; rw [hpl] at this; exact this
          have e1 := partB_get (i := i) (s := s) mk hk
          have e2 := partB_get (i := i + 1) (s := s) mk hk
          have e3 := booked_one (x := x) mk tn hk (by omega) ht
          have hz : (s.tenants.zip c.tenants)[i]? = some (x, t) := by rw [List.getElem?_zip_eq_some]; exact ⟨hx, ht⟩
          rw [sum_take _ hz] at e2
          rw [e1.1] at hu
          rw [e3] at hw
          cases hu; cases hw
          exact ⟨e2.1, by omega, by omega⟩
        · intro L' h3 ls' S3
          try simp +contextual (disch := omega) [ZG.j15g, w64]
          exact ih (i + 1) L' h3 (by omega) ls' (S3.dp1.dp1.dp1)
      | succ m2 ih2 =>
        intro j ys h hj hy hE2 S
        refine ZG.l2_round ?_
        have hlt2 : (j : Int) < s.tenants.length := by omega
        obtain ⟨y, hy2⟩ : ∃ y, ys[j]? = some y := ⟨_, List.getElem?_eq_getElem (by omega)⟩
        try (have G := S.facts; simp only [factsL, factsP, tp, List.cons_append, List.nil_append, and_true, true_and] at G; simp +contextual (disch := omega) [-getElem?_pos, ld_pb, ix_sb, ix_vs, G, Zb, ZG.b2g, hlt2])
        try (have G := S.facts; simp only [factsL, factsP, tp, List.cons_append, List.nil_append, and_true, true_and] at G; simp +contextual (disch := omega) [-getElem?_pos, ld_pb, ix_sb, ix_vs, G, Zb, ZG.j8g, hlt2, hW, hE])
        refine S.seM (y := y) (y' := eT) hy2 rfl (by simp) (by simp) (by simp) (by simp) fun h1 S1 => ?_
        try simp +contextual (disch := omega) [ZG.j9g, w64]
        refine ih2 (j + 1) _ h1 (by omega) (by simpa using hy) (fun j' hj' => ?_) S1
        by_cases he : j' = j
        · subst he; rw [List.getElem?_set_self (by omega)]
        · rw [List.getElem?_set_ne (fun e => he e.symm)]; exact hE2 j' (by omega)
    try simp +contextual (disch := omega) [ZG.j7g]
    exact l2 s.tenants.length 0 (List.replicate s.tenants.length zT) h4 (by omega) (by simp) (fun j' hj' => by omega) (by simpa [zT, TState.c] using S4)
end
theorem Z6j (l : List Int) (t : List TState) (wild : Bool) : Fun PP Z4s [.vs 1 (ints l), .vs 12 (t.map TState.c), .bool wild] (.bool true) := by
  refine FunQ.intro fun h0 => ZG.call ?_
  try simp +contextual (disch := omega) [ZG.eg, ZG.j1g]
  refine (Z2o l).call ?_
  try simp +contextual (disch := omega)
  refine bK'_b (fun hc => ?_) (fun hc => ?_)
  · refine Z1u.call ?_
    try simp +contextual (disch := omega)
    exact Ret.val (Own.start h0) (by simp [Bel]) rfl
  simp at hc
  obtain ⟨hl, ht⟩ := hc
  try simp +contextual (disch := omega) [ZG.j2g]
  refine (FunQ.nil (Z2t (x := []) (by omega) (by omega) (by simp) wild) (fun h => Fzs.cons (Fz.refl _ _ _ (by simp [Bel])) (Fzs.cons (Fz.refl _ _ _ (by simp [Bel])) (Fzs.cons (by simp [Fz]) (Fzs.cons (by simp [Fz]) (Fzs.nil _ _)))))).call fun r hr => ?_
  obtain ⟨c, s, rfl, ms⟩ := hr
  have hcl := ms.made.cl
  try simp +contextual (disch := omega)
  refine (Own.start h0).alloc Z1t fun b1 h1 S1 => ?_
  try simp +contextual (disch := omega)
  refine S1.alloc ZH fun b2 h2 S2 => ?_
  try simp +contextual (disch := omega)
  refine S2.pu1 (new := c.c) rfl (by simp) rfl (by simp) fun h3 S3 => ?_
  try simp +contextual (disch := omega)
  refine S3.pu0 (new := s.c) rfl (by simp) rfl (by simp) fun h4 S4 => ?_
  try (have G := S4.facts; simp only [factsL, factsP, tp, List.cons_append, List.nil_append, and_true, true_and] at G; simp +contextual (disch := omega) [-getElem?_pos, ld_pb, ix_sb, ix_vs, G, Zb, ZG.j3g])
  refine Z3c S4 (by omega) (by omega) fun a La h5 la S5 => ?_
  try simp +contextual (disch := omega) [ZG.j4g]
  refine adds_l1 ms a s.tenants.length 0 La h5 (by omega) ?_ S5
  rw [zeros_eq] at la
  simpa [partB] using la
end Go.Ideal
namespace Go.Ideal
set_option maxRecDepth 100000
theorem foldG {f : List Int → TState × Tenant → List Int} {g : TState × Tenant → Int} {k : Nat} (Q : TState × Tenant → Prop) (hf : ∀ acc v p, Q p → acc[k]? = some v → 0 ≤ v → v ≤ 900000 → (f acc p)[k]? = some (v + g p) ∧ 0 ≤ g p ∧ g p ≤ 48) :
    ∀ (l : List (TState × Tenant)) (acc : List Int) (v : Int), acc[k]? = some v → 0 ≤ v → v + 48 * l.length ≤ 900000 → (∀ p ∈ l, Q p) → (l.foldl f acc)[k]? = some (v + (l.map g).sum) ∧ 0 ≤ (l.map g).sum ∧ (l.map g).sum ≤ 48 * l.length
  | [], acc, v, h, _, _, _ => by simp [h]
  | p :: l, acc, v, h, h0, h1, hl => by
    have h1' : v + 48 * ((l.length : Int) + 1) ≤ 900000 := by simpa using h1
    obtain ⟨e, e0, e1⟩ := hf acc v p (hl p (by simp)) h h0 (by omega)
    have := foldG Q hf l (f acc p) (v + g p) e (by omega) (by omega) (fun p hp => hl p (by simp [hp]))
    simp only [List.foldl_cons, List.map_cons, List.sum_cons, List.length_cons]
    rw [this.1]
    refine ⟨by congr 1; omega, by omega, by push_cast; omega⟩
def extC (c : Config) (r k : Int) (p : TState × Tenant) : Int :=
  if (active p.1 && inside c p.1.home r && !inside c p.1.standby r) = true then (if p.1.standby = k then p.2.load - p.2.shadow else 0) else 0
theorem extra_get {c : Config} {s : State} {r : Int} {k : Nat} (m : Made c) (hk : k < c.cells.length) : (extra c s r)[k]? = some ((s.tenants.zip c.tenants).map (extC c r k)).sum ∧ 0 ≤ ((s.tenants.zip c.tenants).map (extC c r k)).sum ∧ ((s.tenants.zip c.tenants).map (extC c r k)).sum ≤ 240 := by
  have hl : (s.tenants.zip c.tenants).length ≤ 5 := by have := m.tl; simp; omega
  have := foldG (k := k) (f := extraT c r) (g := extC c r k) (fun p => LoadOk p.2 ∧ p.2.shadow ≤ p.2.load) (fun acc v p hp h h0 h1 => by
    obtain ⟨⟨⟨a, b⟩, c1, d⟩, e⟩ := hp
    unfold extraT extC
    by_cases hc : (active p.1 && inside c p.1.home r && !inside c p.1.standby r) = true
    · simp only [hc, if_true]
      have hw : IntKind.i64.wrap (p.2.load - p.2.shadow) = p.2.load - p.2.shadow := w64 (by omega) (by omega)
      rw [hw]
      refine ⟨addAt_getS h (by omega), ?_, ?_⟩ <;> split <;> omega
    · simp only [hc]
      exact ⟨by simpa using h, by simp, by simp⟩) (s.tenants.zip c.tenants) (zeros c) 0 (zeros_get hk) (by omega) (by omega) (fun p hp => ⟨zip_loads m s p hp, (m.tenants _ (List.of_mem_zip hp).2).shadow.2⟩)
  unfold extra
  rw [this.1]
  refine ⟨by simp, this.2.1, by omega⟩
def fled (c : Config) (r : Int) (x : TState) : TState := if lost c r x = true then { x with home := x.standby, standby := -1, next := -1, target := -1 } else x
theorem fled_ctr {c : Config} {r k : Int} {x : TState} {t : Tenant} (hr : RegOk c) (hh : x.home < c.cells.length) (hk : 0 ≤ k) (hn : ¬ regionOf c k = r) (ht : LoadOk t) (hs : t.shadow ≤ t.load) : ctr k (fled c r x, t) ≤ ctr k (x, t) + extC c r k (x, t) := by
  obtain ⟨⟨a, b⟩, c1, d⟩ := ht
  unfold fled
  by_cases hl : lost c r x = true
  · rw [if_pos hl]
    have hl2 := hl
    rw [lost_eq hr r x hh] at hl2
    simp only [Bool.and_eq_true] at hl2
    obtain ⟨ha, hi⟩ := hl2
    have ha' : (x.placed = true ∧ x.shed = false) := by simpa [active] using ha
    have hne : ¬ (-1 : Int) = k := by omega
    unfold ctr extC
    simp only [active, ha'.1, ha'.2, hi, hne, Bool.not_false, Bool.and_self, if_true, if_false]
    by_cases hst : x.standby = k
    · have : inside c x.standby r = false := by
        unfold inside
        rw [hst]
        simp [hn]
      simp only [hst, this, Bool.not_false, Bool.and_true, if_true, Bool.true_and]
      rw [hst] at this
      simp only [this, Bool.not_false, if_true]
      repeat' split
      all_goals omega
    · simp only [hst, if_false]
      repeat' split
      all_goals omega
  · rw [if_neg hl]
    have : 0 ≤ extC c r k (x, t) := by
      unfold extC
      simp only
      repeat' split
      all_goals omega
    omega
theorem sum_le {α : Type} {f g : α → Int} : ∀ {l : List α}, (∀ x ∈ l, f x ≤ g x) → (l.map f).sum ≤ (l.map g).sum
  | [], _ => by simp
  | x :: l, h => by
    have := sum_le (f := f) (g := g) (l := l) fun y hy => h y (by simp [hy])
    have := h x (by simp)
    simp only [List.map_cons, List.sum_cons]
    omega
theorem sum_add {α : Type} {f g : α → Int} : ∀ {l : List α}, (l.map fun x => f x + g x).sum = (l.map f).sum + (l.map g).sum
  | [] => by simp
  | x :: l => by
    simp only [List.map_cons, List.sum_cons, sum_add (l := l)]
    omega
theorem allN_at {n : Nat} {p : Nat → Bool} (h : allN n p = true) {i : Nat} (hi : i < n) : p i = true := by
  simp only [allN, List.all_eq_true, List.mem_range] at h
  exact h i hi
theorem headroom_lost {c : Config} {s : State} {r : Int} (hr : RegOk c) (f : Fits c s) (hh : headroom c s r = true) {x : TState} {i : Nat} (hx : s.tenants[i]? = some x) (hl : lost c r x = true) : 0 ≤ x.standby ∧ ¬ regionOf c x.standby = r := by
  unfold headroom at hh
  simp only [Bool.and_eq_true, List.all_eq_true] at hh
  have hi := (List.getElem?_eq_some_iff.1 hx).1
  obtain ⟨t, ht⟩ : ∃ t, c.tenants[i]? = some t := ⟨_, List.getElem?_eq_getElem (by rw [← f.tn]; exact hi)⟩
  have hz : (s.tenants.zip c.tenants)[i]? = some (x, t) := by rw [List.getElem?_zip_eq_some]; exact ⟨hx, ht⟩
  have g := hh.2.2 (x, t) (List.mem_of_getElem? hz)
  have hm := List.mem_of_getElem? hx
  rw [lost_eq hr r x (f.at_ x hm).1.2] at hl
  unfold goodT at g
  simp only [hl, Bool.true_and, Bool.not_not] at g
  unfold readyP at g
  split at g
  · rename_i y hy
    simp only [Bool.and_eq_true, Bool.not_eq_true', decide_eq_true_eq] at g
    refine ⟨(gt_lt hy).1, fun e => ?_⟩
    have h1 := g.1
    unfold inside at h1
    simp [e] at h1
    have := g.2.1.1.1
    omega
  · cases g
theorem failover_over {c : Config} {s : State} {r : Int} (m : Made c) (hr : RegOk c) (f : Fits c s) (hh : headroom c s r = true) : ∀ o ∈ over c { s with tenants := s.tenants.map (fled c r) }, regionOf c o = r := by
  intro o ho
  simp only [over, filt, List.mem_map, List.mem_filter, List.mem_range] at ho
  obtain ⟨k, ⟨hk, hp⟩, rfl⟩ := ho
  apply Classical.byContradiction
  intro hn
  obtain ⟨y, hy⟩ : ∃ y, c.cells[k]? = some y := ⟨_, List.getElem?_eq_getElem hk⟩
  have b' := booked_get (s := { s with tenants := s.tenants.map (fled c r) }) m hk
  have b := booked_get (s := s) m hk
  have e := extra_get (s := s) (r := r) m hk
  unfold overP at hp
  rw [hy, b'.1] at hp
  simp only [decide_eq_true_eq] at hp
  unfold headroom at hh
  simp only [Bool.and_eq_true] at hh
  have rm := allN_at hh.2.1 hk
  unfold roomP at rm
  rw [hy, b.1, e.1] at rm
  have hin : inside c k r = false := by unfold inside; simp [hn]
  simp only [hin, Bool.not_false, Bool.true_and, Bool.not_eq_true', decide_eq_false_iff_not] at rm
  rw [w64 (by omega) (by omega)] at rm
  have : bk c { s with tenants := s.tenants.map (fled c r) } k ≤ bk c s k + ((s.tenants.zip c.tenants).map (extC c r k)).sum := by
    unfold bk
    simp only
    rw [List.zip_map_left, List.map_map, ← sum_add]
    refine sum_le fun p hp => ?_
    obtain ⟨x, t⟩ := p
    have hz := List.of_mem_zip hp
    exact fled_ctr hr (f.at_ x hz.1).1.2 (by omega) hn (m.loads t hz.2) (m.tenants t hz.2).shadow.2
  omega
end Go.Ideal
namespace Go.Ideal
open Go.Proofs
set_option maxRecDepth 100000
theorem set_same {α : Type} {l : List α} {i : Nat} {x : α} (h : l[i]? = some x) : l.set i x = l := by
  have hi := (List.getElem?_eq_some_iff.1 h).1
  apply List.ext_getElem?
  intro j
  by_cases hj : j = i
  · subst hj; rw [List.getElem?_set_self hi, h]
  · rw [List.getElem?_set_ne (fun e => hj e.symm)]
section
variable {c : Config} {s : State} {h0 : Heap} {b11 b12 : Nat} {r : Int} {wild : Bool}
def part (c : Config) (r : Int) (s : State) (i : Nat) : State := { s with tenants := (s.tenants.take i).map (fled c r) ++ s.tenants.drop i }
theorem part_len (i : Nat) (hi : i ≤ s.tenants.length) : (part c r s i).tenants.length = s.tenants.length := by simp [part]; omega
theorem part_at {i : Nat} {x : TState} (hx : s.tenants[i]? = some x) : (part c r s i).tenants[i]? = some x := by
  have := (List.getElem?_eq_some_iff.1 hx).1
  simp only [part]
  rw [List.getElem?_append_right (by simp; omega)]
  simp
  rw [show i - min i s.tenants.length = 0 by omega]
  simpa using hx
theorem part_succ {i : Nat} {x : TState} (hx : s.tenants[i]? = some x) : (part c r s i).tenants.set i (fled c r x) = (part c r s (i + 1)).tenants := by
  have hi := (List.getElem?_eq_some_iff.1 hx).1
  simp only [part]
  apply List.ext_getElem?
  intro j
  by_cases hj : j = i
  · subst hj
    rw [List.getElem?_set_self (by simp; omega), List.getElem?_append_left (by simp; omega), List.getElem?_map, List.getElem?_take_of_lt (by omega), hx]
    rfl
  · rw [List.getElem?_set_ne (fun e => hj e.symm)]
    rcases Nat.lt_or_ge j i with h | h
    · rw [List.getElem?_append_left (by simp; omega), List.getElem?_append_left (by simp; omega), List.getElem?_map, List.getElem?_map, List.getElem?_take_of_lt (by omega), List.getElem?_take_of_lt (by omega)]
    · rw [List.getElem?_append_right (by simp; omega), List.getElem?_append_right (by simp; omega)]
      simp
      congr 1
      omega
abbrev FoK (h0 : Heap) : KT := Ret (fun x => x = .bool true) h0
theorem fail_l2 (hz : ZonesOk c) (ov : List Int) (hov : ∀ o ∈ ov, regionOf c o = r) (hl : ov.length ≤ 1000) {rs : List PT} {Lo : PT} {os : IV} (lo : Sl 1 Z0 os (ints ov) Lo) : ∀ (m i : Nat) (h : Heap), i + m = ov.length → Own h0 (Lo :: [(b11, some ⟨10, Z6, [c.c]⟩)] :: rs) h →
    ZM.l2 (FoK h0) (.n r) (.ptr b11 0 0) os (.n i) h := by
  intro m
  induction m with
  | zero =>
    intro i h hi S
    refine ZM.l2_round ?_
    have hlt : ¬ (i : Int) < ov.length := by omega
    try simp +contextual (disch := omega) [ZM.b2g, lo.len Z1K, hlt, ZM.j16]
    refine Z1u.call ?_
    try simp +contextual (disch := omega)
    exact Ret.val S (by simp [Bel]) rfl
  | succ m ih =>
    intro i h hi S
    refine ZM.l2_round ?_
    have hlt : (i : Int) < ov.length := by omega
    obtain ⟨o, ho⟩ : ∃ o, ov[i]? = some o := ⟨_, List.getElem?_eq_getElem (by omega)⟩
    try simp +contextual (disch := omega) [ZM.b2g, lo.len Z1K, hlt]
    obtain ⟨bo, rfl, rfl, _⟩ := lo.at_ (ints_get ho)
    try (have G := S.facts; simp only [factsL, factsP, tp, List.cons_append, List.nil_append, and_true, true_and] at G; simp +contextual (disch := omega) [-getElem?_pos, ld_pb, ix_sb, ix_vs, G, Zb, ZM.j14g, ldB_gen, ints_get ho, hlt])
    refine (Z1E hz o).call ?_
    try simp +contextual (disch := omega) [hov o (List.mem_of_getElem? ho)]
    try simp +contextual (disch := omega) [ZM.j15g, w64]
    have q := ih (i + 1) h (by omega) S
    simpa using q
theorem fail_l1 (ms : MadeS wild c s) (hh : headroom c s r = true) : ∀ (m i : Nat) (a : IV) (L : PT) (h : Heap), i + m = s.tenants.length → Sl 12 Za a ((part c r s i).tenants.map TState.c) L →
    Own h0 (L :: [(b12, some ⟨8, Z3, [svc s a (.vs 4 (s.cells.map CState.c))]⟩)] :: [(b11, some ⟨10, Z6, [c.c]⟩)] :: []) h →
    ZM.l1 (FoK h0) (.n r) (.ptr b11 0 0) (.ptr b12 0 0) (.n i) h := by
  have mk := ms.made
  have ft := ms.fits
  have hr := (mk.cfg ms.p).reg
  have htl := mk.tl
  have hcl := mk.cl
  have tn := ft.tn
  intro m
  induction m with
  | zero =>
    intro i a L h hi l S
    refine ZM.l1_round ?_
    have hlt : ¬ (i : Int) < s.tenants.length := by omega
    have hlen := part_len (c := c) (r := r) (s := s) i (by omega)
    try (have G := S.facts; simp only [factsL, factsP, tp, List.cons_append, List.nil_append, and_true, true_and] at G; simp +contextual (disch := omega) [-getElem?_pos, ld_pb, ix_sb, ix_vs, G, Zb, ZM.b1g, l.len Z29, hlen, hlt])
    have hp : part c r s i = { s with tenants := s.tenants.map (fled c r) } := by
      unfold part
      rw [List.take_of_length_le (by omega), List.drop_eq_nil_of_le (by omega), List.append_nil]
    rw [hp] at l
    have hm1 : Small c { s with tenants := s.tenants.map (fled c r) } := by
      have hm := small_of mk ft
      exact ⟨hm.cells, hm.zones, hm.tenants, by simpa using hm.stenants, hm.scells⟩
    try (have G := S.facts; simp only [factsL, factsP, tp, List.cons_append, List.nil_append, and_true, true_and] at G; simp +contextual (disch := omega) [-getElem?_pos, ld_pb, ix_sb, ix_vs, G, Zb, ZM.j12g])
    refine (Z4n hm1).lend (nofss_ints _) _ (Fzs.cons (Fz.refl _ _ _ (by simp [Bel])) (Fzs.cons (fz_half (s := { s with tenants := s.tenants.map (fled c r) }) l S (by simp)) (Fzs.nil _ _))) S fun os Lo h2 lo S2 => ?_
    try simp +contextual (disch := omega) [ZM.j13g]
    have hf := filt_length c.cells.length (overP c { s with tenants := s.tenants.map (fled c r) })
    exact fail_l2 hr.zones _ (failover_over mk hr ft hh) (by unfold over; omega) lo (over c { s with tenants := s.tenants.map (fled c r) }).length 0 h2 (by omega) (S2.dp2.swap.swap.dp1)
  | succ m ih =>
    intro i a L h hi l S
    refine ZM.l1_round ?_
    have hlt : (i : Int) < s.tenants.length := by omega
    have hlen := part_len (c := c) (r := r) (s := s) i (by omega)
    obtain ⟨x, hx⟩ : ∃ x, s.tenants[i]? = some x := ⟨_, List.getElem?_eq_getElem (by omega)⟩
    have hxp := part_at (c := c) (r := r) hx
    have hsucc := part_succ (c := c) (r := r) hx
    have hxm := List.mem_of_getElem? hx
    have hxr := (ft.at_ x hxm).1
    try (have G := S.facts; simp only [factsL, factsP, tp, List.cons_append, List.nil_append, and_true, true_and] at G; simp +contextual (disch := omega) [-getElem?_pos, ld_pb, ix_sb, ix_vs, G, Zb, ZM.b1g, l.len Z29, hlen, hlt])
    obtain ⟨bt, rfl, rfl, _⟩ := l.at_ (c := x.c) (i := i) (by simp [hxp])
    rw [List.length_map, hlen] at S
    try (have G := S.facts; simp only [factsL, factsP, tp, List.cons_append, List.nil_append, and_true, true_and] at G; simp +contextual (disch := omega) [-getElem?_pos, ld_pb, ix_sb, ix_vs, G, Zb, ZM.j7g, ldB_gen, hxp, hlt, hlen])
    have next : ∀ h y, fled c r x = y → Own h0 ([(bt, some ⟨12, Za, ((part c r s i).tenants.set i y).map TState.c⟩)] :: [(b12, some ⟨8, Z3, [svc s (.sl bt 0 s.tenants.length) (.vs 4 (s.cells.map CState.c))]⟩)] :: [(b11, some ⟨10, Z6, [c.c]⟩)] :: []) h →
        ZM.j11 (FoK h0) (.n r) (.ptr b11 0 0) (.ptr b12 0 0) (.n i) h := by
      intro h y hy S
      subst hy
      rw [hsucc] at S
      try simp +contextual (disch := omega) [ZM.j11g, w64]
      have hl2 := part_len (c := c) (r := r) (s := s) (i + 1) (by omega)
      refine ih (i + 1) (.sl bt 0 s.tenants.length) _ h (by omega) ?_ S
      have := Sl.mk 12 Za bt ((part c r s (i + 1)).tenants.map TState.c)
      simpa [hl2] using this
    have same : ∀ h, lost c r x = false → Own h0 ([(bt, some ⟨12, Za, (part c r s i).tenants.map TState.c⟩)] :: [(b12, some ⟨8, Z3, [svc s (.sl bt 0 s.tenants.length) (.vs 4 (s.cells.map CState.c))]⟩)] :: [(b11, some ⟨10, Z6, [c.c]⟩)] :: []) h →
        ZM.j11 (FoK h0) (.n r) (.ptr b11 0 0) (.ptr b12 0 0) (.n i) h := by
      intro h hl S
      refine next h x (by simp [fled, hl]) ?_
      rw [set_same hxp]
      exact S
    have hlost : lost c r x = (x.placed && !x.shed && decide (0 ≤ x.home) && decide (regionOf c x.home = r)) := rfl
    try (have G := S.facts; simp only [factsL, factsP, tp, List.cons_append, List.nil_append, and_true, true_and] at G; simp +contextual (disch := omega) [-getElem?_pos, ld_pb, ix_sb, ix_vs, G, Zb, ZM.j8g, ldB_gen, hxp])
    refine callB_fun (fun _ => Z1E hr.zones x.home) ?_
    try (have G := S.facts; simp only [factsL, factsP, tp, List.cons_append, List.nil_append, and_true, true_and] at G; simp +contextual (disch := omega) [-getElem?_pos, ld_pb, ix_sb, ix_vs, G, Zb, ])
    refine bK'_b (fun hc => ?_) (fun hc => ?_)
    · refine same h ?_ S
      rw [hlost]
      revert hc
      cases x.placed <;> cases x.shed <;> simp
      intro hc h0 h1
      rcases hc with hc | hc
      · omega
      · exact hc h1
    · have hl : lost c r x = true := by
        rw [hlost]
        revert hc
        cases x.placed <;> cases x.shed <;> simp
      obtain ⟨s0, s1⟩ := headroom_lost hr ft hh hx hl
      have s0' : ¬ x.standby < 0 := by omega
      try (have G := S.facts; simp only [factsL, factsP, tp, List.cons_append, List.nil_append, and_true, true_and] at G; simp +contextual (disch := omega) [-getElem?_pos, ld_pb, ix_sb, ix_vs, G, Zb, ZM.j9g, ldB_gen, hxp, s0'])
      refine (Z1E hr.zones x.standby).call ?_
      try simp +contextual (disch := omega) [s1]
      try (have G := S.facts; simp only [factsL, factsP, tp, List.cons_append, List.nil_append, and_true, true_and] at G; simp +contextual (disch := omega) [-getElem?_pos, ld_pb, ix_sb, ix_vs, G, Zb, ZM.j10g, ldB_gen, hxp])
      have at_ : ∀ y : TState, ((part c r s i).tenants.set i y)[i]? = some y := fun y => by rw [List.getElem?_set_self]; rw [hlen]; omega
      refine S.seM (y := x) (y' := { x with home := x.standby }) hxp rfl (by simp) (by simp) (by simp [oneI]) rfl fun h1 S1 => ?_
      try (have G := S1.facts; simp only [factsL, factsP, tp, List.cons_append, List.nil_append, and_true, true_and] at G; simp +contextual (disch := omega) [-getElem?_pos, ld_pb, ix_sb, ix_vs, G, Zb, ])
      refine S1.seM (y := { x with home := x.standby }) (y' := { x with home := x.standby, standby := -1 }) (at_ _) rfl (by simp) (by simp) (by simp [oneI]) rfl fun h2 S2 => ?_
      rw [set_set] at S2
      try (have G := S2.facts; simp only [factsL, factsP, tp, List.cons_append, List.nil_append, and_true, true_and] at G; simp +contextual (disch := omega) [-getElem?_pos, ld_pb, ix_sb, ix_vs, G, Zb, ])
      refine S2.seM (y := { x with home := x.standby, standby := -1 }) (y' := { x with home := x.standby, standby := -1, next := -1 }) (at_ _) rfl (by simp) (by simp) (by simp [oneI]) rfl fun h3 S3 => ?_
      rw [set_set] at S3
      try (have G := S3.facts; simp only [factsL, factsP, tp, List.cons_append, List.nil_append, and_true, true_and] at G; simp +contextual (disch := omega) [-getElem?_pos, ld_pb, ix_sb, ix_vs, G, Zb, ])
      refine S3.seM (y := { x with home := x.standby, standby := -1, next := -1 }) (y' := { x with home := x.standby, standby := -1, next := -1, target := -1 }) (at_ _) rfl (by simp) (by simp) (by simp [oneI]) rfl fun h4 S4 => ?_
      rw [set_set] at S4
      exact next h4 { x with home := x.standby, standby := -1, next := -1, target := -1 } (by simp [fled, hl]) S4
end
theorem Z6k (l : List Int) (t : List TState) (x : List CState) (wild : Bool) (region : Int) :
    Fun PP Z4t [.vs 1 (ints l), .vs 12 (t.map TState.c), .vs 4 (x.map CState.c), .bool wild, .n region] (.bool true) := by
  refine FunQ.intro fun h0 => ZM.call ?_
  try simp +contextual (disch := omega) [ZM.eg, ZM.j1g]
  refine (Z2o l).call ?_
  try simp +contextual (disch := omega)
  refine bK'_b (fun hc => ?_) (fun hc => ?_)
  · refine Z1u.call ?_
    try simp +contextual (disch := omega)
    exact Ret.val (Own.start h0) (by simp [Bel]) rfl
  simp at hc
  obtain ⟨⟨hl, ht⟩, hx⟩ := hc
  try simp +contextual (disch := omega) [ZM.j2g]
  refine (Z2t (by omega) (by omega) (by omega) wild).call fun r hr => ?_
  obtain ⟨c, s, rfl, ms⟩ := hr
  have hm := small_of ms.made ms.fits
  have ft := ms.fits
  have reg := ms.made.regions
  have hreg := (ms.made.cfg ms.p).reg
  have htl := ms.made.tl
  have tn := ft.tn
  try simp +contextual (disch := omega)
  refine (Own.start h0).alloc Z1t fun b1 h1 S1 => ?_
  try simp +contextual (disch := omega)
  refine S1.alloc ZH fun b2 h2 S2 => ?_
  try simp +contextual (disch := omega)
  refine S2.pu1 (new := c.c) rfl (by simp) rfl (by simp) fun h3 S3 => ?_
  try simp +contextual (disch := omega)
  refine S3.pu0 (new := svc s (.vs 12 (s.tenants.map TState.c)) (.vs 4 (s.cells.map CState.c))) rfl (by simp) rfl rfl fun h4 S4 => ?_
  try (have G := S4.facts; simp only [factsL, factsP, tp, List.cons_append, List.nil_append, and_true, true_and] at G; simp +contextual (disch := omega) [-getElem?_pos, ld_pb, ix_sb, ix_vs, G, Zb, ZM.j3g])
  refine (Z2b (by omega) (by omega)).call ?_
  try (have G := S4.facts; simp only [factsL, factsP, tp, List.cons_append, List.nil_append, and_true, true_and] at G; simp +contextual (disch := omega) [-getElem?_pos, ld_pb, ix_sb, ix_vs, G, Zb, ZM.j4g])
  have e1 : (IV.agg (svc s (.vs 12 (s.tenants.map TState.c)) (.vs 4 (s.cells.map CState.c)))) = s.v := rfl
  rw [e1]
  refine (Z2d hm hreg (region % c.regions)).call ?_
  cases hh : headroom c s (region % c.regions) with
  | false =>
    try simp +contextual (disch := omega)
    refine Z1u.call ?_
    try simp +contextual (disch := omega)
    exact Ret.val S4 (by simp [Bel]) rfl
  | true =>
    try simp +contextual (disch := omega) [ZM.j5g]
    refine S4.lit0 (n := 12) (e := Za) rfl Z1D Z4d rfl fun a La h5 la S5 => ?_
    try (have G := S5.facts; simp only [factsL, factsP, tp, List.cons_append, List.nil_append, and_true, true_and] at G; simp +contextual (disch := omega) [-getElem?_pos, ld_pb, ix_sb, ix_vs, G, Zb, ])
    refine Z4S la S5 (xs := s.tenants.map TState.c) (by simp [srcI]) (by simp) (by simp; omega) fun a2 L2 h6 l2 S6 => ?_
    try simp +contextual (disch := omega)
    refine S6.st1 (o := 2) (new := [a2]) l2.one.1 (by simp) (by simp) (by simp [l2.one.2]) fun h7 S7 => ?_
    try simp +contextual (disch := omega) [ZM.j6g]
    refine fail_l1 ms hh s.tenants.length 0 a2 L2 h7 (by omega) ?_ S7
    simpa [part] using l2
end Go.Ideal
namespace Go.Ideal
set_option maxRecDepth 100000
structure LT (tick : Int) (x : TState) : Prop where
  win : tick < x.window.till → x.placed = true ∧ x.shed = false ∧ x.window.cell = x.home
  hs : x.placed = true → x.home ≠ x.standby ∧ x.home ≠ x.next
  tn : 0 ≤ x.target → x.target ≠ x.next
  un : x.placed = false → x.standby = -1 ∧ x.next = -1 ∧ x.target = -1 ∧ x.shed = false
structure LInv (c : Config) (s : State) : Prop where
  ten : ∀ x ∈ s.tenants, LT s.tick x
  room : over c s = []
theorem LT.later {t t' : Int} {x : TState} (h : LT t x) (ht : t ≤ t') : LT t' x := ⟨fun k => h.win (by omega), h.hs, h.tn, h.un⟩
theorem over_nil {c : Config} {s : State} (m : Made c) : over c s = [] ↔ ∀ (k : Nat) y, c.cells[k]? = some y → bk c s k ≤ y.capacity := by
  have hp : ∀ (k : Nat) y, c.cells[k]? = some y → overP c s k = decide (y.capacity < bk c s k) := fun k y hy => by
    have hk := (List.getElem?_eq_some_iff.1 hy).1
    unfold overP
    rw [hy, (booked_get m hk).1]
  unfold over filt
  rw [List.map_eq_nil_iff, List.filter_eq_nil_iff]
  constructor
  · intro h k y hy
    have hk := (List.getElem?_eq_some_iff.1 hy).1
    have := h k (List.mem_range.2 hk)
    rw [hp k y hy] at this
    simpa using this
  · intro h k hk
    obtain ⟨y, hy⟩ : ∃ y, c.cells[k]? = some y := ⟨_, List.getElem?_eq_getElem (List.mem_range.1 hk)⟩
    rw [hp k y hy]
    have := h k y hy
    simpa using this
theorem sum_set {f : TState × Tenant → Int} {x x' : TState} : ∀ (xs : List TState) (ts : List Tenant) (i : Nat), xs[i]? = some x → (∀ t ∈ ts, f (x', t) ≤ f (x, t)) → (((xs.set i x').zip ts).map f).sum ≤ ((xs.zip ts).map f).sum
  | [], _, _, h, _ => by simp at h
  | y :: xs, [], i, _, _ => by simp
  | y :: xs, t :: ts, 0, h, k => by
    simp at h
    subst h
    have := k t (by simp)
    simp
    omega
  | y :: xs, t :: ts, i + 1, h, k => by
    simp only [List.getElem?_cons_succ] at h
    have := sum_set (f := f) xs ts i h fun t ht => k t (by simp [ht])
    simp
    omega
theorem over_set {c : Config} {s : State} {i : Int} {x x' : TState} (m : Made c) (hx : gt s.tenants i = some x) (hc : ∀ t, LoadOk t → ∀ k : Nat, ctr k (x', t) ≤ ctr k (x, t)) (h : over c s = []) : over c (setT s i x') = [] := by
  rw [over_nil m] at h ⊢
  intro k y hy
  have := h k y hy
  have e : bk c (setT s i x') k ≤ bk c s k := sum_set (f := ctr k) s.tenants c.tenants i.toNat (gt_some.1 hx).2 fun t ht => hc t (m.loads t ht) k
  omega
theorem fit_over {c : Config} {s s' : State} (h : fitS c s = (s', 0)) : s' = s ∧ over c s' = [] := by
  unfold fitS at h
  split at h
  · cases h; rename_i h; exact ⟨rfl, h⟩
  · simp [err] at h
theorem ten_set {tick : Int} {s : State} {i : Int} {x' : TState} (h : ∀ x ∈ s.tenants, LT tick x) (hx : LT tick x') : ∀ x ∈ (setT s i x').tenants, LT tick x := fun y hy => by
  rcases List.mem_or_eq_of_mem_set hy with h1 | h1
  · exact h y h1
  · subst h1; exact hx
theorem together_self {c : Config} {a : Int} (h : 0 ≤ a) : together c a a = true := by simp [together, apart, h]
set_option maxHeartbeats 2000000 in
theorem linv_act {c : Config} {s s' : State} {e : Entry} (m : Made c) (hi : Inv c s) (L : LInv c s) (ht : s.tick = e.tick) (hv : validR c e = true) (h : actS c s e = (s', 0)) : LInv c s' := by
  have R := right_of hv
  have gtT : e.kind ≤ 8 → gt s.tenants e.tenant = some (tn s e.tenant) ∧ LT e.tick (tn s e.tenant) ∧ TOk c (tn s e.tenant) := fun hk => by
    have := R.tenant hk; have := hi.tl
    obtain ⟨x, hx⟩ : ∃ x, s.tenants[e.tenant.toNat]? = some x := ⟨_, List.getElem?_eq_getElem (by omega)⟩
    have hg : gt s.tenants e.tenant = some x := gt_some.2 ⟨by omega, hx⟩
    have e1 : tn s e.tenant = x := by simp [tn, hg]
    rw [e1]
    exact ⟨hg, ht ▸ L.ten x (List.mem_of_getElem? hx), hi.ten x (List.mem_of_getElem? hx)⟩
  have Lt := L.ten
  rw [ht] at Lt
  have fin : ∀ x', LT e.tick x' → fitS c (setT s e.tenant x') = (s', 0) → LInv c s' := fun x' hx' hf => by
    obtain ⟨rfl, ho⟩ := fit_over hf
    exact ⟨by show ∀ x ∈ _, LT s.tick x; rw [ht]; exact ten_set Lt hx', ho⟩
  have put : ∀ x', gt s.tenants e.tenant = some (tn s e.tenant) → LT e.tick x' → (∀ t, LoadOk t → ∀ k : Nat, ctr k (x', t) ≤ ctr k (tn s e.tenant, t)) → LInv c (setT s e.tenant x') := fun x' hx hx' hc =>
    ⟨by show ∀ x ∈ _, LT s.tick x; rw [ht]; exact ten_set Lt hx', over_set m hx hc L.room⟩
  unfold actS at h
  by_cases k1 : e.kind = 1
  · rw [if_pos k1] at h
    obtain ⟨hg, t, tk⟩ := gtT (by omega)
    have rc := R.cell (by omega); have ro := R.other k1
    unfold placeS at h
    split at h
    · simp [err] at h
    rename_i hp
    split at h
    · simp [err] at h
    split at h
    · simp [err] at h
    split at h
    · simp [err] at h
    rename_i htog
    have hp' : (tn s e.tenant).placed = false := by simpa using hp
    obtain ⟨u1, u2, u3, u4⟩ := t.un hp'
    refine fin _ ?_ h
    refine ⟨fun k => ?_, fun _ => ?_, fun k => ?_, fun k => by simp at k⟩
    · have := t.win k
      rw [hp'] at this
      simp at this
    · simp only
      refine ⟨fun e2 => ?_, by omega⟩
      apply htog
      rw [← e2, together_self (by omega)]
      have : decide (0 ≤ e.cell) = true := by simp; omega
      simp [this]
    · simp only at k; omega
  rw [if_neg k1] at h
  by_cases k2 : e.kind = 2
  · rw [if_pos k2] at h
    obtain ⟨hg, t, tk⟩ := gtT (by omega)
    have rc := R.cell (by omega)
    unfold grantS at h
    split at h
    · simp [err] at h
    rename_i h1
    split at h
    · simp [err] at h
    rename_i h2
    split at h
    · rename_i hx; simp only [err, Prod.mk.injEq] at h; exact absurd h.2 hx
    refine fin _ ?_ h
    have hpl : (tn s e.tenant).placed = true := by
      cases hh : (tn s e.tenant).placed
      · simp [hh] at h1
      · rfl
    have hsh : (tn s e.tenant).shed = true → e.cell = (tn s e.tenant).standby := fun hh => by
      simpa [hpl, hh] using h1
    obtain ⟨q1, q2⟩ := t.hs hpl
    unfold moved
    simp only
    split
    · rename_i ec
      refine ⟨fun _ => ⟨hpl, ?_, ec⟩, fun _ => ⟨q1, q2⟩, t.tn, fun k => by simp [hpl] at k⟩
      cases hh : (tn s e.tenant).shed
      · rfl
      · have := hsh hh; omega
    · rename_i en
      split
      · refine ⟨fun _ => ⟨hpl, rfl, rfl⟩, fun _ => by simp only; omega, fun k => by simp at k, fun k => by simp [hpl] at k⟩
      · rename_i es
        have et : e.cell = (tn s e.tenant).target := by
          simp only [Bool.and_eq_true, Bool.not_eq_true', decide_eq_false_iff_not, not_and, Classical.not_not] at h2
          exact h2 ⟨en, es⟩
        have := t.tn (by omega)
        refine ⟨fun _ => ⟨hpl, ?_, rfl⟩, fun _ => by simp only; omega, fun k => by simp at k, fun k => by simp [hpl] at k⟩
        simp only
        cases hh : (tn s e.tenant).shed
        · rfl
        · exact absurd (hsh hh) es
  rw [if_neg k2] at h
  by_cases k3 : e.kind = 3
  · rw [if_pos k3] at h
    obtain ⟨hg, t, tk⟩ := gtT (by omega)
    unfold cutS at h
    repeat' split at h
    all_goals first | (simp [err] at h; done) | skip
    cases h
    refine put _ hg ?_ ?_
    · refine ⟨fun k => ?_, t.hs, t.tn, t.un⟩
      have := t.win (by simp only [cutW] at k; omega)
      exact this
    · intro t ht k
      simp [ctr, active]
  rw [if_neg k3] at h
  by_cases k4 : e.kind = 4
  · rw [if_pos k4] at h
    obtain ⟨hg, t, tk⟩ := gtT (by omega)
    have rc := R.cell4 k4
    unfold standbyS at h
    split at h
    · simp [err] at h
    rename_i hp
    have hp : (tn s e.tenant).placed = true := by simpa using hp
    obtain ⟨q1, q2⟩ := t.hs hp
    have hh := tk.placed hp
    split at h
    · refine fin _ ?_ h
      refine ⟨t.win, fun _ => ⟨q1, by simp only; omega⟩, fun k => by simp only at k ⊢; omega, fun k => by simp [hp] at k⟩
    · split at h
      · simp [err] at h
      rename_i hc
      simp only [Bool.or_eq_true, decide_eq_true_eq, not_or] at hc
      split at h
      · simp [err] at h
      split at h
      · simp [err] at h
      split at h
      · simp [err] at h
      refine fin _ ?_ h
      refine ⟨t.win, fun _ => ⟨q1, fun e2 => hc.1.1 e2.symm⟩, fun k e2 => hc.2 e2.symm, fun k => by simp [hp] at k⟩
  rw [if_neg k4] at h
  by_cases k5 : e.kind = 5
  · rw [if_pos k5] at h
    obtain ⟨hg, t, tk⟩ := gtT (by omega)
    have rc := R.cell (by omega)
    unfold readyS at h
    split at h
    · simp [err] at h
    rename_i hp
    have hp : (tn s e.tenant).placed = true := by simpa using hp
    obtain ⟨q1, q2⟩ := t.hs hp
    have hh := tk.placed hp
    split at h
    · simp [err] at h
    rename_i hc
    split at h
    · simp [err] at h
    cases h
    have hc : e.cell = (tn s e.tenant).next := by simpa using hc
    refine put _ hg ?_ ?_
    · refine ⟨t.win, fun _ => by simp only; omega, fun k => by simp only at k ⊢; omega, fun k => by simp [hp] at k⟩
    · intro t ht k
      obtain ⟨⟨a, b⟩, c1, d⟩ := ht
      have : ¬ (-1 : Int) = k := by omega
      simp only [ctr, active, hp, hc, this, if_true, if_false]
      repeat' split
      all_goals omega
  rw [if_neg k5] at h
  by_cases k6 : e.kind = 6
  · rw [if_pos k6] at h
    obtain ⟨hg, t, tk⟩ := gtT (by omega)
    unfold migrateS at h
    split at h
    · simp [err] at h
    split at h
    · simp [err] at h
    rename_i h0 hc
    simp only [Bool.or_eq_true, Bool.not_eq_true', decide_eq_true_eq, not_or] at h0 hc
    split at h
    · simp [err] at h
    split at h
    · simp [err] at h
    split at h
    · simp [err] at h
    have hp : (tn s e.tenant).placed = true := by simpa using h0.1.1
    refine fin _ ?_ h
    refine ⟨t.win, t.hs, fun _ => hc.2, fun k => by simp [hp] at k⟩
  rw [if_neg k6] at h
  by_cases k7 : e.kind = 7
  · rw [if_pos k7] at h
    obtain ⟨hg, t, tk⟩ := gtT (by omega)
    unfold abandonS at h
    split at h
    · simp [err] at h
    rename_i h0
    simp only [Bool.or_eq_true, Bool.not_eq_true', decide_eq_true_eq, not_or] at h0
    have hp : (tn s e.tenant).placed = true := by simpa using h0.1
    cases h
    refine put _ hg ?_ ?_
    · refine ⟨t.win, t.hs, fun k => by simp at k, fun k => by simp [hp] at k⟩
    · intro t ht k
      obtain ⟨⟨a, b⟩, c1, d⟩ := ht
      have : ¬ (-1 : Int) = k := by omega
      simp only [ctr, active, hp, this, if_true, if_false]
      repeat' split
      all_goals omega
  rw [if_neg k7] at h
  by_cases k8 : e.kind = 8
  · rw [if_pos k8] at h
    obtain ⟨hg, t, tk⟩ := gtT (by omega)
    unfold shedS at h
    split at h
    · split at h
      · simp [err] at h
      · rename_i h0
        simp only [Bool.or_eq_true, Bool.not_eq_true', not_or] at h0
        have hp : (tn s e.tenant).placed = true := by simpa using h0.1
        have hs : (tn s e.tenant).shed = false := by simpa using h0.2
        split at h
        · simp [err] at h
        · cases h
          rename_i hw
          refine put _ hg ?_ ?_
          · refine ⟨fun k => absurd k hw, t.hs, fun k => by simp at k, fun k => by simp [hp] at k⟩
          · intro t ht k
            obtain ⟨⟨a, b⟩, c1, d⟩ := ht
            simp only [ctr, active, hp, hs]
            simp
            repeat' split
            all_goals omega
    · split at h
      · simp [err] at h
      · rename_i h0
        have hs : (tn s e.tenant).shed = true := by simpa using h0
        split at h
        · simp [err] at h
        · refine fin _ ?_ h
          refine ⟨fun k => ?_, t.hs, t.tn, fun k => ?_⟩
          · have := t.win k; rw [hs] at this; simp at this
          · have := t.un k; rw [hs] at this; simp at this
  rw [if_neg k8] at h
  have same : ∀ s2 : State, s2.tenants = s.tenants → s2.tick = s.tick → LInv c s2 := fun s2 e1 e2 => ⟨by rw [e1, e2]; exact L.ten, by
    have := L.room
    rw [over_nil m] at this ⊢
    intro k y hy
    have := this k y hy
    unfold bk at this ⊢
    rw [e1]; exact this⟩
  by_cases k9 : e.kind = 9
  · rw [if_pos k9] at h
    split at h
    · simp [err] at h
    · cases h; exact same _ rfl rfl
  rw [if_neg k9] at h
  by_cases k10 : e.kind = 10
  · rw [if_pos k10] at h
    unfold wantS at h
    repeat' split at h
    all_goals first | (simp [err] at h; done) | skip
    cases h; exact same _ rfl rfl
  rw [if_neg k10] at h
  by_cases k11 : e.kind = 11
  · rw [if_pos k11] at h
    unfold runsS at h
    repeat' split at h
    all_goals first | (simp [err] at h; done) | skip
    cases h; exact same _ rfl rfl
  rw [if_neg k11] at h
  by_cases k12 : e.kind = 12
  · rw [if_pos k12] at h
    unfold proveS at h
    repeat' split at h
    all_goals first | (simp [err] at h; done) | skip
    cases h; exact same _ rfl rfl
  rw [if_neg k12] at h
  by_cases k13 : e.kind = 13
  · rw [if_pos k13] at h
    repeat' split at h
    all_goals first | (simp [err] at h; done) | skip
    cases h; exact same _ rfl rfl
  rw [if_neg k13] at h
  by_cases k14 : e.kind = 14
  · rw [if_pos k14] at h
    unfold expandS at h
    repeat' split at h
    all_goals first | (simp [err] at h; done) | skip
    cases h; exact same _ rfl rfl
  rw [if_neg k14] at h
  by_cases k15 : e.kind = 15
  · rw [if_pos k15] at h
    split at h
    · simp [err] at h
    cases h; exact same _ rfl rfl
  rw [if_neg k15] at h
  cases h
  exact L
theorem linv_apply {c : Config} {s s' : State} {e : Entry} (m : Made c) (hi : Inv c s) (L : LInv c s) (h : applyS c s e = (s', 0)) : LInv c s' := by
  unfold applyS at h
  split at h
  · simp [err] at h
  split at h
  · simp [err] at h
  split at h
  · simp [err] at h
  rename_i hv hn ht
  have := hi.count
  refine linv_act (s := { s with tick := e.tick, count := s.count + 1 }) m ?_ ⟨fun x hx => (L.ten x hx).later (by show s.tick ≤ e.tick; omega), ?_⟩ rfl (by simpa using hv) h
  · exact ⟨hi.tl, hi.cl, hi.ten, hi.cel, hi.high, by first | omega | (simp only; omega), (right_of (show validR c e = true by simpa using hv)).tick⟩
  · have := L.room
    rw [over_nil m] at this ⊢
    exact this
theorem linv_fold {c : Config} (m : Made c) : ∀ (es : List Entry) (s : State) (i : Int), Inv c s → LInv c s → LInv c (foldS c es s i).1
  | [], s, i, h, l => l
  | e :: es, s, i, h, l => by
    simp only [foldS]
    split
    · rename_i hc
      exact linv_fold m es _ _ (inv_apply h (Prod.ext rfl hc)) (linv_apply m h l (Prod.ext rfl hc))
    · exact l
theorem linv_new {c : Config} (m : Made c) : LInv c (newState c) := by
  refine ⟨fun x hx => ?_, ?_⟩
  · have := List.eq_of_mem_replicate hx
    subst this
    exact ⟨fun k => by simp [newState] at k, by simp, by simp, by simp⟩
  · rw [over_nil m]
    intro k y hy
    have e : bk c (newState c) k = 0 := sum_eT k c.tenants.length c.tenants
    have := (m.cells k y hy).2
    omega
def livC (tick k : Int) (p : TState × Tenant) : Int := if (decide (p.1.window.start ≤ tick) && decide (tick < p.1.window.till)) = true then (if p.1.window.cell = k then p.2.load else 0) else 0
theorem live_get {c : Config} {s : State} {tick : Int} {k : Nat} (m : Made c) (hk : k < c.cells.length) : (live c s tick)[k]? = some ((s.tenants.zip c.tenants).map (livC tick k)).sum := by
  have hl : (s.tenants.zip c.tenants).length ≤ 5 := by have := m.tl; simp; omega
  have := foldG (k := k) (f := liveT tick) (g := livC tick k) (fun p => LoadOk p.2) (fun acc v p hp h h0 h1 => by
    obtain ⟨⟨a, b⟩, c1, d⟩ := hp
    unfold liveT livC
    by_cases hc : (decide (p.1.window.start ≤ tick) && decide (tick < p.1.window.till)) = true
    · simp only [hc, if_true]
      refine ⟨addAt_getS h (by omega), ?_, ?_⟩ <;> split <;> omega
    · simp only [hc]
      exact ⟨by simpa using h, by simp, by simp⟩) (s.tenants.zip c.tenants) (zeros c) 0 (zeros_get hk) (by omega) (by omega) (fun p hp => zip_loads m s p hp)
  unfold live
  rw [this.1]
  simp
theorem live_le {c : Config} {s : State} {tick : Int} {k : Nat} (m : Made c) (L : LInv c s) (ht : s.tick ≤ tick) : ((s.tenants.zip c.tenants).map (livC tick k)).sum ≤ bk c s k := by
  refine sum_le fun p hp => ?_
  obtain ⟨x, t⟩ := p
  obtain ⟨⟨a, b⟩, c1, d⟩ := zip_loads m s _ hp
  have l := L.ten x (List.of_mem_zip hp).1
  unfold livC ctr
  simp only at a b c1 d ⊢
  split
  · rename_i hc
    simp only [Bool.and_eq_true, decide_eq_true_eq] at hc
    obtain ⟨w1, w2, w3⟩ := l.win (by omega)
    simp only [active, w1, w2, w3, Bool.not_false, Bool.and_self, if_true]
    repeat' split
    all_goals omega
  · repeat' split
    all_goals omega
end Go.Ideal
namespace Go.Ideal
open Go.Proofs
set_option maxRecDepth 100000
theorem Z6l (l : List Int) (tick : Int) : Fun PP Z4u [.vs 1 (ints l), .n tick] (.bool true) := by
  refine FunQ.intro fun h0 => Z14.call ?_
  try simp +contextual (disch := omega) [Z14.eg, Z14.j1g]
  refine (Z2o l).call ?_
  try simp +contextual (disch := omega)
  refine bK'_b (fun hc => ?_) (fun hc => ?_)
  · refine Z1u.call ?_
    try simp +contextual (disch := omega)
    exact Ret.val (Own.start h0) (by simp [Bel]) rfl
  simp at hc
  try simp +contextual (disch := omega) [Z14.j2g]
  refine (FunQ.nil (Z2t (t := []) (x := []) (by omega) (by simp) (by simp) false) (fun h => Fzs.cons (Fz.refl _ _ _ (by simp [Bel])) (Fzs.cons (by simp [Fz]) (Fzs.cons (by simp [Fz]) (Fzs.cons (by simp [Fz]) (Fzs.nil _ _)))))).call fun r hr => ?_
  obtain ⟨c, s, rfl, ms⟩ := hr
  have mk := ms.made
  have hcl := mk.cl
  have hm := small_of mk ms.fits
  obtain ⟨es, he⟩ := ms.ten rfl
  have inv : Inv c s := by rw [he]; exact inv_fold es _ 0 (inv_new (mk.cfg ms.p).toCfgOk)
  have L : LInv c s := by rw [he]; exact linv_fold mk es _ 0 (inv_new (mk.cfg ms.p).toCfgOk) (linv_new mk)
  have ht := inv.tick
  try simp +contextual (disch := omega)
  refine (Own.start h0).alloc Z1t fun b1 h1 S1 => ?_
  try simp +contextual (disch := omega)
  refine S1.alloc ZH fun b2 h2 S2 => ?_
  try simp +contextual (disch := omega)
  refine S2.pu1 (new := c.c) rfl (by simp) rfl (by simp) fun h3 S3 => ?_
  try simp +contextual (disch := omega)
  refine S3.pu0 (new := s.c) rfl (by simp) rfl (by simp) fun h4 S4 => ?_
  try (have G := S4.facts; simp only [factsL, factsP, tp, List.cons_append, List.nil_append, and_true, true_and] at G; simp +contextual (disch := omega) [-getElem?_pos, ld_pb, ix_sb, ix_vs, G, Zb, Z14.j3g])
  refine (Z2b (by omega) (by omega)).call ?_
  have m0 := Int.emod_nonneg tick (show (30 : Int) ≠ 0 by omega)
  have m1 := Int.emod_lt_of_pos tick (show (0 : Int) < 30 by omega)
  generalize hk : tick % 30 = d at *
  try (have G := S4.facts; simp only [factsL, factsP, tp, List.cons_append, List.nil_append, and_true, true_and] at G; simp +contextual (disch := omega) [-getElem?_pos, ld_pb, ix_sb, ix_vs, G, Zb, w64])
  try (have G := S4.facts; simp only [factsL, factsP, tp, List.cons_append, List.nil_append, and_true, true_and] at G; simp +contextual (disch := omega) [-getElem?_pos, ld_pb, ix_sb, ix_vs, G, Zb, Z14.j4g])
  refine (Z22 hm).call ?_
  try (have G := S4.facts; simp only [factsL, factsP, tp, List.cons_append, List.nil_append, and_true, true_and] at G; simp +contextual (disch := omega) [-getElem?_pos, ld_pb, ix_sb, ix_vs, G, Zb, ])
  refine (Z2Q hm (s.tick + d)).call ?_
  try simp +contextual (disch := omega) [Z14.j5g]
  refine Z1u.call ?_
  have hll : (live c s (s.tick + d)).length = c.cells.length := by unfold live; rw [foldl_length _ (fun a p => by unfold liveT; split <;> simp)]; simp [zeros]
  have hbl := booked_length c s
  try (have G := S4.facts; simp only [factsL, factsP, tp, List.cons_append, List.nil_append, and_true, true_and] at G; simp +contextual (disch := omega) [-getElem?_pos, ld_pb, ix_sb, ix_vs, G, Zb, hll, hbl])
  try simp +contextual (disch := omega) [Z14.j6g]
  have loop : ∀ (m i : Nat), i + m = c.cells.length → Z14.l1 (Ret (fun x => x = .bool true) h0) (.ptr b1 0 0) (.vs 1 (ints (booked c s))) (.vs 1 (ints (live c s (s.tick + d)))) (.n i) h4 := by
    intro m
    induction m with
    | zero =>
      intro i hi
      refine Z14.l1_round ?_
      have hlt : ¬ (i : Int) < c.cells.length := by omega
      try (have G := S4.facts; simp only [factsL, factsP, tp, List.cons_append, List.nil_append, and_true, true_and] at G; simp +contextual (disch := omega) [-getElem?_pos, ld_pb, ix_sb, ix_vs, G, Zb, Z14.b1g, hlt, Z14.j9])
      exact Ret.val S4 (by simp [Bel]) rfl
    | succ m ih =>
      intro i hi
      refine Z14.l1_round ?_
      have hlt : (i : Int) < c.cells.length := by omega
      obtain ⟨y, hy⟩ : ∃ y, c.cells[i]? = some y := ⟨_, List.getElem?_eq_getElem (by omega)⟩
      have e1 := (booked_get (s := s) mk (show i < c.cells.length by omega)).1
      have e2 := live_get (s := s) (tick := s.tick + d) mk (show i < c.cells.length by omega)
      have e3 := live_le (k := i) mk L (show s.tick ≤ s.tick + d by omega)
      have e4 := (over_nil mk).1 L.room i y hy
      have n1 : ¬ bk c s i < ((s.tenants.zip c.tenants).map (livC (s.tick + d) i)).sum := by omega
      have n2 : ¬ y.capacity < bk c s i := by omega
      try (have G := S4.facts; simp only [factsL, factsP, tp, List.cons_append, List.nil_append, and_true, true_and] at G; simp +contextual (disch := omega) [-getElem?_pos, ld_pb, ix_sb, ix_vs, G, Zb, Z14.b1g, hlt])
      try (have G := S4.facts; simp only [factsL, factsP, tp, List.cons_append, List.nil_append, and_true, true_and] at G; simp +contextual (disch := omega) [-getElem?_pos, ld_pb, ix_sb, ix_vs, G, Zb, Z14.j7g, ints_get e1, ints_get e2, hy, n1, n2])
      try simp +contextual (disch := omega) [Z14.j8g, w64]
      have q := ih (i + 1) (by omega)
      simpa using q
  exact loop c.cells.length 0 (by omega)
end Go.Ideal
