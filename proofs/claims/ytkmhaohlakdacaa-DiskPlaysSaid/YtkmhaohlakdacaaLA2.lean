/- Part of a proof: functions of the program over an ideal memory, and what they compute. No condition. -/
import Derived.Test.YtkmhaohlakdacaaLA1
import Derived.ProofKit
set_option linter.unusedVariables false
set_option linter.unusedSimpArgs false
namespace Go.Ideal
open Go.ChangeShapes Go.WideShapes Go.ChangeAt Go.RowKit
def allF (W : World) : Frz := fun R => W.heap[R]?
theorem rel0 (W : World) : Rel (allF W) (fun _ => none) [] W :=
  ⟨fun _ _ h => h, fun _ _ h => by simp at h, fun _ _ _ _ _ _ h => by simp at h, fun _ _ h => by cases h⟩
theorem Z0.enter {P : Program} {f : FuncId} {args : List IV} {us : Array Value} {W : World} (hc : Z0 P f args [] fun r _ => r = .bool true) (hv : VRs (allF W) (fun _ => none) args us.toList) :
    Calls P f us W fun e W' => e = .returned (.bool true) ∧ Below W.heap.size W W' := by
  refine (hc (allF W) (fun _ => none) W us (rel0 W) hv).mono ?_
  rintro e W' ⟨r, h', v, F', ρ', rfl, rfl, st, hv'⟩
  simp only [VR] at hv'
  subst hv'
  exact ⟨rfl, st.os, st.tape, st.output, st.size, fun k hk => st.frame k hk fun ⟨b, k, l, h, _⟩ => by simp at h⟩
inductive Sh where
  | b
  | i (k : IntKind)
  | str
  | sl (n : Nat) (cs : List Sh)
mutual
def Shd : Sh → IV → Prop
  | .b, v => ∃ x, v = .bool x
  | .i k, v => ∃ n, v = .int k n ∧ (Lit.int k n).wf = true
  | .str, v => ∃ x, v = .str x ∧ x.size ≤ maxLen
  | .sl n cs, v => ∃ es, v = .vs n es ∧ es.length ≤ maxLen ∧ ∀ e ∈ es, Shds cs e
def Shds : List Sh → List IV → Prop
  | [], vs => vs = []
  | c :: cs, vs => ∃ v vs', vs = v :: vs' ∧ Shd c v ∧ Shds cs vs'
end
theorem Shds.append : ∀ {a b : List Sh} {x y : List IV}, Shds a x → Shds b y → Shds (a ++ b) (x ++ y)
  | [], _, _, _, h, k => by simp only [Shds] at h; subst h; simpa using k
  | c :: a, b, x, y, h, k => by
    simp only [Shds] at h
    obtain ⟨v, vs, rfl, h1, h2⟩ := h
    simp only [List.cons_append, Shds]
    exact ⟨v, vs ++ y, rfl, h1, Shds.append h2 k⟩
theorem Shds.length : ∀ {a : List Sh} {x : List IV}, Shds a x → x.length = a.length
  | [], _, h => by simp only [Shds] at h; subst h; rfl
  | c :: a, x, h => by
    simp only [Shds] at h
    obtain ⟨v, vs, rfl, h1, h2⟩ := h
    simp [Shds.length h2]
def shFs (P : Program) (g : TypeId → Option (List Sh)) : List Field → Nat → Option (List Sh)
  | [], _ => some []
  | f :: fs, off => match g f.type, shFs P g fs (off + P.cellsOf f.type) with
    | some c, some r => if c.length = P.cellsOf f.type ∧ f.offset = off then some (c ++ r) else none
    | _, _ => none
def shOf (P : Program) : Nat → TypeId → Option (List Sh)
  | 0, _ => none
  | n + 1, t => match P.underlying t with
    | some .bool => some [.b]
    | some (.int k) => some [.i k]
    | some .string => some [.str]
    | some (.slice e) => match shOf P n e with
      | some c => if c.length = P.cellsOf e ∧ c ≠ [] then some [.sl (P.cellsOf e) c] else none
      | none => none
    | some (.struct fs) => match shFs P (shOf P n) fs.toList 0 with
      | some c => if c.length = P.cellsOf t then some c else none
      | none => none
    | _ => none
section
variable {H : Type} {enc : TypeId × Value → H} {P : Program} {W : World} {ρ : Lay} {sp : Nat → Bool} {held : Bool}
def Opn (W : World) (ρ : Lay) (sh : List Sh) (cs : List Value) : Prop := ∃ vs, Shds sh vs ∧ VRs (allF W) ρ vs cs
theorem VRs.append' {F : Frz} : ∀ {a b : List IV} {x y : List Value}, VRs F ρ a x → VRs F ρ b y → VRs F ρ (a ++ b) (x ++ y)
  | [], _, _, _, h, k => by simp only [VRs] at h; subst h; simpa using k
  | c :: a, b, x, y, h, k => by
    simp only [VRs] at h
    obtain ⟨v, vs, rfl, h1, h2⟩ := h
    simp only [List.cons_append, VRs]
    exact ⟨v, vs ++ y, rfl, h1, VRs.append' h2 k⟩
theorem Opn.append {a b : List Sh} {x y : List Value} (h : Opn W ρ a x) (k : Opn W ρ b y) : Opn W ρ (a ++ b) (x ++ y) := by
  obtain ⟨u, h1, h2⟩ := h
  obtain ⟨v, k1, k2⟩ := k
  exact ⟨u ++ v, h1.append k1, h2.append' k2⟩
theorem opn_fields {g : TypeId → Option (List Sh)} {n : Nat} {cs : List Value} (hg : ∀ t sh cs x, g t = some sh → DataW.trod enc P W 0 sp held n t cs = some x → Opn W ρ sh cs) :
    ∀ (fs : List Field) (off : Nat) (sh : List Sh), shFs P g fs off = some sh → (∀ f ∈ fs, ∃ x, DataW.trod enc P W 0 sp held n f.type ((cs.drop f.offset).take (P.cellsOf f.type)) = some x) → Opn W ρ sh ((cs.drop off).take sh.length)
  | [], off, sh, h, _ => by
    simp only [shFs, Option.some.injEq] at h
    subst h
    exact ⟨[], by simp [Shds], by simp [VRs]⟩
  | f :: fs, off, sh, h, hx => by
    simp only [shFs] at h
    split at h
    · rename_i c r hc hr
      split at h
      · rename_i hq
        obtain ⟨hl, ho⟩ := hq
        simp only [Option.some.injEq] at h
        subst h
        obtain ⟨x, hx0⟩ := hx f (by simp)
        have h1 := hg _ _ _ _ hc hx0
        have h2 := opn_fields hg fs _ r hr fun f' hf' => hx f' (by simp [hf'])
        have e : (cs.drop off).take (c ++ r).length = (cs.drop f.offset).take (P.cellsOf f.type) ++ (cs.drop (off + P.cellsOf f.type)).take r.length := by
          rw [ho, List.length_append, hl, List.take_add, List.drop_drop]
        rw [e]
        exact h1.append h2
      · cases h
    · cases h
theorem add_block (a : Addr) (i : Nat) : (a.add i).block = a.block := by unfold Addr.add; split <;> rfl
theorem add_off (a : Addr) (n : Nat) : (a.add n).off = a.off + n := by unfold Addr.add; split <;> simp_all
theorem cell_spot {w : World} {a : Addr} {v : Value} (h : w.cell? a = some v) : a.spot = none ∧ fcell (allF w) a.block a.off = some v := by
  unfold World.cell? at h
  unfold fcell allF
  split at h
  · rename_i c x y hh
    rw [hh]
    by_cases hsp : a.spot.isSome = true
    · rw [if_pos hsp] at h; cases h
    · rw [if_neg hsp] at h
      exact ⟨by simpa using hsp, h⟩
  · cases h
theorem cells_at {F : Frz} {g : Nat → Option Value} : ∀ {vs : List IV} {cs : List Value} {off : Nat}, VRs F ρ vs cs → (∀ i, i < cs.length → g (off + i) = cs[i]?) → CellsAt F ρ vs g off
  | [], _, _, _, _ => by simp [CellsAt]
  | v :: vs, cs, off, h, k => by
    simp only [VRs] at h
    obtain ⟨u, us, rfl, h1, h2⟩ := h
    simp only [CellsAt]
    refine ⟨⟨u, by simpa using k 0 (by simp), h1⟩, cells_at h2 fun i hi => ?_⟩
    have := k (i + 1) (by simpa using hi)
    simpa [Nat.add_assoc, Nat.add_comm 1 i] using this
theorem rows_of {F : Frz} {g : Nat → Option Value} {s : Nat} {c : List Sh} (hs : c.length = s) : ∀ (len off : Nat), (∀ i, i < len → ∃ vs, Shds c vs ∧ CellsAt F ρ vs g (off + i * s)) → ∃ es, es.length = len ∧ (∀ e ∈ es, Shds c e) ∧ RowsAt F ρ s es g off
  | 0, _, _ => ⟨[], rfl, by simp, by simp [RowsAt]⟩
  | len + 1, off, h => by
    obtain ⟨vs, h1, h2⟩ := h 0 (by omega)
    obtain ⟨es, e1, e2, e3⟩ := rows_of hs len (off + s) fun i hi => by
      obtain ⟨vs, g1, g2⟩ := h (i + 1) (by omega)
      refine ⟨vs, g1, ?_⟩
      have : off + (i + 1) * s = off + s + i * s := by rw [Nat.succ_mul]; omega
      rw [this] at g2; exact g2
    refine ⟨vs :: es, by simp [e1], ?_, ?_⟩
    · intro e he
      rcases List.mem_cons.1 he with rfl | he
      · exact h1
      · exact e2 e he
    · simp only [RowsAt]
      exact ⟨by rw [h1.length, hs], by simpa using h2, e3⟩
theorem opn_of : ∀ (m : Nat) (t : TypeId) (sh : List Sh) (cs : List Value) (n : Nat) (x : DataW H × List MemPlace), shOf P m t = some sh → DataW.trod enc P W 0 sp held n t cs = some x → Opn W ρ sh cs
  | 0, _, _, _, _, _, h, _ => by simp [shOf] at h
  | m + 1, t, sh, cs, n, x, h, k => by
    cases hu : P.underlying t with
    | none => simp [shOf, hu] at h
    | some u =>
      cases n with
      | zero => simp [DataW.trod] at k
      | succ n =>
        have hn : ∀ (hs : ∀ fs, u ≠ .struct fs), True := fun _ => trivial
        cases u with
        | bool =>
          simp [shOf, hu] at h; subst h
          unfold DataW.trod at k; rw [hu] at k
          split at k <;> simp_all
          rename_i b
          exact ⟨[.bool b], by simp [Shds, Shd], by simp [VRs, VR]⟩
        | int kd =>
          simp [shOf, hu] at h; subst h
          unfold DataW.trod at k; rw [hu] at k
          split at k <;> simp_all
          rename_i n' _
          obtain ⟨⟨rfl, hw⟩, _⟩ := k
          exact ⟨[.int _ n'], ⟨_, _, rfl, ⟨n', rfl, hw⟩, rfl⟩, by simp [VRs, VR]⟩
        | string =>
          simp [shOf, hu] at h; subst h
          unfold DataW.trod at k; rw [hu] at k
          split at k <;> simp_all
          rename_i s
          exact ⟨[.str s], by simp [Shds, Shd, k.1], by simp [VRs, VR]⟩
        | slice e =>
          simp only [shOf, hu] at h
          split at h
          · rename_i c hc
            split at h
            · rename_i hq
              obtain ⟨hl, hne⟩ := hq
              simp only [Option.some.injEq] at h
              subst h
              rcases DataW.trod_slice hu k with ⟨rfl, _⟩ | ⟨a, len, cap, elems, rest, n2, hn2, rfl, _, _, hlc, hcap, hlen, hel, _⟩
              · exact ⟨[.vs _ []], ⟨_, _, rfl, ⟨[], rfl, by simp, by simp⟩, rfl⟩, by simp [VRs, VR]⟩
              · have each : ∀ i, i < len → ∃ vs, Shds c vs ∧ CellsAt (allF W) ρ vs (fcell (allF W) a.block) (a.off + i * P.cellsOf e) ∧ (i = 0 → a.spot = none) := by
                  intro i hi
                  have h1 := hel i hi
                  obtain ⟨y, hy⟩ : ∃ y, elems[i]? = some y := ⟨_, List.getElem?_eq_getElem (by omega)⟩
                  rw [hy] at h1
                  simp only [Option.bind_eq_some_iff] at h1
                  obtain ⟨ci, hci, hyi⟩ := h1
                  obtain ⟨vs, g1, g2⟩ := opn_of m e c ci n2 y hc hyi
                  obtain ⟨_, hcl, hcell⟩ := World.cells?_some hci
                  have sp0 : ∀ j, j < P.cellsOf e → ((a.add (i * P.cellsOf e)).add j).spot = none ∧ fcell (allF W) ((a.add (i * P.cellsOf e)).add j).block ((a.add (i * P.cellsOf e)).add j).off = ci[j]? := by
                    intro j hj
                    have := hcell j hj
                    obtain ⟨v, hv⟩ : ∃ v, ci[j]? = some v := ⟨_, List.getElem?_eq_getElem (by omega)⟩
                    rw [hv] at this ⊢
                    exact cell_spot this
                  have pos : 0 < P.cellsOf e := by
                    rw [← hl]
                    rcases Nat.eq_zero_or_pos c.length with h0 | h0
                    · exact absurd (List.length_eq_zero_iff.1 h0) hne
                    · exact h0
                  refine ⟨vs, g1, cells_at g2 fun j hj => ?_, fun h0 => by subst h0; simpa [Addr.add] using (sp0 0 pos).1⟩
                  have := (sp0 j (by omega)).2
                  have e1 : ((a.add (i * P.cellsOf e)).add j).off = a.off + i * P.cellsOf e + j := by
                    rw [add_off, add_off]
                  rw [add_block, add_block, e1] at this
                  exact this
                obtain ⟨es, e1, e2, e3⟩ := rows_of hl len a.off fun i hi => by
                  obtain ⟨vs, g1, g2, _⟩ := each i hi
                  exact ⟨vs, g1, g2⟩
                refine ⟨[.vs (P.cellsOf e) es], ?_, ?_⟩
                · simp only [Shds, Shd]
                  exact ⟨_, [], rfl, ⟨es, rfl, by omega, e2⟩, rfl⟩
                · simp only [VRs, VR]
                  refine ⟨_, [], rfl, ⟨some a, cap, by rw [e1], by omega, fun hne' => ⟨a.block, a.off, ?_, e3⟩⟩, rfl⟩
                  have : 0 < len := by
                    rw [← e1]
                    rcases Nat.eq_zero_or_pos es.length with h0 | h0
                    · exact absurd (List.length_eq_zero_iff.1 h0) hne'
                    · exact h0
                  obtain ⟨_, _, _, asp⟩ := each 0 this
                  rw [← asp rfl]
            · cases h
          · cases h
        | struct fs =>
          simp only [shOf, hu] at h
          split at h
          · rename_i c hc
            split at h
            · rename_i hq
              simp only [Option.some.injEq] at h
              subst h
              obtain ⟨xs, n2, hn2, _, hl, hxl, hf⟩ := DataW.trod_struct hu k
              have := opn_fields (cs := cs) (fun t sh cs x h k => opn_of m t sh cs n2 x h k) fs.toList 0 c hc fun f hf' => by
                obtain ⟨i, hi⟩ := List.getElem?_of_mem hf'
                have hi' : fs[i]? = some f := by simpa using hi
                have h1 := hf i f hi'
                have hlt : i < fs.size := (Array.getElem?_eq_some_iff.1 hi').1
                obtain ⟨y, hy⟩ : ∃ y, xs[i]? = some y := ⟨_, List.getElem?_eq_getElem (by omega)⟩
                exact ⟨y, by rw [h1, hy]⟩
              rw [List.drop_zero, List.take_of_length_le (by omega)] at this
              exact this
            · cases h
          · cases h
        | _ => simp [shOf, hu] at h
def oneT (P : Program) (t : TypeId) : Bool := match P.underlying t with
  | some .bool => true
  | some (.int _) => true
  | some .string => true
  | some (.slice _) => true
  | _ => false
theorem one_cells {b0 : Nat} {W : World} {t : TypeId} {v : Value} (h1 : oneT P t = true) (hv : Value.okWide P W .any b0 t v) : v.cells.toList = [v] := by
  unfold oneT at h1
  cases hu : P.underlying t with
  | none => simp [hu] at h1
  | some u =>
    rw [hu] at h1
    cases u with
    | bool => obtain ⟨x, rfl⟩ : ∃ x, v = .bool x := by
                simp only [Value.okWide, hu, Cell.okWide] at hv
                cases v <;> simp_all [Cell.ok]
              rfl
    | int k => obtain ⟨n, rfl⟩ : ∃ n, v = .int k n := by
                simp only [Value.okWide, hu, Cell.okWide] at hv
                cases v <;> simp_all [Cell.ok]
               rfl
    | string => obtain ⟨x, rfl⟩ := okWide_string hu hv; rfl
    | slice e => obtain ⟨a, l, c, rfl⟩ := okWide_slice hu hv; rfl
    | _ => simp at h1
def argsB (P : Program) (ts : List TypeId) : Bool := ts.all fun t => oneT P t && P.readableRec t && decide (t < P.types.size)
theorem opn_args {b0 : Nat} : ∀ {ts : List TypeId} {shs : List Sh} {vs : List Value} {ds : List (DataW H)} {ps : List MemPlace}, ts.map (shOf P 12) = shs.map (fun s => some [s]) → argsB P ts = true →
    (∀ (j : Nat) t v, ts[j]? = some t → vs[j]? = some v → Value.okWide P W .any b0 t v) → DataW.TrodAll enc P W 0 (fun _ => true) true ts vs ds ps → Opn W ρ shs vs
  | [], shs, vs, ds, ps, h, _, _, hA => by
    obtain ⟨rfl, _, _⟩ := trodAll_nil hA
    simp at h; subst h
    exact ⟨[], by simp [Shds], by simp [VRs]⟩
  | t :: ts, shs, vs, ds, ps, h, hb, hv, hA => by
    obtain ⟨v, vs', d, ds', p, p', rfl, rfl, rfl, h0, h1⟩ := trodAll_cons hA
    cases shs with
    | nil => simp at h
    | cons sh shs =>
      simp only [List.map_cons, List.cons.injEq] at h
      simp only [argsB, List.all_cons, Bool.and_eq_true] at hb
      have hc := one_cells hb.1.1.1 (hv 0 t v rfl rfl)
      obtain ⟨fuel, hf⟩ := h0
      rw [hc] at hf
      have o1 := opn_of (ρ := ρ) 12 t [sh] [v] fuel _ h.1 hf
      have o2 := opn_args h.2 (by unfold argsB; exact hb.2) (fun j t v e1 e2 => hv (j + 1) t v (by simpa using e1) (by simpa using e2)) h1
      exact o1.append o2
theorem trodAll_len {base : Nat} {sp : Nat → Bool} {held : Bool} : ∀ {ts : List TypeId} {vs : List Value} {ds : List (DataW H)} {ps : List MemPlace}, DataW.TrodAll enc P W base sp held ts vs ds ps → ds.length = ts.length
  | [], vs, ds, ps, hA => by
    obtain ⟨rfl, rfl, rfl⟩ := trodAll_nil hA
    rfl
  | t :: ts, vs, ds, ps, hA => by
    obtain ⟨v, vs', d, ds', p, p', rfl, rfl, rfl, h0, h1⟩ := trodAll_cons hA
    simp [trodAll_len h1]
theorem below_args (hl : laidOutB P = true) {W' : World} : ∀ {ts : List TypeId} {vs : List Value} {ds : List (DataW H)} {ps : List MemPlace}, argsB P ts = true →
    DataW.TrodAll enc P W 0 (fun _ => true) true ts vs ds ps → Below W.heap.size W W' → (∀ x ∈ ps, x.block < W.heap.size) → DataW.TrodAll enc P W' 0 (fun b => decide (b < W.heap.size)) true ts vs ds ps
  | [], vs, ds, ps, _, hA, _, _ => by
    obtain ⟨rfl, rfl, rfl⟩ := trodAll_nil hA
    exact trodAll_mk0
  | t :: ts, vs, ds, ps, hb, hA, hB, hlt => by
    obtain ⟨v, vs', d, ds', p, p', rfl, rfl, rfl, h0, h1⟩ := trodAll_cons hA
    simp only [argsB, List.all_cons, Bool.and_eq_true, decide_eq_true_eq] at hb
    refine ⟨p, p', Below.trod hl hb.1.1.2 hb.1.2 h0 hB (fun x hx => hlt x (List.mem_append.2 (.inl hx))), below_args hl (by unfold argsB; simpa using hb.2) h1 hB fun x hx => hlt x (List.mem_append.2 (.inr hx)), rfl⟩
end
theorem law_true {C : Checked} {os : Os} {f : FuncId} {fn : Func} {s : ChangeSpec} {H : Type} {enc : TypeId × Value → H} {shs : List Sh} {tb : TypeId}
    (own : ownKnob C.prog.godebug = none) (started : os.Started) (noInit : C.prog.inits.idxOf? f = none) (hfn : C.prog.funcs[f]? = some fn)
    (witness : ∃ (w : World) (tape : Tape) (i : Input), w.os = os ∧ (w.forCall tape i).Shaped C.prog ∧ i.vars = [] ∧ Input.okWide C.prog (w.forCall tape i) .any w.heap.size f i ∧
      s.pre6 enc C.prog fn [] false (w.forCall tape i).memory i.args ∧ ({} : Assume).holds C.prog (lone (Frame.enter C.prog f i.args .normal) [] (w.forCall tape i)))
    (hvars : s.vars = []) (hres : fn.resultTypes = #[tb]) (htb : C.prog.underlying tb = some .bool)
    (hspec : ∀ ds : List (DataW H), ds.length = fn.params.size → (s.fn H ds).results = [.lit (.bool true)] ∧ (s.fn H ds).args = ds ∧ (s.fn H ds).vars = [])
    (laid : laidOutB C.prog = true) (hB : argsB C.prog fn.params.toList = true) (hS : fn.params.toList.map (shOf C.prog 12) = shs.map fun s => some [s])
    (law : ∀ vs, Shds shs vs → Z0 C.prog f vs [] fun r _ => r = .bool true) :
    ReturnsInHanded {} C os f .any (s.pre6 enc C.prog fn [] false) (s.post enc C.prog fn false true false false) := by
  refine returnsInHanded_of_change own started noInit hfn witness ?_
  intro W base args ds gs before hval0 hW _ _
  have hW' := hW
  obtain ⟨p, q, hA, hV, rfl, _, _⟩ := hW
  rw [hvars] at hV
  obtain ⟨rfl, rfl⟩ := trodVars_none hV
  obtain ⟨vs, h1, h2⟩ := opn_args (ρ := fun _ => none) hS hB (fun j t v e1 e2 => hval0 j t v (by simpa using e1) (by simpa using e2)) hA
  have hlt : ∀ x ∈ p, x.block < W.heap.size := fun x hx => hW'.lt x (List.mem_append.2 (.inl hx))
  refine (Z0.enter (law vs h1) h2).mono fun e W' ⟨he, hb⟩ => ?_
  subst he
  have hlen : ds.length = fn.params.size := by have := trodAll_len hA; simpa using this
  obtain ⟨e1, e2, e3⟩ := hspec ds hlen
  refine ⟨_, rfl, ds, [], p ++ [], [], p, [], hW', ?_, ?_, ?_, hb.frame _, fun h => by cases h⟩
  · rw [List.append_nil, e1, hres]
    exact trodAll_mk1 (shut_bool htb true)
  · rw [List.append_nil, e2]
    exact below_args laid hB hA hb hlt
  · rw [List.append_nil, e3, hvars]
    rfl
end Go.Ideal
namespace Go.Ideal
theorem shd_list {α : Type} {f : α → List IV} {n : Nat} {cs : List Sh} {v : IV} (hf : ∀ e, Shds cs e → ∃ x, e = f x) (h : Shd (.sl n cs) v) : ∃ l : List α, v = .vs n (l.map f) := by
  simp only [Shd] at h
  obtain ⟨es, rfl, _, he⟩ := h
  have : ∃ l : List α, es = l.map f := by
    induction es with
    | nil => exact ⟨[], rfl⟩
    | cons e es ih =>
      obtain ⟨x, rfl⟩ := hf e (he e (by simp))
      obtain ⟨l, rfl⟩ := ih (by rename_i h; simp at h ⊢; omega) fun e h => he e (by simp [h])
      exact ⟨x :: l, rfl⟩
  obtain ⟨l, rfl⟩ := this
  exact ⟨l, rfl⟩
theorem shd_bytes {v : IV} (h : Shd (.sl 1 [.i .u8]) v) : ∃ l : List Int, v = .vs 1 (l.map fun x => [.int .u8 x]) ∧ ∀ x ∈ l, (Lit.int .u8 x).wf = true := by
  simp only [Shd] at h
  obtain ⟨es, rfl, _, he⟩ := h
  have : ∃ l : List Int, es = l.map (fun x => [.int .u8 x]) ∧ ∀ x ∈ l, (Lit.int .u8 x).wf = true := by
    induction es with
    | nil => exact ⟨[], rfl, by simp⟩
    | cons e es ih =>
      have h0 := he e (by simp)
      simp only [Shds, Shd] at h0
      obtain ⟨_, _, rfl, ⟨a, rfl, w⟩, rfl⟩ := h0
      obtain ⟨l, rfl, hl⟩ := ih (by rename_i h; simp at h ⊢; omega) fun e h => he e (by simp [h])
      refine ⟨a :: l, rfl, fun x hx => ?_⟩
      rcases List.mem_cons.1 hx with rfl | hx
      · exact w
      · exact hl x hx
  obtain ⟨l, rfl, hl⟩ := this
  exact ⟨l, rfl, hl⟩
theorem shd_i {k : IntKind} {v : IV} (h : Shd (.i k) v) : ∃ n, v = .int k n := by
  simp only [Shd] at h
  obtain ⟨n, rfl, _⟩ := h
  exact ⟨n, rfl⟩
end Go.Ideal
