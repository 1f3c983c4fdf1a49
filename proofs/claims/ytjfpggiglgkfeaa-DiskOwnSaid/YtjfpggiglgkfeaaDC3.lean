/- What is checked in each law; the law DiskKeeps. -/
import Derived.Test.YtjfpggiglgkfeaaDC2
set_option linter.unusedVariables false
set_option linter.unusedSimpArgs false
namespace Go.Ideal
open Go.Proofs

@[simp] theorem kn23 : knO Try.prog 23 = .pt := by kernel_rfl
theorem bs0 (h : Heap) : buildSliceV Try.prog 22 0 [] h = some (.sl h.length 0 0, h ++ [some ⟨1, 5, byt []⟩]) := by simp [buildSliceV, fillI, chunks]
theorem bs1 (h : Heap) (x : Int) : buildSliceV Try.prog 22 1 [(0, .int .u8 x)] h = some (.sl h.length 0 1, h ++ [some ⟨1, 5, byt [x]⟩]) := by
  simp [buildSliceV, fillI, chunks, splice, cellsI, byt, oneI]
theorem bs2 (h : Heap) (x y : Int) : buildSliceV Try.prog 22 2 [(0, .int .u8 x), (1, .int .u8 y)] h = some (.sl h.length 0 2, h ++ [some ⟨1, 5, byt [x, y]⟩]) := by
  simp [buildSliceV, fillI, chunks, splice, cellsI, byt, oneI]

theorem awake9 {h : Heap} {K : IV → Heap → Prop} (k : K (.bool true) h) : CallsI Try.prog 9 [] h K := by
  refine CallsI.pure (F9 ?_)
  simp only [F9_7, F9_6, F9_6g, F9_5, F9_4, F9_4g]
  refine new47 fun hd => ?_
  have f0 := Fr.push [] h [some ⟨2, 47, [[.snil, .int .i64 0]]⟩]
  generalize hh : h ++ [some ⟨2, 47, [[.snil, .int .i64 0]]⟩] = h0 at hd f0
  simp only [F9_3, F9_2, F9_2g, F9_1, binI, eqI, kn23, Option.map_some, oD_some, bK'_bool, Bool.false_eq_true, if_false, bs1, oA_some]
  have g1 := Fr.push [] h0 [some ⟨1, 5, byt [1]⟩]
  have l1 := LS.new (h := h0) 5 [1]
  have hd1 := hd.fr g1 (by simp) (by simp)
  generalize h0 ++ [some ⟨1, 5, byt [1]⟩] = h1 at g1 l1 hd1
  refine append47 hd1 l1.src (by simp) fun b2 h2 hd2 f2 hb2 => sync47 hd2 fun b3 h3 hd3 f3 hb3 => ?_
  simp only [bs2, oA_some]
  have g4 := Fr.push [] h3 [some ⟨1, 5, byt [2, 3]⟩]
  have l4 := LS.new (h := h3) 5 [2, 3]
  have hd4 := hd3.fr g4 (by simp) (by simp)
  generalize h3 ++ [some ⟨1, 5, byt [2, 3]⟩] = h4 at g4 l4 hd4
  refine append47 hd4 l4.src (by simp) fun b5 h5 hd5 f5 hb5 => crash47 hd5 (by simp) (by simp) (by simp) fun b6 h6 hd6 f6 hb6 => ?_
  have e6 : crashN ((([] ++ [1] : List Int).length : Nat) : Int) 1 (([] ++ [1] ++ [2, 3] : List Int).length : Nat) = 2 := by decide
  rw [e6] at hd6
  refine bytes47 hd6 (by simp) ?_
  have g7 := Fr.push [] h6 [some ⟨1, 5, byt [1, 2]⟩]
  have l7 := LS.new (h := h6) 5 [1, 2]
  have hd7 := hd6.fr g7 (by simp) (by simp)
  generalize h6 ++ [some ⟨1, 5, byt [1, 2]⟩] = h7 at g7 l7 hd7
  refine same_bytes (xs := [1, 2]) (by simp) l7.src ?_
  simp only [gW_bool, BEq.rfl, oG_true, oD_some, callS_true]
  refine durable47 hd7 ?_
  simp only [arithI, if_true, oD_some, pickI_bool, oP_some, retK_v]
  refine ⟨trivial, ?_, fun _ => by simpa using k⟩
  have c : ∀ {A : List Nat} {h' h'' : Heap}, Fr [] h h' → Fr A h' h'' → (∀ i ∈ A, h.length ≤ i) → Fr [] h h'' := fun p q hA => p.trans q (fun _ _ h => h) (fun i hi hm => by have := hA i hm; omega)
  have hl0 : h.length < h0.length := by rw [← hh]; simp
  have c1 := c f0 g1 (by simp)
  have m1 := g1.1; have m2 := f2.1; have m3 := f3.1; have m4 := g4.1; have m5 := f5.1
  have c2 := c c1 f2 (by simp)
  have c3 := c c2 f3 (by simp; omega)
  have c4 := c c3 g4 (by simp)
  have c5 := c c4 f5 (by simp; omega)
  have c6 := c c5 f6 (by simp; omega)
  exact (c c6 g7 (by simp)).pfx

theorem len_vs (xs : List Int) : lenI Try.prog 22 (.vs 1 (byt xs)) = some (.int .i64 xs.length) := by simp [lenI]
theorem bin_int {P : Program} {op : BinOp} {t : TypeId} {k k' : IntKind} {a b : Int} : binI P op t (.int k a) (.int k' b) = arithI op k a k' b := rfl
theorem eql_nil {b i o : Nat} : binI Try.prog .eql 23 (.ptr b i o) .nil = some (.bool false) := by simp [binI, eqI]
theorem neq_nil {b i o : Nat} : binI Try.prog .neq 23 (.ptr b i o) .nil = some (.bool true) := by simp [binI, eqI]
theorem slice_vs {h : Heap} {xs : List Int} {k : IntKind} {m : Int} (h0 : 0 ≤ m) (h1 : m ≤ xs.length) : sliceI Try.prog 22 (.vs 1 (byt xs)) none (some (.int k m)) h = some (.vs 1 (byt (xs.take m.toNat))) := by
  simp [sliceI, boundI, h0, h1, byt_take]
/-- Two frames, the second one over new blocks only. -/
theorem Fr.and {A : List Nat} {h h' h'' : Heap} (p : Fr [] h h') (q : Fr A h' h'') (hA : ∀ i ∈ A, h.length ≤ i) : Fr [] h h'' :=
  p.trans q (fun _ _ h => h) (fun i hi hm => by have := hA i hm; omega)

theorem keeps3 {h : Heap} {K : IV → Heap → Prop} {a b : List Int} {keep again : Int} (k : K (.bool true) h) : CallsI Try.prog 3 [.vs 1 (byt a), .vs 1 (byt b), .int .i64 keep, .int .i64 again] h K := by
  refine CallsI.pure (F3 ?_)
  simp only [F3_7, F3_6, F3_6g, F3_5, F3_4, F3_4g]
  refine new47 fun hd => ?_
  have f0 := Fr.push [] h [some ⟨2, 47, [[.snil, .int .i64 0]]⟩]
  have hl0 : h.length < (h ++ [some (⟨2, 47, [[.snil, .int .i64 0]]⟩ : Blk)]).length := by simp
  generalize h ++ [some ⟨2, 47, [[.snil, .int .i64 0]]⟩] = h0 at hd f0 hl0
  have hend : ∀ h', Fr [] h h' → Bel h.length (.bool true) ∧ h <+: h' ∧ ((∀ (b : Nat) (k : Blk), h[b]? = some (some k) → Belss h.length k.es) → K (.bool true) h) := fun h' f => And.intro trivial (And.intro f.pfx fun _ => k)
  simp only [F3_3, F3_2, F3_2g, eql_nil, oD_some, gW_bool, BEq.rfl, oG_true, len_vs, bin_int, arithI, if_true, pickI_bool, Bool.false_eq_true, if_false, oP_some]
  have hw : ∀ h' : Heap, Fr [] h h' → CallsI Try.prog 9 [] h' fun t27_91 h92 =>
      oG (gW t27_91 true) (some (.ptr h.length 0 0)) h92 fun t29_94 =>
      oG (gW t27_91 true) (binI Try.prog .neq 23 t29_94 (.nil)) h92 fun t30_95 =>
      oP (some true) (pickI t27_91 t30_95 (.bool false) h92) h92 fun t31_96 =>
      retK Try.prog [.v t31_96] h92 (fun r h' => Bel h.length r ∧ h <+: h' ∧ ((∀ (b : Nat) (k : Blk), h[b]? = some (some k) → Belss h.length k.es) → K r h)) := by
    intro h' f
    refine awake9 ?_
    simp only [gW_bool, BEq.rfl, oG_true, oD_some, neq_nil, pickI_bool, if_true, oP_some, retK_v]
    exact hend _ f
  by_cases ha : (a.length : Int) > 300
  · simp only [ha, decide_true, gW_bool, show (true == false) = false from rfl, oG_false, pickI_bool, if_true, oP_some, bK'_bool]
    exact hw _ f0
  by_cases hb : (b.length : Int) > 300
  · simp only [ha, hb, decide_true, decide_false, gW_bool, BEq.rfl, oG_true, oD_some, len_vs, bin_int, arithI, if_true, pickI_bool, Bool.false_eq_true, if_false, oP_some, bK'_bool]
    exact hw _ f0
  simp only [ha, hb, decide_false, gW_bool, BEq.rfl, oG_true, oD_some, len_vs, bin_int, arithI, if_true, pickI_bool, Bool.false_eq_true, if_false, oP_some, bK'_bool, F3_1]
  refine append47 hd (ys := a) rfl (by simp; omega) fun b1 h1 hd1 f1 hb1 => sync47 hd1 fun b2 h2 hd2 f2 hb2 => append47 hd2 (ys := b) rfl (by simp; omega) fun b3 h3 hd3 f3 hb3 => ?_
  simp only [bs0, oA_some]
  have g4 := Fr.push [] h3 [some ⟨1, 5, byt []⟩]
  have l4 := LS.new (h := h3) 5 []
  have hd4 := hd3.fr g4 (by simp) (by simp)
  have hl4 : h3.length < (h3 ++ [some (⟨1, 5, byt []⟩ : Blk)]).length := by simp
  generalize h3 ++ [some ⟨1, 5, byt []⟩] = h4 at g4 l4 hd4 hl4
  have m0 := f1.1; have m1 := f2.1; have m2 := f3.1; have m3 := g4.1
  have c1 := f0.and f1 (by simp)
  have c2 := c1.and f2 (by simp; omega)
  have c3 := c2.and f3 (by simp; omega)
  have c4 := c3.and g4 (by simp)
  refine l4.app (ys := a) rfl (by simp; omega) fun s5 b5 h5 l5 f5 hb5 => ?_
  have q0 := hd.lt; have q3 := hd3.lt2; have q4 := hd4.lt2
  have hd5 := hd4.fr f5 (by simp; omega) (by simp; omega)
  refine l5.app (ys := b) rfl (by simp; omega) fun s6 b6 h6 l6 f6 hb6 => ?_
  have m5 := f5.1; have m6 := f6.1
  have c5 := c4.and f5 (by simp; omega)
  have c6 := c5.and f6 (by simp; omega)
  have hd6 := hd5.fr f6 (by simp; omega) (by simp; omega)
  simp only [List.nil_append] at hd6 l6
  have hab : (a ++ b).length ≤ 600 := by simp; omega
  have hla : a.length ≤ (a ++ b).length := by simp
  refine crash47 hd6 (by omega) (by omega) (by omega) fun b7 h7 hd7 f7 hb7 => ?_
  have l7 := l6.fr f7 (by simp; omega)
  have c7 := c6.and f7 (by simp; omega)
  generalize hm : crashN (a.length : Int) keep ((a ++ b).length : Int) = m at hd7
  have hm0 : (a.length : Int) ≤ m := by rw [← hm]; unfold crashN; omega
  have hm1 : m ≤ (a ++ b).length := by rw [← hm]; unfold crashN; omega
  have hx : (((a ++ b).take m.toNat).length : Int) = m := by rw [List.length_take]; omega
  generalize hxx : (a ++ b).take m.toNat = x at hd7 hx
  refine bytes47 hd7 (by omega) (durable47 hd7 (crash47 hd7 (by omega) (by omega) (by omega) fun b8 h8 hd8 f8 hb8 => ?_))
  have m7 := f7.1
  have n7 : b6 < h6.length := by omega
  have l8 := l7.fr f8 (by simp; clear hend hw; omega)
  have c8 := c7.and f8 (by simp; omega)
  have e8 : crashN m again x.length = m := by unfold crashN; omega
  rw [e8, List.take_of_length_le (by omega)] at hd8
  refine bytes47 hd8 (by omega) (awake9 ?_)
  obtain ⟨s9, e9, l9⟩ := l8.slice (k := .i64) (m := m) el22 sz5 (by omega) hm1
  rw [hxx] at l9
  have d1 : decide (m ≥ (a.length : Int)) = true := decide_eq_true (by omega)
  have d2 : decide (m ≤ ((a ++ b).length : Int)) = true := decide_eq_true (by omega)
  simp only [gW_bool, BEq.rfl, oG_true, oD_some, len_vs, l8.len el22, bin_int, arithI, if_true, pickI_bool, oP_some, hx, d1, d2, e9, callS_true]
  refine same_bytes (xs := x) rfl l9.src ?_
  simp only [gW_bool, BEq.rfl, oG_true, oD_some, len_vs, bin_int, arithI, if_true, pickI_bool, oP_some, hx, callS_true]
  refine same_bytes (xs := x) rfl rfl ?_
  simp only [pickI_bool, if_true, oP_some, retK_v]
  exact hend _ c8
end Go.Ideal
