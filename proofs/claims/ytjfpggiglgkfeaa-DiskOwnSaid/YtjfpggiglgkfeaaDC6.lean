/- The law DiskOwn over the ideal memory: the whole. -/
import Derived.Test.YtjfpggiglgkfeaaDC5
set_option linter.unusedVariables false
set_option linter.unusedSimpArgs false
namespace Go.Ideal
open Go.Proofs

theorem own4 {h : Heap} {K : IV → Heap → Prop} {a b : List Int} {v : Int} (k : K (.bool true) h) : CallsI Try.prog 4 [.vs 1 (byt a), .vs 1 (byt b), .int .u8 v] h K := by
  refine CallsI.pure (F4 ?_)
  simp only [F4_33, F4_32, F4_32g, F4_31, F4_30, F4_30g]
  refine new47 fun hd => ?_
  have f0 := Fr.push [] h [some ⟨2, 47, [[.snil, .int .i64 0]]⟩]
  have hl0 : h.length < (h ++ [some (⟨2, 47, [[.snil, .int .i64 0]]⟩ : Blk)]).length := by simp
  generalize h ++ [some ⟨2, 47, [[.snil, .int .i64 0]]⟩] = h0 at hd f0 hl0
  have hend : ∀ h', Fr [] h h' → Bel h.length (.bool true) ∧ h <+: h' ∧ ((∀ (b : Nat) (k : Blk), h[b]? = some (some k) → Belss h.length k.es) → K (.bool true) h) := fun h' f => And.intro trivial (And.intro f.pfx fun _ => k)
  generalize hK : (fun (r : IV) (h' : Heap) => Bel h.length r ∧ h <+: h' ∧ ((∀ (b : Nat) (k : Blk), h[b]? = some (some k) → Belss h.length k.es) → K r h)) = K'
  have hend' : ∀ h', Fr [] h h' → K' (.bool true) h' := fun h' f => by rw [← hK]; exact hend h' f
  clear hend hK k
  by_cases ha : (a.length : Int) > 300
  · simp only [F4_29, F4_28, F4_28g, nilI_ptr, oP_some, oP_false, oD_some, oA_some, oS_some, oG_true, oG_false, gW_bool, gW_tup, BEq.rfl, tf, ft, callS_true, callS_false, pickI_bool, bK'_bool, if_true, if_false, Bool.false_eq_true, bin_int, arithI, len_vs, eql_nil, neq_nil, readsG_true, readsG_false, reads_some, true_and, retK_v, retK_nil, fa47_0, fa47_1, unI_not, oAG_true, ha, decide_true]
    refine awake9 ?_
    simp only [nilI_ptr, oP_some, oP_false, oD_some, oA_some, oS_some, oG_true, oG_false, gW_bool, gW_tup, BEq.rfl, tf, ft, callS_true, callS_false, pickI_bool, bK'_bool, if_true, if_false, Bool.false_eq_true, bin_int, arithI, len_vs, eql_nil, neq_nil, readsG_true, readsG_false, reads_some, true_and, retK_v, retK_nil, fa47_0, fa47_1, unI_not, oAG_true]
    exact hend' _ f0
  by_cases hb : (b.length : Int) > 300
  · simp only [F4_29, F4_28, F4_28g, nilI_ptr, oP_some, oP_false, oD_some, oA_some, oS_some, oG_true, oG_false, gW_bool, gW_tup, BEq.rfl, tf, ft, callS_true, callS_false, pickI_bool, bK'_bool, if_true, if_false, Bool.false_eq_true, bin_int, arithI, len_vs, eql_nil, neq_nil, readsG_true, readsG_false, reads_some, true_and, retK_v, retK_nil, fa47_0, fa47_1, unI_not, oAG_true, ha, hb, decide_true, decide_false]
    refine awake9 ?_
    simp only [nilI_ptr, oP_some, oP_false, oD_some, oA_some, oS_some, oG_true, oG_false, gW_bool, gW_tup, BEq.rfl, tf, ft, callS_true, callS_false, pickI_bool, bK'_bool, if_true, if_false, Bool.false_eq_true, bin_int, arithI, len_vs, eql_nil, neq_nil, readsG_true, readsG_false, reads_some, true_and, retK_v, retK_nil, fa47_0, fa47_1, unI_not, oAG_true]
    exact hend' _ f0
  have q0 := hd.lt
  simp only [F4_29, F4_28, F4_28g, nilI_ptr, oP_some, oP_false, oD_some, oA_some, oS_some, oG_true, oG_false, gW_bool, gW_tup, BEq.rfl, tf, ft, callS_true, callS_false, pickI_bool, bK'_bool, if_true, if_false, Bool.false_eq_true, bin_int, arithI, len_vs, eql_nil, neq_nil, readsG_true, readsG_false, reads_some, true_and, retK_v, retK_nil, fa47_0, fa47_1, unI_not, oAG_true, ha, hb, decide_false, F4_27, F4_26, F4_26g, bs0]
  have g1 := Fr.push [] h0 [some ⟨1, 5, byt []⟩]
  have l1 := LS.new (h := h0) 5 []
  have hl1 : h0.length < (h0 ++ [some (⟨1, 5, byt []⟩ : Blk)]).length := by simp
  have hd1 := hd.fr g1 (by simp) (by simp)
  generalize h0 ++ [some ⟨1, 5, byt []⟩] = h1 at g1 l1 hd1 hl1
  have c1 := f0.and g1 (by simp)
  refine l1.app (ys := a) rfl (by simp; omega) fun s2 b2 h2 l2 f2 hb2 => ?_
  have m2 := f2.1
  have hd2 := hd1.fr f2 (by simp; omega) (by simp; omega)
  have c2 := c1.and f2 (by simp; omega)
  simp only [F4_25, F4_24, F4_24g]
  refine append47 hd2 l2.src (by simp; omega) fun b3 h3 hd3 f3 hb3 => ?_
  have m3 := f3.1; have q3 := hd3.lt2
  have l3 := l2.fr f3 (by simp; omega)
  have c3 := c2.and f3 (by simp)
  have n3 : h.length ≤ b3 ∧ b2 ≠ b3 ∧ b2 ≠ h.length ∧ h.length < b2 := by omega
  simp only [List.nil_append] at l3 hd3
  simp only [F4_23, F4_22, F4_21, F4_21g, F4_20]
  refine loop14 _ h3 a 0 l3 (by omega) (by omega) (by omega) rfl fun xs' h4 l4 hl4 f4 => ?_
  have m4 := f4.1
  have hd4 := hd3.fr f4 (by simp; omega) (by simp; omega)
  have c4 := c3.and f4 (by simp; omega)
  simp only [F4_13, F4_12, F4_12g]
  refine bytes47L hd4 (by omega) fun s5 b5 h5 l5 f5 hb5 => ?_
  have m5 := f5.1; have q4 := hd4.lt2
  have hd5 := hd4.fr f5 (by simp) (by simp)
  have c5 := c4.and f5 (by simp)
  simp only [F4_11, F4_10, F4_9, F4_9g, F4_8]
  refine loop2 _ h5 a 0 l5 (by omega) (by omega) (by omega) rfl fun xs2 h6 l6 hl6 f6 => ?_
  have m6 := f6.1
  have hd6 := hd5.fr f6 (by simp; omega) (by simp; omega)
  have c6 := c5.and f6 (by simp; omega)
  have n6 : h.length < h6.length := by omega
  clear l6 l5 l4 l3 l2 l1 f6 f5 f4 f3 f2 g1 c5 c4 c3 c2 c1 hd5 hd4 hd3 hd2 hd1 hd hb5 hb3 hb2 m2 m3 m4 m5 m6 q3 q4 hl1
  simp only [F4_1]
  refine bytes47L hd6 (by omega) fun s7 b7 h7 l7 f7 hb7 => ?_
  have m7 := f7.1; have q6 := hd6.lt2
  have hd7 := hd6.fr f7 (by simp) (by simp)
  have c7 := c6.and f7 (by simp)
  simp only [bs1, oA_some]
  have g8 := Fr.push [] h7 [some ⟨1, 5, byt [9]⟩]
  have l8 := LS.new (h := h7) 5 [9]
  have l78 := l7.fr g8 (by simp)
  have hd8 := hd7.fr g8 (by simp) (by simp)
  generalize h7 ++ [some ⟨1, 5, byt [9]⟩] = h8 at g8 l8 hd8 l78
  have m8 := g8.1
  have c8 := c7.and g8 (by simp)
  refine l78.app l8.src (by simp; omega) fun s9 b9 h9 l9 f9 hb9 => ?_
  have m9 := f9.1
  have hd9 := hd8.fr f9 (by simp; omega) (by simp; omega)
  have c9 := c8.and f9 (by simp; omega)
  have e9 := l9.len (P := Try.prog) (t := 22) el22
  clear l78 l8 l7
  refine append47 hd9 (ys := b) rfl (by omega) fun b10 h10 hd10 f10 hb10 => awake9 ?_
  have c10 := c9.and f10 (by simp; omega)
  simp only [nilI_ptr, oP_some, oP_false, oD_some, oA_some, oS_some, oG_true, oG_false, gW_bool, gW_tup, BEq.rfl, tf, ft, callS_true, callS_false, pickI_bool, bK'_bool, if_true, if_false, Bool.false_eq_true, bin_int, arithI, len_vs, eql_nil, neq_nil, readsG_true, readsG_false, reads_some, true_and, retK_v, retK_nil, fa47_0, fa47_1, unI_not, oAG_true]
  refine bytes47 hd10 (by simp; omega) ?_
  simp only [nilI_ptr, oP_some, oP_false, oD_some, oA_some, oS_some, oG_true, oG_false, gW_bool, gW_tup, BEq.rfl, tf, ft, callS_true, callS_false, pickI_bool, bK'_bool, if_true, if_false, Bool.false_eq_true, bin_int, arithI, len_vs, eql_nil, neq_nil, readsG_true, readsG_false, reads_some, true_and, retK_v, retK_nil, fa47_0, fa47_1, unI_not, oAG_true, bs0]
  have g11 := Fr.push [] h10 [some ⟨1, 5, byt []⟩]
  have l11 := LS.new (h := h10) 5 []
  have hl11 : h10.length < (h10 ++ [some (⟨1, 5, byt []⟩ : Blk)]).length := by simp
  generalize h10 ++ [some ⟨1, 5, byt []⟩] = h11 at g11 l11 hl11
  have c11 := c10.and g11 (by simp)
  have m10 := f10.1
  refine l11.app (ys := a) rfl (by simp; omega) fun s12 b12 h12 l12 f12 hb12 => ?_
  try simp only [nilI_ptr, oP_some, oP_false, oD_some, oA_some, oS_some, oG_true, oG_false, gW_bool, gW_tup, BEq.rfl, tf, ft, callS_true, callS_false, pickI_bool, bK'_bool, if_true, if_false, Bool.false_eq_true, bin_int, arithI, len_vs, eql_nil, neq_nil, readsG_true, readsG_false, reads_some, true_and, retK_v, retK_nil, fa47_0, fa47_1, unI_not, oAG_true]
  have c12 := c11.and f12 (by simp; omega)
  refine l12.app (ys := b) rfl (by simp; omega) fun s13 b13 h13 l13 f13 hb13 => ?_
  have c13 := c12.and f13 (by simp; omega)
  simp only [List.nil_append] at l13
  refine same_bytes rfl l13.src ?_
  have e14 : ((a ++ [9] : List Int).length : Int) = (a.length : Int) + 1 := by simp
  rw [e14] at e9
  simp only [nilI_ptr, oP_some, oP_false, oD_some, oA_some, oS_some, oG_true, oG_false, gW_bool, gW_tup, BEq.rfl, tf, ft, callS_true, callS_false, pickI_bool, bK'_bool, if_true, if_false, Bool.false_eq_true, bin_int, arithI, len_vs, eql_nil, neq_nil, readsG_true, readsG_false, reads_some, true_and, retK_v, retK_nil, fa47_0, fa47_1, unI_not, oAG_true, e9]
  rw [wrap64 (by omega) (by omega)]
  simp only [nilI_ptr, oP_some, oP_false, oD_some, oA_some, oS_some, oG_true, oG_false, gW_bool, gW_tup, BEq.rfl, tf, ft, callS_true, callS_false, pickI_bool, bK'_bool, if_true, if_false, Bool.false_eq_true, bin_int, arithI, len_vs, eql_nil, neq_nil, readsG_true, readsG_false, reads_some, true_and, retK_v, retK_nil, fa47_0, fa47_1, unI_not, oAG_true]
  exact hend' _ c13
end Go.Ideal
