/- The law DiskTruncates over the ideal memory. -/
import Derived.Test.YtjfpggiglgkfeaaDC3
set_option linter.unusedVariables false
set_option linter.unusedSimpArgs false
namespace Go.Ideal
open Go.Proofs

theorem mod_eq {v n : Int} (hn : 0 < n) : (v.tmod n + n).tmod n = v % n := by
  have h1 : -n < v.tmod n := by
    have := Int.lt_tmod_of_pos v hn
    omega
  rw [Int.tmod_eq_emod_of_nonneg (by omega), Int.add_emod_right]
  have h2 : v.tmod n = v + n * (-(v.tdiv n)) := by
    have := Int.tmod_add_mul_tdiv v n
    rw [Int.mul_neg]; omega
  rw [h2, Int.add_mul_emod_self_left]

theorem mod23 {h : Heap} {K : IV → Heap → Prop} {v n : Int} (hn : 0 < n) (hn' : n ≤ 1073741824) (k : K (.int .i64 (v % n)) h) : CallsI Try.prog 23 [.int .i64 v, .int .i64 n] h K := by
  apply F23
  have h1 : -n < v.tmod n := by
    have := Int.lt_tmod_of_pos v hn
    omega
  have h2 : v.tmod n < n := Int.tmod_lt_of_pos v hn
  simp only [F23_1, bin_int, arithI, if_true, if_neg (by omega : ¬ n = 0), oD_some]
  rw [wrap64 (by omega) (by omega), mod_eq hn]
  exact k
theorem between19 {h : Heap} {K : IV → Heap → Prop} {v low high : Int} (h0 : -1000000 ≤ low) (h1 : low ≤ high) (h2 : high ≤ 1000000) (k : ∀ r, low ≤ r → r ≤ high → K (.int .i64 r) h) : CallsI Try.prog 19 [.int .i64 v, .int .i64 low, .int .i64 high] h K := by
  apply F19
  simp only [F19_1, bin_int, arithI, if_true, oD_some]
  rw [wrap64 (x := high - low) (by omega) (by omega), wrap64 (by omega) (by omega)]
  refine mod23 (by omega) (by omega) ?_
  have h3 := Int.emod_nonneg v (by omega : high - low + 1 ≠ 0)
  have h4 := Int.emod_lt_of_pos v (by omega : 0 < high - low + 1)
  simp only [bin_int, arithI, if_true, oD_some, retK_v]
  rw [wrap64 (by omega) (by omega)]
  exact k _ (by omega) (by omega)

theorem truncate47 {h : Heap} {d b : Nat} {xs : List Int} {n m : Int} {K : IV → Heap → Prop} (hd : DD h d b xs n) (hlen : xs.length ≤ 1073741824) (h0 : 0 ≤ n) (hn : n ≤ xs.length)
    (k1 : (m < 0 ∨ m > xs.length) → K (.int .i64 1) h)
    (k : 0 ≤ m → m ≤ xs.length → ∀ b' h', DD h' d b' (xs.take m.toNat) (min n m) → Fr [d, b] h h' → (b' = b ∨ b' = d ∨ h.length ≤ b') → K (.int .i64 0) h') : CallsI Try.prog 20 [.ptr d 0 0, .int .i64 m] h K := by
  apply F20
  obtain ⟨s, b0, h1, h2, h3, h4⟩ := hd.own
  simp only [F20_5, F20_4, F20_4g, F20_3, F20_2, F20_2g, nilI_ptr, bin_int, arithI, if_true, oD_some, gW_bool]
  by_cases hm0 : m < 0
  · simp only [hm0, decide_true, show (true == false) = false from rfl, oG_false, oP_false, pickI_bool, if_true, oP_some, bK'_bool, retK_v]
    exact k1 (.inl hm0)
  by_cases hm1 : m > xs.length
  · simp only [nilI_ptr, hm0, hm1, decide_true, decide_false, BEq.rfl, oG_true, oD_some, fa47_0, ld0 h1, h2.len el22, bin_int, arithI, if_true, pickI_bool, Bool.false_eq_true, if_false, oP_some, bK'_bool, retK_v]
    exact k1 (.inr hm1)
  simp only [nilI_ptr, hm0, hm1, decide_false, BEq.rfl, oG_true, oD_some, fa47_0, ld0 h1, h2.len el22, bin_int, arithI, if_true, pickI_bool, Bool.false_eq_true, if_false, oP_some, bK'_bool, retK_v]
  obtain ⟨s', e1, l'⟩ := h2.slice (k := .i64) (m := m) el22 sz5 (by omega) (by omega)
  simp only [F20_1, nilI_ptr, oP_some, fa47_0, fa47_1, ld0 h1, oD_some, e1, st0 h1 l'.one, oS_some]
  have g1 := set_get (y := some ⟨2, 47, [[s', .int .i64 n]]⟩) h1
  have l2 : LS 5 (h.set d (some ⟨2, 47, [[s', .int .i64 n]]⟩)) s' b0 _ := l'.fr (Fr.set (A := [d]) (by simp) _) (by simpa using h3)
  have em : (if m < n then m else n) = min n m := by split <;> omega
  simp only [ld1 g1, oD_some, mmI, if_true, Bool.false_eq_true, if_false, em, st1 g1, oS_some, retK_v]
  obtain ⟨b2, d2, e4⟩ := Dk.put (t := 47) (n := min n m) g1 l2 h3
  exact k (by omega) (by omega) b2 _ d2 ((Fr.refl [b0] h).own h4 ((Fr.set (A := [d]) (by simp) _).trans (C := [d]) (Fr.set (A := [d]) (by simp) _) (fun _ _ h => h) (fun _ _ h => h))) (by omega)

theorem tf : (true == false) = false := rfl
theorem ft : (false == true) = false := rfl
theorem unI_not (b : Bool) : unI .not (.bool b) = some (.bool !b) := rfl

theorem truncates6 {h : Heap} {K : IV → Heap → Prop} {a b : List Int} {m0 keep : Int} (k : K (.bool true) h) : CallsI Try.prog 6 [.vs 1 (byt a), .vs 1 (byt b), .int .i64 m0, .int .i64 keep] h K := by
  refine CallsI.pure (F6 ?_)
  simp only [F6_23, F6_22, F6_22g, F6_21, F6_20, F6_20g]
  refine new47 fun hd => ?_
  have f0 := Fr.push [] h [some ⟨2, 47, [[.snil, .int .i64 0]]⟩]
  have hl0 : h.length < (h ++ [some (⟨2, 47, [[.snil, .int .i64 0]]⟩ : Blk)]).length := by simp
  generalize h ++ [some ⟨2, 47, [[.snil, .int .i64 0]]⟩] = h0 at hd f0 hl0
  have hend : ∀ h', Fr [] h h' → Bel h.length (.bool true) ∧ h <+: h' ∧ ((∀ (b : Nat) (k : Blk), h[b]? = some (some k) → Belss h.length k.es) → K (.bool true) h) := fun h' f => And.intro trivial (And.intro f.pfx fun _ => k)
  generalize hK : (fun (r : IV) (h' : Heap) => Bel h.length r ∧ h <+: h' ∧ ((∀ (b : Nat) (k : Blk), h[b]? = some (some k) → Belss h.length k.es) → K r h)) = K'
  have hend' : ∀ h', Fr [] h h' → K' (.bool true) h' := fun h' f => by rw [← hK]; exact hend h' f
  clear hend hK k
  by_cases ha : (a.length : Int) > 300
  · simp only [F6_19, F6_18, F6_18g, nilI_ptr, oP_some, oP_false, oD_some, oA_some, oS_some, oG_true, oG_false, gW_bool, gW_tup, BEq.rfl, tf, ft, callS_true, callS_false, pickI_bool, bK'_bool, if_true, if_false, Bool.false_eq_true, bin_int, arithI, len_vs, eql_nil, neq_nil, readsG_true, readsG_false, reads_some, true_and, retK_v, retK_nil, fa47_0, fa47_1, unI_not, ha, decide_true]
    refine awake9 ?_
    simp only [nilI_ptr, oP_some, oP_false, oD_some, oA_some, oS_some, oG_true, oG_false, gW_bool, gW_tup, BEq.rfl, tf, ft, callS_true, callS_false, pickI_bool, bK'_bool, if_true, if_false, Bool.false_eq_true, bin_int, arithI, len_vs, eql_nil, neq_nil, readsG_true, readsG_false, reads_some, true_and, retK_v, retK_nil, fa47_0, fa47_1, unI_not]
    exact hend' _ f0
  by_cases hb : (b.length : Int) > 300
  · simp only [F6_19, F6_18, F6_18g, nilI_ptr, oP_some, oP_false, oD_some, oA_some, oS_some, oG_true, oG_false, gW_bool, gW_tup, BEq.rfl, tf, ft, callS_true, callS_false, pickI_bool, bK'_bool, if_true, if_false, Bool.false_eq_true, bin_int, arithI, len_vs, eql_nil, neq_nil, readsG_true, readsG_false, reads_some, true_and, retK_v, retK_nil, fa47_0, fa47_1, unI_not, ha, hb, decide_true, decide_false]
    refine awake9 ?_
    simp only [nilI_ptr, oP_some, oP_false, oD_some, oA_some, oS_some, oG_true, oG_false, gW_bool, gW_tup, BEq.rfl, tf, ft, callS_true, callS_false, pickI_bool, bK'_bool, if_true, if_false, Bool.false_eq_true, bin_int, arithI, len_vs, eql_nil, neq_nil, readsG_true, readsG_false, reads_some, true_and, retK_v, retK_nil, fa47_0, fa47_1, unI_not]
    exact hend' _ f0
  simp only [F6_19, F6_18, F6_18g, nilI_ptr, oP_some, oP_false, oD_some, oA_some, oS_some, oG_true, oG_false, gW_bool, gW_tup, BEq.rfl, tf, ft, callS_true, callS_false, pickI_bool, bK'_bool, if_true, if_false, Bool.false_eq_true, bin_int, arithI, len_vs, eql_nil, neq_nil, readsG_true, readsG_false, reads_some, true_and, retK_v, retK_nil, fa47_0, fa47_1, unI_not, ha, hb, decide_false, F6_17, F6_16, F6_16g]
  refine append47 hd (ys := a) rfl (by simp; omega) fun b1 h1 hd1 f1 hb1 => ?_
  simp only [F6_15, F6_14, F6_14g]
  refine sync47 hd1 fun b2 h2 hd2 f2 hb2 => ?_
  simp only [F6_13, F6_12, F6_12g]
  refine append47 hd2 (ys := b) rfl (by simp; omega) fun b3 h3 hd3 f3 hb3 => ?_
  simp only [F6_11, F6_10, F6_10g, bs0, oA_some]
  have q0 := hd.lt
  have m0' := f1.1; have m1 := f2.1; have m2 := f3.1
  have c1 := f0.and f1 (by simp)
  have c2 := c1.and f2 (by simp; omega)
  have c3 := c2.and f3 (by simp; omega)
  have g4 := Fr.push [] h3 [some ⟨1, 5, byt []⟩]
  have l4 := LS.new (h := h3) 5 []
  have hd4 := hd3.fr g4 (by simp) (by simp)
  have hl4 : h3.length < (h3 ++ [some (⟨1, 5, byt []⟩ : Blk)]).length := by simp
  generalize h3 ++ [some ⟨1, 5, byt []⟩] = h4 at g4 l4 hd4 hl4
  have m3 := g4.1
  have c4 := c3.and g4 (by simp)
  refine l4.app (ys := a) rfl (by simp; omega) fun s5 b5 h5 l5 f5 hb5 => ?_
  have q3 := hd3.lt2; have q4 := hd4.lt2
  have hd5 := hd4.fr f5 (by simp; omega) (by simp; omega)
  refine l5.app (ys := b) rfl (by simp; omega) fun s6 b6 h6 l6 f6 hb6 => ?_
  have m5 := f5.1; have m6 := f6.1
  have c5 := c4.and f5 (by simp; omega)
  have c6 := c5.and f6 (by simp; omega)
  have hd6 := hd5.fr f6 (by simp; omega) (by simp; omega)
  have n6 : b6 < h6.length ∧ b6 ≠ h.length ∧ b6 ≠ b3 := by omega
  have n3 : h.length ≤ b3 := by omega
  have hl6 : h.length < h6.length := by omega
  simp only [List.nil_append] at hd6 l6
  have hab : (a ++ b).length ≤ 600 := by simp; omega
  have hla : a.length ≤ (a ++ b).length := by simp
  clear hb5 hb6 hb3 hb2 hb1 f1 f2 f3 f5 f6 g4 c1 c2 c3 c4 c5 hd1 hd2 hd3 hd4 hd5 l4 l5 q0 q3 q4 m0' m1 m2 m3 m5 m6 hl4 f0
  simp only [F6_9, F6_8, F6_8g, l6.len el22, nilI_ptr, oP_some, oP_false, oD_some, oA_some, oS_some, oG_true, oG_false, gW_bool, gW_tup, BEq.rfl, tf, ft, callS_true, callS_false, pickI_bool, bK'_bool, if_true, if_false, Bool.false_eq_true, bin_int, arithI, len_vs, eql_nil, neq_nil, readsG_true, readsG_false, reads_some, true_and, retK_v, retK_nil, fa47_0, fa47_1, unI_not]
  rw [wrap64 (by omega) (by omega)]
  refine between19 (by omega) (by omega) (by omega) fun m hm1 hm2 => ?_
  simp only [F6_7, F6_6, F6_6g]
  refine truncate47 hd6 (by omega) (by omega) (by omega) (fun hbad => ?_) fun hm3 hm4 b7 h7 hd7 f7 hb7 => ?_
  · have fin : ∀ (h' : Heap), h' = h6 → CallsI Try.prog 9 [] h' (fun t60_68 h69 =>
        oG (gW t60_68 true) (some (.int .i64 1)) h69 fun t62_71 =>
        oG (gW t60_68 true) (binI Try.prog .eql 41 t62_71 (.int .i64 1)) h69 fun t63_72 =>
        oP (some true) (pickI t60_68 t63_72 (.bool false) h69) h69 fun t64_73 =>
        oG (gW t64_73 true) (some (.ptr h.length 0 0)) h69 fun t66_75 =>
        callS Try.prog (gW t64_73 true) 13 [t66_75] h69 fun t67_76 h77 =>
        oG (gW t64_73 true) (some s6) h77 fun t68_78 =>
        callS Try.prog (gW t64_73 true) 15 [t67_76, t68_78] h77 fun t69_79 h80 =>
        oP (some true) (pickI t64_73 t69_79 (.bool false) h80) h80 fun t70_81 =>
        oG (gW t70_81 true) (some (.ptr h.length 0 0)) h80 fun t72_83 =>
        callS Try.prog (gW t70_81 true) 14 [t72_83] h80 fun t73_84 h85 =>
        oG (gW t70_81 true) (some (.vs 1 (byt a))) h85 fun t74_86 =>
        oG (gW t70_81 true) (lenI Try.prog 22 t74_86) h85 fun t75_87 =>
        oG (gW t70_81 true) (binI Try.prog .eql 3 t73_84 t75_87) h85 fun t76_88 =>
        oP (some true) (pickI t70_81 t76_88 (.bool false) h85) h85 fun t77_89 =>
        retK Try.prog [.v t77_89] h85 K') := by
      rintro h' rfl
      refine awake9 ?_
      simp only [nilI_ptr, oP_some, oP_false, oD_some, oA_some, oS_some, oG_true, oG_false, gW_bool, gW_tup, BEq.rfl, tf, ft, callS_true, callS_false, pickI_bool, bK'_bool, if_true, if_false, Bool.false_eq_true, bin_int, arithI, len_vs, eql_nil, neq_nil, readsG_true, readsG_false, reads_some, true_and, retK_v, retK_nil, fa47_0, fa47_1, unI_not]
      refine bytes47 hd6 (by omega) (same_bytes rfl l6.src ?_)
      simp only [nilI_ptr, oP_some, oP_false, oD_some, oA_some, oS_some, oG_true, oG_false, gW_bool, gW_tup, BEq.rfl, tf, ft, callS_true, callS_false, pickI_bool, bK'_bool, if_true, if_false, Bool.false_eq_true, bin_int, arithI, len_vs, eql_nil, neq_nil, readsG_true, readsG_false, reads_some, true_and, retK_v, retK_nil, fa47_0, fa47_1, unI_not]
      refine durable47 hd6 ?_
      simp only [nilI_ptr, oP_some, oP_false, oD_some, oA_some, oS_some, oG_true, oG_false, gW_bool, gW_tup, BEq.rfl, tf, ft, callS_true, callS_false, pickI_bool, bK'_bool, if_true, if_false, Bool.false_eq_true, bin_int, arithI, len_vs, eql_nil, neq_nil, readsG_true, readsG_false, reads_some, true_and, retK_v, retK_nil, fa47_0, fa47_1, unI_not]
      exact hend' _ c6
    simp only [F6_5, F6_4, F6_4g, l6.len el22, nilI_ptr, oP_some, oP_false, oD_some, oA_some, oS_some, oG_true, oG_false, gW_bool, gW_tup, BEq.rfl, tf, ft, callS_true, callS_false, pickI_bool, bK'_bool, if_true, if_false, Bool.false_eq_true, bin_int, arithI, len_vs, eql_nil, neq_nil, readsG_true, readsG_false, reads_some, true_and, retK_v, retK_nil, fa47_0, fa47_1, unI_not]
    by_cases hm5 : m < 0
    · simp only [hm5, decide_true, nilI_ptr, oP_some, oP_false, oD_some, oA_some, oS_some, oG_true, oG_false, gW_bool, gW_tup, BEq.rfl, tf, ft, callS_true, callS_false, pickI_bool, bK'_bool, if_true, if_false, Bool.false_eq_true, bin_int, arithI, len_vs, eql_nil, neq_nil, readsG_true, readsG_false, reads_some, true_and, retK_v, retK_nil, fa47_0, fa47_1, unI_not]
      exact fin _ rfl
    · simp only [hm5, decide_false, nilI_ptr, oP_some, oP_false, oD_some, oA_some, oS_some, oG_true, oG_false, gW_bool, gW_tup, BEq.rfl, tf, ft, callS_true, callS_false, pickI_bool, bK'_bool, if_true, if_false, Bool.false_eq_true, bin_int, arithI, len_vs, eql_nil, neq_nil, readsG_true, readsG_false, reads_some, true_and, retK_v, retK_nil, fa47_0, fa47_1, unI_not, l6.len el22, show m > ((a ++ b).length : Int) by omega, decide_true]
      exact fin _ rfl
  have l7 := l6.fr f7 (by simp; omega)
  have c7 := c6.and f7 (by simp; omega)
  simp only [F6_5, F6_4, F6_4g, nilI_ptr, oP_some, oP_false, oD_some, oA_some, oS_some, oG_true, oG_false, gW_bool, gW_tup, BEq.rfl, tf, ft, callS_true, callS_false, pickI_bool, bK'_bool, if_true, if_false, Bool.false_eq_true, bin_int, arithI, len_vs, eql_nil, neq_nil, readsG_true, readsG_false, reads_some, true_and, retK_v, retK_nil, fa47_0, fa47_1, unI_not, show ¬ m < 0 by omega, decide_false, l7.len el22, show ¬ m > ((a ++ b).length : Int) by omega, F6_3, F6_2, F6_2g, show ((0 : Int) != 0) = false from rfl]
  obtain ⟨s9, e9, l9⟩ := l7.slice (k := .i64) (m := m) el22 sz5 hm3 hm4
  have em : (if (a.length : Int) < m then (a.length : Int) else m) = min (a.length : Int) m := by split <;> omega
  simp only [nilI_ptr, oP_some, oP_false, oD_some, oA_some, oS_some, oG_true, oG_false, gW_bool, gW_tup, BEq.rfl, tf, ft, callS_true, callS_false, pickI_bool, bK'_bool, if_true, if_false, Bool.false_eq_true, bin_int, arithI, len_vs, eql_nil, neq_nil, readsG_true, readsG_false, reads_some, true_and, retK_v, retK_nil, fa47_0, fa47_1, unI_not, e9]
  refine bytes47 hd7 (by simp; omega) ?_
  simp only [nilI_ptr, oP_some, oP_false, oD_some, oA_some, oS_some, oG_true, oG_false, gW_bool, gW_tup, BEq.rfl, tf, ft, callS_true, callS_false, pickI_bool, bK'_bool, if_true, if_false, Bool.false_eq_true, bin_int, arithI, len_vs, eql_nil, neq_nil, readsG_true, readsG_false, reads_some, true_and, retK_v, retK_nil, fa47_0, fa47_1, unI_not, e9]
  refine same_bytes rfl l9.src ?_
  simp only [nilI_ptr, oP_some, oP_false, oD_some, oA_some, oS_some, oG_true, oG_false, gW_bool, gW_tup, BEq.rfl, tf, ft, callS_true, callS_false, pickI_bool, bK'_bool, if_true, if_false, Bool.false_eq_true, bin_int, arithI, len_vs, eql_nil, neq_nil, readsG_true, readsG_false, reads_some, true_and, retK_v, retK_nil, fa47_0, fa47_1, unI_not, Bool.not_true, mmI, em]
  refine durable47 hd7 ?_
  have hx : (((a ++ b).take m.toNat).length : Int) = m := by rw [List.length_take]; omega
  simp only [nilI_ptr, oP_some, oP_false, oD_some, oA_some, oS_some, oG_true, oG_false, gW_bool, gW_tup, BEq.rfl, tf, ft, callS_true, callS_false, pickI_bool, bK'_bool, if_true, if_false, Bool.false_eq_true, bin_int, arithI, len_vs, eql_nil, neq_nil, readsG_true, readsG_false, reads_some, true_and, retK_v, retK_nil, fa47_0, fa47_1, unI_not, bne_self_eq_false, F6_1]
  refine crash47 hd7 (by omega) (by omega) (by omega) fun b8 h8 hd8 f8 hb8 => ?_
  have l8 := l7.fr f8 (by simp; omega)
  have c8 := c7.and f8 (by simp; omega)
  generalize hmm : crashN (min (a.length : Int) m) keep (((a ++ b).take m.toNat).length : Int) = q at hd8
  have hq0 : min (a.length : Int) m ≤ q := by rw [← hmm]; unfold crashN; omega
  have hq1 : q ≤ m := by rw [← hmm]; unfold crashN; omega
  rw [List.take_take, Nat.min_eq_left (by omega)] at hd8
  have hx2 : (((a ++ b).take q.toNat).length : Int) = q := by rw [List.length_take]; omega
  refine bytes47 hd8 (by omega) (awake9 ?_)
  obtain ⟨s10, e10, l10⟩ := l8.slice (k := .i64) (m := q) el22 sz5 (by omega) (by omega)
  have d1 : decide (q ≥ min (a.length : Int) m) = true := decide_eq_true (by omega)
  have d2 : decide (q ≤ m) = true := decide_eq_true (by omega)
  simp only [nilI_ptr, oP_some, oP_false, oD_some, oA_some, oS_some, oG_true, oG_false, gW_bool, gW_tup, BEq.rfl, tf, ft, callS_true, callS_false, pickI_bool, bK'_bool, if_true, if_false, Bool.false_eq_true, bin_int, arithI, len_vs, eql_nil, neq_nil, readsG_true, readsG_false, reads_some, true_and, retK_v, retK_nil, fa47_0, fa47_1, unI_not, hx2, mmI, em, d1, d2, e10]
  refine same_bytes rfl l10.src ?_
  exact hend' _ c8
end Go.Ideal
