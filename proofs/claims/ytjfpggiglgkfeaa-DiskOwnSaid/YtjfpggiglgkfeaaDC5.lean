/- The law DiskOwn over the ideal memory. -/
import Derived.Test.YtjfpggiglgkfeaaDC4
set_option linter.unusedVariables false
set_option linter.unusedSimpArgs false
namespace Go.Ideal
open Go.Proofs

theorem byt_set (xs : List Int) (i : Nat) (v : Int) : byt (xs.set i v) = (byt xs).set i [.int .u8 v] := by simp [byt, List.map_set]
/-- A byte of a live slice is written. -/
theorem LS.write {h : Heap} {s : IV} {b : Nat} {xs : List Int} {i v : Int} {K : Heap → Prop} (l : LS 5 h s b xs) (h0 : 0 ≤ i) (h1 : i < xs.length)
    (k : ∀ xs' h', LS 5 h' s b xs' → xs'.length = xs.length → Fr [b] h h' → K h') : oD (indexAddrI Try.prog 22 s (.int .i64 i) h) h fun p => oS (storeI Try.prog 5 p (.int .u8 v) h) h fun h' => K h' := by
  rcases l with ⟨rfl, rfl⟩ | ⟨lo, es, rfl, h2, h3, h4⟩
  · simp at h1; omega
  · have hi : lo + i.toNat < es.length := by omega
    have he : es[lo + i.toNat]? = some [.int .u8 (xs.getD i.toNat 0)] := by
      have : ((es.drop lo).take xs.length)[i.toNat]? = (byt xs)[i.toNat]? := by rw [h4]
      rw [List.getElem?_take_of_lt (by omega), List.getElem?_drop] at this
      rw [this]
      have hlt : i.toNat < xs.length := by omega
      simp [byt, List.getD_eq_getElem?_getD, hlt]
    have e1 : indexAddrI Try.prog 22 (.sl b lo xs.length) (.int .i64 i) h = some (.ptr b (lo + i.toNat) 0) := by
      simp [indexAddrI, h0, h1, h2]
    have e2 : storeI Try.prog 5 (.ptr b (lo + i.toNat) 0) (.int .u8 v) h = some (h.set b (some ⟨1, 5, es.set (lo + i.toNat) [.int .u8 v]⟩)) := by
      simp [storeI, h2, he, cellsI, oneI, splice]
    simp only [e1, oD_some, e2, oS_some]
    refine k (xs.set i.toNat v) _ (.inr ⟨lo, es.set (lo + i.toNat) [.int .u8 v], by simp, set_get h2, by simpa using h3, ?_⟩) (by simp) (Fr.set (by simp) _)
    rw [List.length_set, byt_set, ← h4]
    apply List.ext_getElem?
    intro j
    simp only [List.getElem?_take, List.getElem?_drop, List.getElem?_set, List.length_take, List.length_drop]
    by_cases hj : j < xs.length
    · by_cases hij : i.toNat = j
      · subst hij; simp [hj, hi]; omega
      · simp [hj, hij]
    · simp [hj]; omega

theorem loop14 {K : IV → Heap → Prop} {x0 x1 x7 x8 : IV} {by_ : Int} {b : Nat} : ∀ (n : Nat) (h : Heap) (xs : List Int) (i : Int), LS 5 h x8 b xs → 0 ≤ i → i ≤ xs.length → xs.length ≤ 1000 → n = xs.length - i.toNat →
    (∀ xs' h', LS 5 h' x8 b xs' → xs'.length = xs.length → Fr [b] h h' → F4_13 K x0 x1 (.int .u8 by_) x7 h') → F4_14 K x0 x1 (.int .u8 by_) x7 x8 (.int .i64 i) h := by
  intro n
  induction n with
  | zero =>
    intro h xs i l h0 h1 h2 hn k
    apply F4_14_round
    have hlt : ¬ i < (xs.length : Int) := by omega
    simp only [F4_19, F4_18, F4_18g, l.len el22, nilI_ptr, oP_some, oP_false, oD_some, oA_some, oS_some, oG_true, oG_false, gW_bool, gW_tup, BEq.rfl, tf, ft, callS_true, callS_false, pickI_bool, bK'_bool, if_true, if_false, Bool.false_eq_true, bin_int, arithI, len_vs, eql_nil, neq_nil, readsG_true, readsG_false, reads_some, true_and, retK_v, retK_nil, fa47_0, fa47_1, unI_not, oAG_true, hlt, decide_false]
    exact k xs h l rfl (Fr.refl _ _)
  | succ n ih =>
    intro h xs i l h0 h1 h2 hn k
    apply F4_14_round
    have hlt : i < (xs.length : Int) := by omega
    simp only [F4_19, F4_18, F4_18g, l.len el22, nilI_ptr, oP_some, oP_false, oD_some, oA_some, oS_some, oG_true, oG_false, gW_bool, gW_tup, BEq.rfl, tf, ft, callS_true, callS_false, pickI_bool, bK'_bool, if_true, if_false, Bool.false_eq_true, bin_int, arithI, len_vs, eql_nil, neq_nil, readsG_true, readsG_false, reads_some, true_and, retK_v, retK_nil, fa47_0, fa47_1, unI_not, oAG_true, hlt, decide_true, F4_17, F4_16, F4_16g]
    refine l.write h0 hlt fun xs' h' l' hl' f' => ?_
    simp only [F4_15, F4_15g, nilI_ptr, oP_some, oP_false, oD_some, oA_some, oS_some, oG_true, oG_false, gW_bool, gW_tup, BEq.rfl, tf, ft, callS_true, callS_false, pickI_bool, bK'_bool, if_true, if_false, Bool.false_eq_true, bin_int, arithI, len_vs, eql_nil, neq_nil, readsG_true, readsG_false, reads_some, true_and, retK_v, retK_nil, fa47_0, fa47_1, unI_not, oAG_true]
    rw [wrap64 (by omega) (by omega)]
    exact ih h' xs' (i + 1) l' (by omega) (by omega) (by omega) (by omega) fun xs2 h2 l2 hl2 f2 => k xs2 h2 l2 (by omega) (f'.trans f2 (fun _ _ h => h) (fun _ _ h => h))

theorem loop2 {K : IV → Heap → Prop} {x0 x1 x7 x10 : IV} {by_ : Int} {b : Nat} : ∀ (n : Nat) (h : Heap) (xs : List Int) (i : Int), LS 5 h x10 b xs → 0 ≤ i → i ≤ xs.length → xs.length ≤ 1000 → n = xs.length - i.toNat →
    (∀ xs' h', LS 5 h' x10 b xs' → xs'.length = xs.length → Fr [b] h h' → F4_1 K x0 x1 x7 h') → F4_2 K x0 x1 (.int .u8 by_) x7 x10 (.int .i64 i) h := by
  intro n
  induction n with
  | zero =>
    intro h xs i l h0 h1 h2 hn k
    apply F4_2_round
    have hlt : ¬ i < (xs.length : Int) := by omega
    simp only [F4_7, F4_6, F4_6g, l.len el22, nilI_ptr, oP_some, oP_false, oD_some, oA_some, oS_some, oG_true, oG_false, gW_bool, gW_tup, BEq.rfl, tf, ft, callS_true, callS_false, pickI_bool, bK'_bool, if_true, if_false, Bool.false_eq_true, bin_int, arithI, len_vs, eql_nil, neq_nil, readsG_true, readsG_false, reads_some, true_and, retK_v, retK_nil, fa47_0, fa47_1, unI_not, oAG_true, hlt, decide_false]
    exact k xs h l rfl (Fr.refl _ _)
  | succ n ih =>
    intro h xs i l h0 h1 h2 hn k
    apply F4_2_round
    have hlt : i < (xs.length : Int) := by omega
    simp only [F4_7, F4_6, F4_6g, l.len el22, nilI_ptr, oP_some, oP_false, oD_some, oA_some, oS_some, oG_true, oG_false, gW_bool, gW_tup, BEq.rfl, tf, ft, callS_true, callS_false, pickI_bool, bK'_bool, if_true, if_false, Bool.false_eq_true, bin_int, arithI, len_vs, eql_nil, neq_nil, readsG_true, readsG_false, reads_some, true_and, retK_v, retK_nil, fa47_0, fa47_1, unI_not, oAG_true, hlt, decide_true, F4_5, F4_4, F4_4g]
    refine l.write h0 hlt fun xs' h' l' hl' f' => ?_
    simp only [F4_3, F4_3g, nilI_ptr, oP_some, oP_false, oD_some, oA_some, oS_some, oG_true, oG_false, gW_bool, gW_tup, BEq.rfl, tf, ft, callS_true, callS_false, pickI_bool, bK'_bool, if_true, if_false, Bool.false_eq_true, bin_int, arithI, len_vs, eql_nil, neq_nil, readsG_true, readsG_false, reads_some, true_and, retK_v, retK_nil, fa47_0, fa47_1, unI_not, oAG_true]
    rw [wrap64 (by omega) (by omega)]
    exact ih h' xs' (i + 1) l' (by omega) (by omega) (by omega) (by omega) fun xs2 h2 l2 hl2 f2 => k xs2 h2 l2 (by omega) (f'.trans f2 (fun _ _ h => h) (fun _ _ h => h))
end Go.Ideal
