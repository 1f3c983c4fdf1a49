/- Part of a proof: the text of the functions over the ideal memory. -/
import Derived.Test.YtjfpggiglgkfeaaDS1
set_option linter.unusedVariables false
set_option linter.unusedSimpArgs false
namespace Go.Ideal
open Go.Proofs

/-! ### function 3: cellplane/cellplanelaw07.DiskKeeps -/
def D3 : Nat → DI
  | _ => ⟨[], [], []⟩
noncomputable def c3 : Code := bodyC Try.f3
noncomputable def c3_R : Code := cR c3
noncomputable def c3_RR : Code := cR c3_R
noncomputable def c3_RRR : Code := cR c3_RR
noncomputable def F3_1 (K : IV → Heap → Prop) (x0 x1 x2 x3 x9 : IV) (h : Heap) : Prop :=
  CallsI Try.prog 10 [x9, x0] h fun t34_3 h4 =>
  CallsI Try.prog 11 [x9] h4 fun t36_6 h7 =>
  CallsI Try.prog 10 [x9, x1] h7 fun t39_10 h11 =>
  oA (buildSliceV Try.prog 22 0 [] h11) h11 fun t40_12 h13 =>
  oA (appendI Try.prog 22 22 t40_12 x0 h13) h13 fun t42_15 h16 =>
  oA (appendI Try.prog 22 22 t42_15 x1 h16) h16 fun t44_18 h19 =>
  CallsI Try.prog 12 [x9, x2] h19 fun t47_23 h24 =>
  CallsI Try.prog 13 [x9] h24 fun t49_26 h27 =>
  CallsI Try.prog 14 [x9] h27 fun t51_30 h31 =>
  CallsI Try.prog 12 [x9, x3] h31 fun t54_35 h36 =>
  CallsI Try.prog 13 [x9] h36 fun t56_38 h39 =>
  CallsI Try.prog 9 [] h39 fun t57_41 h42 =>
  oG (gW t57_41 true) (some t49_26) h42 fun t59_44 =>
  oG (gW t57_41 true) (lenI Try.prog 22 t59_44) h42 fun t60_45 =>
  oG (gW t57_41 true) (some x0) h42 fun t61_46 =>
  oG (gW t57_41 true) (lenI Try.prog 22 t61_46) h42 fun t62_47 =>
  oG (gW t57_41 true) (binI Try.prog .geq 3 t60_45 t62_47) h42 fun t63_48 =>
  oP (some true) (pickI t57_41 t63_48 (.bool false) h42) h42 fun t64_49 =>
  oG (gW t64_49 true) (some t49_26) h42 fun t66_51 =>
  oG (gW t64_49 true) (lenI Try.prog 22 t66_51) h42 fun t67_52 =>
  oG (gW t64_49 true) (some t44_18) h42 fun t68_53 =>
  oG (gW t64_49 true) (lenI Try.prog 22 t68_53) h42 fun t69_54 =>
  oG (gW t64_49 true) (binI Try.prog .leq 3 t67_52 t69_54) h42 fun t70_55 =>
  oP (some true) (pickI t64_49 t70_55 (.bool false) h42) h42 fun t71_56 =>
  oG (gW t71_56 true) (some t49_26) h42 fun t73_58 =>
  oG (gW t71_56 true) (some t44_18) h42 fun t74_59 =>
  oG (gW t71_56 true) (some t49_26) h42 fun t75_60 =>
  oG (gW t71_56 true) (lenI Try.prog 22 t75_60) h42 fun t76_61 =>
  oG (gW t71_56 true) (sliceI Try.prog 22 t74_59 none (some t76_61) h42) h42 fun t77_62 =>
  callS Try.prog (gW t71_56 true) 15 [t73_58, t77_62] h42 fun t78_63 h64 =>
  oP (some true) (pickI t71_56 t78_63 (.bool false) h64) h64 fun t79_65 =>
  oG (gW t79_65 true) (some t51_30) h64 fun t81_67 =>
  oG (gW t79_65 true) (some t49_26) h64 fun t82_68 =>
  oG (gW t79_65 true) (lenI Try.prog 22 t82_68) h64 fun t83_69 =>
  oG (gW t79_65 true) (binI Try.prog .eql 3 t81_67 t83_69) h64 fun t84_70 =>
  oP (some true) (pickI t79_65 t84_70 (.bool false) h64) h64 fun t85_71 =>
  oG (gW t85_71 true) (some t49_26) h64 fun t87_73 =>
  oG (gW t85_71 true) (some t56_38) h64 fun t88_74 =>
  callS Try.prog (gW t85_71 true) 15 [t87_73, t88_74] h64 fun t89_75 h76 =>
  oP (some true) (pickI t85_71 t89_75 (.bool false) h76) h76 fun t90_77 =>
  retK Try.prog [.v t90_77] h76 K
noncomputable def c3_RRL : Code := cL c3_RR
noncomputable def F3_2g (F3_1 : (IV → Heap → Prop) → IV → IV → IV → IV → IV → Heap → Prop) (K : IV → Heap → Prop) (x0 x1 x2 x3 x9 : IV) (h : Heap) : Prop :=
  oD (binI Try.prog .eql 23 x9 (.nil)) h fun t16_80 =>
  oG (gW t16_80 false) (some x0) h fun t18_82 =>
  oG (gW t16_80 false) (lenI Try.prog 22 t18_82) h fun t19_83 =>
  oG (gW t16_80 false) (binI Try.prog .gtr 3 t19_83 (.int .i64 300)) h fun t20_84 =>
  oP (some true) (pickI t16_80 (.bool true) t20_84 h) h fun t21_85 =>
  oG (gW t21_85 false) (some x1) h fun t23_87 =>
  oG (gW t21_85 false) (lenI Try.prog 22 t23_87) h fun t24_88 =>
  oG (gW t21_85 false) (binI Try.prog .gtr 3 t24_88 (.int .i64 300)) h fun t25_89 =>
  oP (some true) (pickI t21_85 (.bool true) t25_89 h) h fun t26_90 =>
  bK' t26_90
    (CallsI Try.prog 9 [] h fun t27_91 h92 =>
    oG (gW t27_91 true) (some x9) h92 fun t29_94 =>
    oG (gW t27_91 true) (binI Try.prog .neq 23 t29_94 (.nil)) h92 fun t30_95 =>
    oP (some true) (pickI t27_91 t30_95 (.bool false) h92) h92 fun t31_96 =>
    retK Try.prog [.v t31_96] h92 K)
    (F3_1 K x0 x1 x2 x3 x9 h)
noncomputable def F3_2 (K : IV → Heap → Prop) (x0 x1 x2 x3 x9 : IV) (h : Heap) : Prop := F3_2g @F3_1 K x0 x1 x2 x3 x9 h
noncomputable abbrev F3_3 := @F3_2
noncomputable def c3_RL : Code := cL c3_R
noncomputable def F3_4g (F3_3 : (IV → Heap → Prop) → IV → IV → IV → IV → IV → Heap → Prop) (K : IV → Heap → Prop) (x0 x1 x2 x3 : IV) (h : Heap) : Prop :=
  CallsI Try.prog 8 [] h fun t14_98 h99 =>
  F3_3 K x0 x1 x2 x3 t14_98 h99
noncomputable def F3_4 (K : IV → Heap → Prop) (x0 x1 x2 x3 : IV) (h : Heap) : Prop := F3_4g @F3_3 K x0 x1 x2 x3 h
noncomputable abbrev F3_5 := @F3_4
noncomputable def c3_L : Code := cL c3
noncomputable def F3_6g (F3_5 : (IV → Heap → Prop) → IV → IV → IV → IV → Heap → Prop) (K : IV → Heap → Prop) (x0 x1 x2 x3 : IV) (h : Heap) : Prop :=
  F3_5 K x0 x1 x2 x3 h
noncomputable def F3_6 (K : IV → Heap → Prop) (x0 x1 x2 x3 : IV) (h : Heap) : Prop := F3_6g @F3_5 K x0 x1 x2 x3 h
noncomputable abbrev F3_7 := @F3_6
theorem chk3 : chkC Try.prog 91 D3 c3 = true := by kernel_rfl
theorem F3_1_ok (K : IV → Heap → Prop) (a : IAct) (h : Heap) : IC Try.prog 91 D3 c3_RRR (finK Try.prog Try.f3.results.toList K) a h = F3_1 K (a 0) (a 1) (a 2) (a 3) (a 9) h := by kernel_rfl
theorem F3_1_to {K : IV → Heap → Prop} {a : IAct} {h : Heap} (p : F3_1 K (a 0) (a 1) (a 2) (a 3) (a 9) h) : IC Try.prog 91 D3 c3_RRR (finK Try.prog Try.f3.results.toList K) a h := by rw [F3_1_ok]; exact p
theorem F3_2_okg (F3_1 : (IV → Heap → Prop) → IV → IV → IV → IV → IV → Heap → Prop) (K : IV → Heap → Prop) (a : IAct) (h : Heap) : IC Try.prog 91 D3 c3_RRL (iThen (fun a h => F3_1 K (a 0) (a 1) (a 2) (a 3) (a 9) h) (finK Try.prog Try.f3.results.toList K)) a h = F3_2g F3_1 K (a 0) (a 1) (a 2) (a 3) (a 9) h := by kernel_rfl
theorem F3_2_ok (K : IV → Heap → Prop) (a : IAct) (h : Heap) : IC Try.prog 91 D3 c3_RRL (iThen (fun a h => F3_1 K (a 0) (a 1) (a 2) (a 3) (a 9) h) (finK Try.prog Try.f3.results.toList K)) a h = F3_2 K (a 0) (a 1) (a 2) (a 3) (a 9) h := F3_2_okg @F3_1 K a h
theorem F3_2_to {K : IV → Heap → Prop} {a : IAct} {h : Heap} (p : F3_2 K (a 0) (a 1) (a 2) (a 3) (a 9) h) : IC Try.prog 91 D3 c3_RRL (iThen (fun a h => F3_1 K (a 0) (a 1) (a 2) (a 3) (a 9) h) (finK Try.prog Try.f3.results.toList K)) a h := by rw [F3_2_ok]; exact p
theorem F3_3_to {K : IV → Heap → Prop} {a : IAct} {h : Heap} (p : F3_2 K (a 0) (a 1) (a 2) (a 3) (a 9) h) : IC Try.prog 91 D3 c3_RR (finK Try.prog Try.f3.results.toList K) a h := by
  have e : c3_RR = .seq c3_RRL c3_RRR := by kernel_rfl
  rw [e]; exact IC.mono c3_RRL (iThen_mono fun a h p => F3_1_to p) (F3_2_to p)
theorem F3_4_okg (F3_3 : (IV → Heap → Prop) → IV → IV → IV → IV → IV → Heap → Prop) (K : IV → Heap → Prop) (a : IAct) (h : Heap) : IC Try.prog 91 D3 c3_RL (iThen (fun a h => F3_3 K (a 0) (a 1) (a 2) (a 3) (a 9) h) (finK Try.prog Try.f3.results.toList K)) a h = F3_4g F3_3 K (a 0) (a 1) (a 2) (a 3) h := by kernel_rfl
theorem F3_4_ok (K : IV → Heap → Prop) (a : IAct) (h : Heap) : IC Try.prog 91 D3 c3_RL (iThen (fun a h => F3_3 K (a 0) (a 1) (a 2) (a 3) (a 9) h) (finK Try.prog Try.f3.results.toList K)) a h = F3_4 K (a 0) (a 1) (a 2) (a 3) h := F3_4_okg @F3_3 K a h
theorem F3_4_to {K : IV → Heap → Prop} {a : IAct} {h : Heap} (p : F3_4 K (a 0) (a 1) (a 2) (a 3) h) : IC Try.prog 91 D3 c3_RL (iThen (fun a h => F3_3 K (a 0) (a 1) (a 2) (a 3) (a 9) h) (finK Try.prog Try.f3.results.toList K)) a h := by rw [F3_4_ok]; exact p
theorem F3_5_to {K : IV → Heap → Prop} {a : IAct} {h : Heap} (p : F3_4 K (a 0) (a 1) (a 2) (a 3) h) : IC Try.prog 91 D3 c3_R (finK Try.prog Try.f3.results.toList K) a h := by
  have e : c3_R = .seq c3_RL c3_RR := by kernel_rfl
  rw [e]; exact IC.mono c3_RL (iThen_mono fun a h p => F3_3_to p) (F3_4_to p)
theorem F3_6_okg (F3_5 : (IV → Heap → Prop) → IV → IV → IV → IV → Heap → Prop) (K : IV → Heap → Prop) (a : IAct) (h : Heap) : IC Try.prog 91 D3 c3_L (iThen (fun a h => F3_5 K (a 0) (a 1) (a 2) (a 3) h) (finK Try.prog Try.f3.results.toList K)) a h = F3_6g F3_5 K (a 0) (a 1) (a 2) (a 3) h := by kernel_rfl
theorem F3_6_ok (K : IV → Heap → Prop) (a : IAct) (h : Heap) : IC Try.prog 91 D3 c3_L (iThen (fun a h => F3_5 K (a 0) (a 1) (a 2) (a 3) h) (finK Try.prog Try.f3.results.toList K)) a h = F3_6 K (a 0) (a 1) (a 2) (a 3) h := F3_6_okg @F3_5 K a h
theorem F3_6_to {K : IV → Heap → Prop} {a : IAct} {h : Heap} (p : F3_6 K (a 0) (a 1) (a 2) (a 3) h) : IC Try.prog 91 D3 c3_L (iThen (fun a h => F3_5 K (a 0) (a 1) (a 2) (a 3) h) (finK Try.prog Try.f3.results.toList K)) a h := by rw [F3_6_ok]; exact p
theorem F3_7_to {K : IV → Heap → Prop} {a : IAct} {h : Heap} (p : F3_6 K (a 0) (a 1) (a 2) (a 3) h) : IC Try.prog 91 D3 c3 (finK Try.prog Try.f3.results.toList K) a h := by
  have e : c3 = .seq c3_L c3_R := by kernel_rfl
  rw [e]; exact IC.mono c3_L (iThen_mono fun a h p => F3_5_to p) (F3_6_to p)
theorem F3 {K : IV → Heap → Prop} {x0 x1 x2 x3 : IV} {h : Heap} (p : F3_7 K x0 x1 x2 x3 h) : CallsI Try.prog 3 [x0, x1, x2, x3] h K :=
  CallsI.ofIC Try.mixed Try.func3 rfl (Nat.le_of_ble_eq_true rfl) chk3 (F3_7_to (a := actI [x0, x1, x2, x3]) p)

/-! ### function 4: cellplane/cellplanelaw07.DiskOwn -/
def D4 : Nat → DI
  | _ => ⟨[], [], []⟩
noncomputable def c4 : Code := bodyC Try.f4
noncomputable def c4_R : Code := cR c4
noncomputable def c4_RR : Code := cR c4_R
noncomputable def c4_RRR : Code := cR c4_RR
noncomputable def c4_RRRR : Code := cR c4_RRR
noncomputable def c4_RRRRR : Code := cR c4_RRRR
noncomputable def c4_RRRRRR : Code := cR c4_RRRRR
noncomputable def c4_RRRRRRR : Code := cR c4_RRRRRR
noncomputable def c4_RRRRRRRR : Code := cR c4_RRRRRRR
noncomputable def F4_1 (K : IV → Heap → Prop) (x0 x1 x7 : IV) (h : Heap) : Prop :=
  CallsI Try.prog 13 [x7] h fun t61_2 h3 =>
  oA (buildSliceV Try.prog 22 1 [(0, .int .u8 9)] h3) h3 fun t62_4 h5 =>
  oA (appendI Try.prog 22 22 t61_2 t62_4 h5) h5 fun t63_6 h7 =>
  CallsI Try.prog 10 [x7, x1] h7 fun t66_11 h12 =>
  CallsI Try.prog 9 [] h12 fun t67_13 h14 =>
  oG (gW t67_13 true) (some x7) h14 fun t69_16 =>
  callS Try.prog (gW t67_13 true) 13 [t69_16] h14 fun t70_17 h18 =>
  oAG (gW t67_13 true) (buildSliceV Try.prog 22 0 [] h18) h18 fun t71_19 h20 =>
  oG (gW t67_13 true) (some x0) h20 fun t72_21 =>
  oAG (gW t67_13 true) (appendI Try.prog 22 22 t71_19 t72_21 h20) h20 fun t73_22 h23 =>
  oG (gW t67_13 true) (some x1) h23 fun t74_24 =>
  oAG (gW t67_13 true) (appendI Try.prog 22 22 t73_22 t74_24 h23) h23 fun t75_25 h26 =>
  callS Try.prog (gW t67_13 true) 15 [t70_17, t75_25] h26 fun t76_27 h28 =>
  oP (some true) (pickI t67_13 t76_27 (.bool false) h28) h28 fun t77_29 =>
  oG (gW t77_29 true) (some t63_6) h28 fun t79_31 =>
  oG (gW t77_29 true) (lenI Try.prog 22 t79_31) h28 fun t80_32 =>
  oG (gW t77_29 true) (some x0) h28 fun t81_33 =>
  oG (gW t77_29 true) (lenI Try.prog 22 t81_33) h28 fun t82_34 =>
  oG (gW t77_29 true) (binI Try.prog .add 3 t82_34 (.int .i64 1)) h28 fun t83_35 =>
  oG (gW t77_29 true) (binI Try.prog .eql 3 t80_32 t83_35) h28 fun t84_36 =>
  oP (some true) (pickI t77_29 t84_36 (.bool false) h28) h28 fun t85_37 =>
  retK Try.prog [.v t85_37] h28 K
noncomputable def c4_RRRRRRRL : Code := cL c4_RRRRRRR
noncomputable def c4_RRRRRRRLR : Code := cR c4_RRRRRRRL
noncomputable def c4_RRRRRRRLRL : Code := cL c4_RRRRRRRLR
noncomputable def c4_RRRRRRRLRLL : Code := cL c4_RRRRRRRLRL
/-- A loop of function 4, at the begin of a round. -/
noncomputable def F4_2 (K : IV → Heap → Prop) (x0 x1 x2 x7 x10 x11 : IV) (h : Heap) : Prop := ∀ a : IAct, a 0 = x0 → a 1 = x1 → a 2 = x2 → a 7 = x7 → a 10 = x10 → a 11 = x11 → ILoop Try.prog 86 c4_RRRRRRRLRLL (iBlock 2 (iThen (fun a h => F4_1 K (a 0) (a 1) (a 7) h) (finK Try.prog Try.f4.results.toList K))) a h
noncomputable def c4_RRRRRRRLRLLR : Code := cR c4_RRRRRRRLRLL
noncomputable def c4_RRRRRRRLRLLRR : Code := cR c4_RRRRRRRLRLLR
noncomputable def F4_3g (F4_1 : (IV → Heap → Prop) → IV → IV → IV → Heap → Prop) (F4_2 : (IV → Heap → Prop) → IV → IV → IV → IV → IV → IV → Heap → Prop) (K : IV → Heap → Prop) (x0 x1 x2 x7 x10 x11 : IV) (h : Heap) : Prop :=
  oD (binI Try.prog .add 3 x11 (.int .i64 1)) h fun t54_40 =>
  F4_2 K x0 x1 x2 x7 x10 t54_40 h
noncomputable def F4_3 (K : IV → Heap → Prop) (x0 x1 x2 x7 x10 x11 : IV) (h : Heap) : Prop := F4_3g @F4_1 @F4_2 K x0 x1 x2 x7 x10 x11 h
noncomputable def c4_RRRRRRRLRLLRL : Code := cL c4_RRRRRRRLRLLR
noncomputable def F4_4g (F4_1 : (IV → Heap → Prop) → IV → IV → IV → Heap → Prop) (F4_2 : (IV → Heap → Prop) → IV → IV → IV → IV → IV → IV → Heap → Prop) (F4_3 : (IV → Heap → Prop) → IV → IV → IV → IV → IV → IV → Heap → Prop) (K : IV → Heap → Prop) (x0 x1 x2 x7 x10 x11 : IV) (h : Heap) : Prop :=
  oD (binI Try.prog .add 5 x2 (.int .u8 1)) h fun t58_45 =>
  oD (indexAddrI Try.prog 22 x10 x11 h) h fun t59_46 =>
  oS (storeI Try.prog 5 t59_46 t58_45 h) h fun h48 =>
  F4_3 K x0 x1 x2 x7 x10 x11 h48
noncomputable def F4_4 (K : IV → Heap → Prop) (x0 x1 x2 x7 x10 x11 : IV) (h : Heap) : Prop := F4_4g @F4_1 @F4_2 @F4_3 K x0 x1 x2 x7 x10 x11 h
noncomputable abbrev F4_5 := @F4_4
noncomputable def c4_RRRRRRRLRLLL : Code := cL c4_RRRRRRRLRLL
noncomputable def F4_6g (F4_1 : (IV → Heap → Prop) → IV → IV → IV → Heap → Prop) (F4_2 : (IV → Heap → Prop) → IV → IV → IV → IV → IV → IV → Heap → Prop) (F4_5 : (IV → Heap → Prop) → IV → IV → IV → IV → IV → IV → Heap → Prop) (K : IV → Heap → Prop) (x0 x1 x2 x7 x10 x11 : IV) (h : Heap) : Prop :=
  oD (lenI Try.prog 22 x10) h fun t51_51 =>
  oD (binI Try.prog .lss 3 x11 t51_51) h fun t52_52 =>
  bK' t52_52
    (F4_5 K x0 x1 x2 x7 x10 x11 h)
    (F4_1 K x0 x1 x7 h)
noncomputable def F4_6 (K : IV → Heap → Prop) (x0 x1 x2 x7 x10 x11 : IV) (h : Heap) : Prop := F4_6g @F4_1 @F4_2 @F4_5 K x0 x1 x2 x7 x10 x11 h
noncomputable abbrev F4_7 := @F4_6
noncomputable abbrev F4_8 := @F4_2
noncomputable def c4_RRRRRRRLL : Code := cL c4_RRRRRRRL
noncomputable def F4_9g (F4_1 : (IV → Heap → Prop) → IV → IV → IV → Heap → Prop) (F4_8 : (IV → Heap → Prop) → IV → IV → IV → IV → IV → IV → Heap → Prop) (K : IV → Heap → Prop) (x0 x1 x2 x7 x10 : IV) (h : Heap) : Prop :=
  F4_8 K x0 x1 x2 x7 x10 (.int .i64 0) h
noncomputable def F4_9 (K : IV → Heap → Prop) (x0 x1 x2 x7 x10 : IV) (h : Heap) : Prop := F4_9g @F4_1 @F4_8 K x0 x1 x2 x7 x10 h
noncomputable abbrev F4_10 := @F4_9
noncomputable abbrev F4_11 := @F4_10
noncomputable def c4_RRRRRRL : Code := cL c4_RRRRRR
noncomputable def F4_12g (F4_11 : (IV → Heap → Prop) → IV → IV → IV → IV → IV → Heap → Prop) (K : IV → Heap → Prop) (x0 x1 x2 x7 : IV) (h : Heap) : Prop :=
  CallsI Try.prog 13 [x7] h fun t48_55 h56 =>
  F4_11 K x0 x1 x2 x7 t48_55 h56
noncomputable def F4_12 (K : IV → Heap → Prop) (x0 x1 x2 x7 : IV) (h : Heap) : Prop := F4_12g @F4_11 K x0 x1 x2 x7 h
noncomputable abbrev F4_13 := @F4_12
noncomputable def c4_RRRRRL : Code := cL c4_RRRRR
noncomputable def c4_RRRRRLR : Code := cR c4_RRRRRL
noncomputable def c4_RRRRRLRL : Code := cL c4_RRRRRLR
noncomputable def c4_RRRRRLRLL : Code := cL c4_RRRRRLRL
/-- A loop of function 4, at the begin of a round. -/
noncomputable def F4_14 (K : IV → Heap → Prop) (x0 x1 x2 x7 x8 x9 : IV) (h : Heap) : Prop := ∀ a : IAct, a 0 = x0 → a 1 = x1 → a 2 = x2 → a 7 = x7 → a 8 = x8 → a 9 = x9 → ILoop Try.prog 86 c4_RRRRRLRLL (iBlock 0 (iThen (fun a h => F4_13 K (a 0) (a 1) (a 2) (a 7) h) (finK Try.prog Try.f4.results.toList K))) a h
noncomputable def c4_RRRRRLRLLR : Code := cR c4_RRRRRLRLL
noncomputable def c4_RRRRRLRLLRR : Code := cR c4_RRRRRLRLLR
noncomputable def F4_15g (F4_13 : (IV → Heap → Prop) → IV → IV → IV → IV → Heap → Prop) (F4_14 : (IV → Heap → Prop) → IV → IV → IV → IV → IV → IV → Heap → Prop) (K : IV → Heap → Prop) (x0 x1 x2 x7 x8 x9 : IV) (h : Heap) : Prop :=
  oD (binI Try.prog .add 3 x9 (.int .i64 1)) h fun t42_59 =>
  F4_14 K x0 x1 x2 x7 x8 t42_59 h
noncomputable def F4_15 (K : IV → Heap → Prop) (x0 x1 x2 x7 x8 x9 : IV) (h : Heap) : Prop := F4_15g @F4_13 @F4_14 K x0 x1 x2 x7 x8 x9 h
noncomputable def c4_RRRRRLRLLRL : Code := cL c4_RRRRRLRLLR
noncomputable def F4_16g (F4_13 : (IV → Heap → Prop) → IV → IV → IV → IV → Heap → Prop) (F4_14 : (IV → Heap → Prop) → IV → IV → IV → IV → IV → IV → Heap → Prop) (F4_15 : (IV → Heap → Prop) → IV → IV → IV → IV → IV → IV → Heap → Prop) (K : IV → Heap → Prop) (x0 x1 x2 x7 x8 x9 : IV) (h : Heap) : Prop :=
  oD (indexAddrI Try.prog 22 x8 x9 h) h fun t46_64 =>
  oS (storeI Try.prog 5 t46_64 x2 h) h fun h66 =>
  F4_15 K x0 x1 x2 x7 x8 x9 h66
noncomputable def F4_16 (K : IV → Heap → Prop) (x0 x1 x2 x7 x8 x9 : IV) (h : Heap) : Prop := F4_16g @F4_13 @F4_14 @F4_15 K x0 x1 x2 x7 x8 x9 h
noncomputable abbrev F4_17 := @F4_16
noncomputable def c4_RRRRRLRLLL : Code := cL c4_RRRRRLRLL
noncomputable def F4_18g (F4_13 : (IV → Heap → Prop) → IV → IV → IV → IV → Heap → Prop) (F4_14 : (IV → Heap → Prop) → IV → IV → IV → IV → IV → IV → Heap → Prop) (F4_17 : (IV → Heap → Prop) → IV → IV → IV → IV → IV → IV → Heap → Prop) (K : IV → Heap → Prop) (x0 x1 x2 x7 x8 x9 : IV) (h : Heap) : Prop :=
  oD (lenI Try.prog 22 x8) h fun t39_69 =>
  oD (binI Try.prog .lss 3 x9 t39_69) h fun t40_70 =>
  bK' t40_70
    (F4_17 K x0 x1 x2 x7 x8 x9 h)
    (F4_13 K x0 x1 x2 x7 h)
noncomputable def F4_18 (K : IV → Heap → Prop) (x0 x1 x2 x7 x8 x9 : IV) (h : Heap) : Prop := F4_18g @F4_13 @F4_14 @F4_17 K x0 x1 x2 x7 x8 x9 h
noncomputable abbrev F4_19 := @F4_18
noncomputable abbrev F4_20 := @F4_14
noncomputable def c4_RRRRRLL : Code := cL c4_RRRRRL
noncomputable def F4_21g (F4_13 : (IV → Heap → Prop) → IV → IV → IV → IV → Heap → Prop) (F4_20 : (IV → Heap → Prop) → IV → IV → IV → IV → IV → IV → Heap → Prop) (K : IV → Heap → Prop) (x0 x1 x2 x7 x8 : IV) (h : Heap) : Prop :=
  F4_20 K x0 x1 x2 x7 x8 (.int .i64 0) h
noncomputable def F4_21 (K : IV → Heap → Prop) (x0 x1 x2 x7 x8 : IV) (h : Heap) : Prop := F4_21g @F4_13 @F4_20 K x0 x1 x2 x7 x8 h
noncomputable abbrev F4_22 := @F4_21
noncomputable abbrev F4_23 := @F4_22
noncomputable def c4_RRRRL : Code := cL c4_RRRR
noncomputable def F4_24g (F4_23 : (IV → Heap → Prop) → IV → IV → IV → IV → IV → Heap → Prop) (K : IV → Heap → Prop) (x0 x1 x2 x7 x8 : IV) (h : Heap) : Prop :=
  CallsI Try.prog 10 [x7, x8] h fun t36_74 h75 =>
  F4_23 K x0 x1 x2 x7 x8 h75
noncomputable def F4_24 (K : IV → Heap → Prop) (x0 x1 x2 x7 x8 : IV) (h : Heap) : Prop := F4_24g @F4_23 K x0 x1 x2 x7 x8 h
noncomputable abbrev F4_25 := @F4_24
noncomputable def c4_RRRL : Code := cL c4_RRR
noncomputable def F4_26g (F4_25 : (IV → Heap → Prop) → IV → IV → IV → IV → IV → Heap → Prop) (K : IV → Heap → Prop) (x0 x1 x2 x7 : IV) (h : Heap) : Prop :=
  oA (buildSliceV Try.prog 22 0 [] h) h fun t31_76 h77 =>
  oA (appendI Try.prog 22 22 t31_76 x0 h77) h77 fun t33_79 h80 =>
  F4_25 K x0 x1 x2 x7 t33_79 h80
noncomputable def F4_26 (K : IV → Heap → Prop) (x0 x1 x2 x7 : IV) (h : Heap) : Prop := F4_26g @F4_25 K x0 x1 x2 x7 h
noncomputable abbrev F4_27 := @F4_26
noncomputable def c4_RRL : Code := cL c4_RR
noncomputable def F4_28g (F4_27 : (IV → Heap → Prop) → IV → IV → IV → IV → Heap → Prop) (K : IV → Heap → Prop) (x0 x1 x2 x7 : IV) (h : Heap) : Prop :=
  oD (binI Try.prog .eql 23 x7 (.nil)) h fun t15_83 =>
  oG (gW t15_83 false) (some x0) h fun t17_85 =>
  oG (gW t15_83 false) (lenI Try.prog 22 t17_85) h fun t18_86 =>
  oG (gW t15_83 false) (binI Try.prog .gtr 3 t18_86 (.int .i64 300)) h fun t19_87 =>
  oP (some true) (pickI t15_83 (.bool true) t19_87 h) h fun t20_88 =>
  oG (gW t20_88 false) (some x1) h fun t22_90 =>
  oG (gW t20_88 false) (lenI Try.prog 22 t22_90) h fun t23_91 =>
  oG (gW t20_88 false) (binI Try.prog .gtr 3 t23_91 (.int .i64 300)) h fun t24_92 =>
  oP (some true) (pickI t20_88 (.bool true) t24_92 h) h fun t25_93 =>
  bK' t25_93
    (CallsI Try.prog 9 [] h fun t26_94 h95 =>
    oG (gW t26_94 true) (some x7) h95 fun t28_97 =>
    oG (gW t26_94 true) (binI Try.prog .neq 23 t28_97 (.nil)) h95 fun t29_98 =>
    oP (some true) (pickI t26_94 t29_98 (.bool false) h95) h95 fun t30_99 =>
    retK Try.prog [.v t30_99] h95 K)
    (F4_27 K x0 x1 x2 x7 h)
noncomputable def F4_28 (K : IV → Heap → Prop) (x0 x1 x2 x7 : IV) (h : Heap) : Prop := F4_28g @F4_27 K x0 x1 x2 x7 h
noncomputable abbrev F4_29 := @F4_28
noncomputable def c4_RL : Code := cL c4_R
noncomputable def F4_30g (F4_29 : (IV → Heap → Prop) → IV → IV → IV → IV → Heap → Prop) (K : IV → Heap → Prop) (x0 x1 x2 : IV) (h : Heap) : Prop :=
  CallsI Try.prog 8 [] h fun t13_101 h102 =>
  F4_29 K x0 x1 x2 t13_101 h102
noncomputable def F4_30 (K : IV → Heap → Prop) (x0 x1 x2 : IV) (h : Heap) : Prop := F4_30g @F4_29 K x0 x1 x2 h
noncomputable abbrev F4_31 := @F4_30
noncomputable def c4_L : Code := cL c4
noncomputable def F4_32g (F4_31 : (IV → Heap → Prop) → IV → IV → IV → Heap → Prop) (K : IV → Heap → Prop) (x0 x1 x2 : IV) (h : Heap) : Prop :=
  F4_31 K x0 x1 x2 h
noncomputable def F4_32 (K : IV → Heap → Prop) (x0 x1 x2 : IV) (h : Heap) : Prop := F4_32g @F4_31 K x0 x1 x2 h
noncomputable abbrev F4_33 := @F4_32
theorem chk4 : chkC Try.prog 86 D4 c4 = true := by kernel_rfl
theorem chk4_RRRRRRRLRL : chkC Try.prog 86 D4 c4_RRRRRRRLRLL = true := by kernel_rfl
theorem chk4_RRRRRLRL : chkC Try.prog 86 D4 c4_RRRRRLRLL = true := by kernel_rfl
theorem F4_1_ok (K : IV → Heap → Prop) (a : IAct) (h : Heap) : IC Try.prog 86 D4 c4_RRRRRRRR (finK Try.prog Try.f4.results.toList K) a h = F4_1 K (a 0) (a 1) (a 7) h := by kernel_rfl
theorem F4_1_to {K : IV → Heap → Prop} {a : IAct} {h : Heap} (p : F4_1 K (a 0) (a 1) (a 7) h) : IC Try.prog 86 D4 c4_RRRRRRRR (finK Try.prog Try.f4.results.toList K) a h := by rw [F4_1_ok]; exact p
theorem F4_3_okg (F4_1 : (IV → Heap → Prop) → IV → IV → IV → Heap → Prop) (F4_2 : (IV → Heap → Prop) → IV → IV → IV → IV → IV → IV → Heap → Prop) (K : IV → Heap → Prop) (a : IAct) (h : Heap) : IC Try.prog 86 D4 c4_RRRRRRRLRLLRR (iThen (fun a h => F4_2 K (a 0) (a 1) (a 2) (a 7) (a 10) (a 11) h) (iBlock 2 (iThen (fun a h => F4_1 K (a 0) (a 1) (a 7) h) (finK Try.prog Try.f4.results.toList K)))) a h = F4_3g F4_1 F4_2 K (a 0) (a 1) (a 2) (a 7) (a 10) (a 11) h := by kernel_rfl
theorem F4_3_ok (K : IV → Heap → Prop) (a : IAct) (h : Heap) : IC Try.prog 86 D4 c4_RRRRRRRLRLLRR (iThen (fun a h => F4_2 K (a 0) (a 1) (a 2) (a 7) (a 10) (a 11) h) (iBlock 2 (iThen (fun a h => F4_1 K (a 0) (a 1) (a 7) h) (finK Try.prog Try.f4.results.toList K)))) a h = F4_3 K (a 0) (a 1) (a 2) (a 7) (a 10) (a 11) h := F4_3_okg @F4_1 @F4_2 K a h
theorem F4_3_to {K : IV → Heap → Prop} {a : IAct} {h : Heap} (p : F4_3 K (a 0) (a 1) (a 2) (a 7) (a 10) (a 11) h) : IC Try.prog 86 D4 c4_RRRRRRRLRLLRR (iThen (fun a h => F4_2 K (a 0) (a 1) (a 2) (a 7) (a 10) (a 11) h) (iBlock 2 (iThen (fun a h => F4_1 K (a 0) (a 1) (a 7) h) (finK Try.prog Try.f4.results.toList K)))) a h := by rw [F4_3_ok]; exact p
theorem F4_4_okg (F4_1 : (IV → Heap → Prop) → IV → IV → IV → Heap → Prop) (F4_2 : (IV → Heap → Prop) → IV → IV → IV → IV → IV → IV → Heap → Prop) (F4_3 : (IV → Heap → Prop) → IV → IV → IV → IV → IV → IV → Heap → Prop) (K : IV → Heap → Prop) (a : IAct) (h : Heap) : IC Try.prog 86 D4 c4_RRRRRRRLRLLRL (iThen (fun a h => F4_3 K (a 0) (a 1) (a 2) (a 7) (a 10) (a 11) h) (iThen (fun a h => F4_2 K (a 0) (a 1) (a 2) (a 7) (a 10) (a 11) h) (iBlock 2 (iThen (fun a h => F4_1 K (a 0) (a 1) (a 7) h) (finK Try.prog Try.f4.results.toList K))))) a h = F4_4g F4_1 F4_2 F4_3 K (a 0) (a 1) (a 2) (a 7) (a 10) (a 11) h := by kernel_rfl
theorem F4_4_ok (K : IV → Heap → Prop) (a : IAct) (h : Heap) : IC Try.prog 86 D4 c4_RRRRRRRLRLLRL (iThen (fun a h => F4_3 K (a 0) (a 1) (a 2) (a 7) (a 10) (a 11) h) (iThen (fun a h => F4_2 K (a 0) (a 1) (a 2) (a 7) (a 10) (a 11) h) (iBlock 2 (iThen (fun a h => F4_1 K (a 0) (a 1) (a 7) h) (finK Try.prog Try.f4.results.toList K))))) a h = F4_4 K (a 0) (a 1) (a 2) (a 7) (a 10) (a 11) h := F4_4_okg @F4_1 @F4_2 @F4_3 K a h
theorem F4_4_to {K : IV → Heap → Prop} {a : IAct} {h : Heap} (p : F4_4 K (a 0) (a 1) (a 2) (a 7) (a 10) (a 11) h) : IC Try.prog 86 D4 c4_RRRRRRRLRLLRL (iThen (fun a h => F4_3 K (a 0) (a 1) (a 2) (a 7) (a 10) (a 11) h) (iThen (fun a h => F4_2 K (a 0) (a 1) (a 2) (a 7) (a 10) (a 11) h) (iBlock 2 (iThen (fun a h => F4_1 K (a 0) (a 1) (a 7) h) (finK Try.prog Try.f4.results.toList K))))) a h := by rw [F4_4_ok]; exact p
theorem F4_5_to {K : IV → Heap → Prop} {a : IAct} {h : Heap} (p : F4_4 K (a 0) (a 1) (a 2) (a 7) (a 10) (a 11) h) : IC Try.prog 86 D4 c4_RRRRRRRLRLLR (iThen (fun a h => F4_2 K (a 0) (a 1) (a 2) (a 7) (a 10) (a 11) h) (iBlock 2 (iThen (fun a h => F4_1 K (a 0) (a 1) (a 7) h) (finK Try.prog Try.f4.results.toList K)))) a h := by
  have e : c4_RRRRRRRLRLLR = .seq c4_RRRRRRRLRLLRL c4_RRRRRRRLRLLRR := by kernel_rfl
  rw [e]; exact IC.mono c4_RRRRRRRLRLLRL (iThen_mono fun a h p => F4_3_to p) (F4_4_to p)
theorem F4_6_okg (F4_1 : (IV → Heap → Prop) → IV → IV → IV → Heap → Prop) (F4_2 : (IV → Heap → Prop) → IV → IV → IV → IV → IV → IV → Heap → Prop) (F4_5 : (IV → Heap → Prop) → IV → IV → IV → IV → IV → IV → Heap → Prop) (K : IV → Heap → Prop) (a : IAct) (h : Heap) : IC Try.prog 86 D4 c4_RRRRRRRLRLLL (iThen (fun a h => F4_5 K (a 0) (a 1) (a 2) (a 7) (a 10) (a 11) h) (iThen (fun a h => F4_2 K (a 0) (a 1) (a 2) (a 7) (a 10) (a 11) h) (iBlock 2 (iThen (fun a h => F4_1 K (a 0) (a 1) (a 7) h) (finK Try.prog Try.f4.results.toList K))))) a h = F4_6g F4_1 F4_2 F4_5 K (a 0) (a 1) (a 2) (a 7) (a 10) (a 11) h := by kernel_rfl
theorem F4_6_ok (K : IV → Heap → Prop) (a : IAct) (h : Heap) : IC Try.prog 86 D4 c4_RRRRRRRLRLLL (iThen (fun a h => F4_5 K (a 0) (a 1) (a 2) (a 7) (a 10) (a 11) h) (iThen (fun a h => F4_2 K (a 0) (a 1) (a 2) (a 7) (a 10) (a 11) h) (iBlock 2 (iThen (fun a h => F4_1 K (a 0) (a 1) (a 7) h) (finK Try.prog Try.f4.results.toList K))))) a h = F4_6 K (a 0) (a 1) (a 2) (a 7) (a 10) (a 11) h := F4_6_okg @F4_1 @F4_2 @F4_5 K a h
theorem F4_6_to {K : IV → Heap → Prop} {a : IAct} {h : Heap} (p : F4_6 K (a 0) (a 1) (a 2) (a 7) (a 10) (a 11) h) : IC Try.prog 86 D4 c4_RRRRRRRLRLLL (iThen (fun a h => F4_5 K (a 0) (a 1) (a 2) (a 7) (a 10) (a 11) h) (iThen (fun a h => F4_2 K (a 0) (a 1) (a 2) (a 7) (a 10) (a 11) h) (iBlock 2 (iThen (fun a h => F4_1 K (a 0) (a 1) (a 7) h) (finK Try.prog Try.f4.results.toList K))))) a h := by rw [F4_6_ok]; exact p
theorem F4_7_to {K : IV → Heap → Prop} {a : IAct} {h : Heap} (p : F4_6 K (a 0) (a 1) (a 2) (a 7) (a 10) (a 11) h) : IC Try.prog 86 D4 c4_RRRRRRRLRLL (iThen (fun a h => F4_2 K (a 0) (a 1) (a 2) (a 7) (a 10) (a 11) h) (iBlock 2 (iThen (fun a h => F4_1 K (a 0) (a 1) (a 7) h) (finK Try.prog Try.f4.results.toList K)))) a h := by
  have e : c4_RRRRRRRLRLL = .seq c4_RRRRRRRLRLLL c4_RRRRRRRLRLLR := by kernel_rfl
  rw [e]; exact IC.mono c4_RRRRRRRLRLLL (iThen_mono fun a h p => F4_5_to p) (F4_6_to p)
theorem F4_2_to {K : IV → Heap → Prop} {a : IAct} {h : Heap} (p : F4_2 K (a 0) (a 1) (a 2) (a 7) (a 10) (a 11) h) : IC Try.prog 86 D4 c4_RRRRRRRLRL (iBlock 2 (iThen (fun a h => F4_1 K (a 0) (a 1) (a 7) h) (finK Try.prog Try.f4.results.toList K))) a h := by
  have e : c4_RRRRRRRLRL = .loop c4_RRRRRRRLRLL := by kernel_rfl
  rw [e]; exact p a rfl rfl rfl rfl rfl rfl
theorem F4_2_round {K : IV → Heap → Prop} {x0 x1 x2 x7 x10 x11 : IV} {h : Heap} (p : F4_7 K x0 x1 x2 x7 x10 x11 h) : F4_2 K x0 x1 x2 x7 x10 x11 h := by
  intro a e0 e1 e2 e7 e10 e11
  subst e0; subst e1; subst e2; subst e7; subst e10; subst e11; exact ILoop.round Try.mixed (D := D4) chk4_RRRRRRRLRL (L := fun a h => F4_2 K (a 0) (a 1) (a 2) (a 7) (a 10) (a 11) h) (fun a h p => p a rfl rfl rfl rfl rfl rfl) (F4_7_to p)
theorem F4_8_to {K : IV → Heap → Prop} {a : IAct} {h : Heap} (p : F4_2 K (a 0) (a 1) (a 2) (a 7) (a 10) (a 11) h) : IC Try.prog 86 D4 c4_RRRRRRRLR (iThen (fun a h => F4_1 K (a 0) (a 1) (a 7) h) (finK Try.prog Try.f4.results.toList K)) a h := by
  have e : c4_RRRRRRRLR = .block 2 c4_RRRRRRRLRL := by kernel_rfl
  rw [e]; exact F4_2_to p
theorem F4_9_okg (F4_1 : (IV → Heap → Prop) → IV → IV → IV → Heap → Prop) (F4_8 : (IV → Heap → Prop) → IV → IV → IV → IV → IV → IV → Heap → Prop) (K : IV → Heap → Prop) (a : IAct) (h : Heap) : IC Try.prog 86 D4 c4_RRRRRRRLL (iThen (fun a h => F4_8 K (a 0) (a 1) (a 2) (a 7) (a 10) (a 11) h) (iThen (fun a h => F4_1 K (a 0) (a 1) (a 7) h) (finK Try.prog Try.f4.results.toList K))) a h = F4_9g F4_1 F4_8 K (a 0) (a 1) (a 2) (a 7) (a 10) h := by kernel_rfl
theorem F4_9_ok (K : IV → Heap → Prop) (a : IAct) (h : Heap) : IC Try.prog 86 D4 c4_RRRRRRRLL (iThen (fun a h => F4_8 K (a 0) (a 1) (a 2) (a 7) (a 10) (a 11) h) (iThen (fun a h => F4_1 K (a 0) (a 1) (a 7) h) (finK Try.prog Try.f4.results.toList K))) a h = F4_9 K (a 0) (a 1) (a 2) (a 7) (a 10) h := F4_9_okg @F4_1 @F4_8 K a h
theorem F4_9_to {K : IV → Heap → Prop} {a : IAct} {h : Heap} (p : F4_9 K (a 0) (a 1) (a 2) (a 7) (a 10) h) : IC Try.prog 86 D4 c4_RRRRRRRLL (iThen (fun a h => F4_8 K (a 0) (a 1) (a 2) (a 7) (a 10) (a 11) h) (iThen (fun a h => F4_1 K (a 0) (a 1) (a 7) h) (finK Try.prog Try.f4.results.toList K))) a h := by rw [F4_9_ok]; exact p
theorem F4_10_to {K : IV → Heap → Prop} {a : IAct} {h : Heap} (p : F4_9 K (a 0) (a 1) (a 2) (a 7) (a 10) h) : IC Try.prog 86 D4 c4_RRRRRRRL (iThen (fun a h => F4_1 K (a 0) (a 1) (a 7) h) (finK Try.prog Try.f4.results.toList K)) a h := by
  have e : c4_RRRRRRRL = .seq c4_RRRRRRRLL c4_RRRRRRRLR := by kernel_rfl
  rw [e]; exact IC.mono c4_RRRRRRRLL (iThen_mono fun a h p => F4_8_to p) (F4_9_to p)
theorem F4_11_to {K : IV → Heap → Prop} {a : IAct} {h : Heap} (p : F4_10 K (a 0) (a 1) (a 2) (a 7) (a 10) h) : IC Try.prog 86 D4 c4_RRRRRRR (finK Try.prog Try.f4.results.toList K) a h := by
  have e : c4_RRRRRRR = .seq c4_RRRRRRRL c4_RRRRRRRR := by kernel_rfl
  rw [e]; exact IC.mono c4_RRRRRRRL (iThen_mono fun a h p => F4_1_to p) (F4_10_to p)
theorem F4_12_okg (F4_11 : (IV → Heap → Prop) → IV → IV → IV → IV → IV → Heap → Prop) (K : IV → Heap → Prop) (a : IAct) (h : Heap) : IC Try.prog 86 D4 c4_RRRRRRL (iThen (fun a h => F4_11 K (a 0) (a 1) (a 2) (a 7) (a 10) h) (finK Try.prog Try.f4.results.toList K)) a h = F4_12g F4_11 K (a 0) (a 1) (a 2) (a 7) h := by kernel_rfl
theorem F4_12_ok (K : IV → Heap → Prop) (a : IAct) (h : Heap) : IC Try.prog 86 D4 c4_RRRRRRL (iThen (fun a h => F4_11 K (a 0) (a 1) (a 2) (a 7) (a 10) h) (finK Try.prog Try.f4.results.toList K)) a h = F4_12 K (a 0) (a 1) (a 2) (a 7) h := F4_12_okg @F4_11 K a h
theorem F4_12_to {K : IV → Heap → Prop} {a : IAct} {h : Heap} (p : F4_12 K (a 0) (a 1) (a 2) (a 7) h) : IC Try.prog 86 D4 c4_RRRRRRL (iThen (fun a h => F4_11 K (a 0) (a 1) (a 2) (a 7) (a 10) h) (finK Try.prog Try.f4.results.toList K)) a h := by rw [F4_12_ok]; exact p
theorem F4_13_to {K : IV → Heap → Prop} {a : IAct} {h : Heap} (p : F4_12 K (a 0) (a 1) (a 2) (a 7) h) : IC Try.prog 86 D4 c4_RRRRRR (finK Try.prog Try.f4.results.toList K) a h := by
  have e : c4_RRRRRR = .seq c4_RRRRRRL c4_RRRRRRR := by kernel_rfl
  rw [e]; exact IC.mono c4_RRRRRRL (iThen_mono fun a h p => F4_11_to p) (F4_12_to p)
theorem F4_15_okg (F4_13 : (IV → Heap → Prop) → IV → IV → IV → IV → Heap → Prop) (F4_14 : (IV → Heap → Prop) → IV → IV → IV → IV → IV → IV → Heap → Prop) (K : IV → Heap → Prop) (a : IAct) (h : Heap) : IC Try.prog 86 D4 c4_RRRRRLRLLRR (iThen (fun a h => F4_14 K (a 0) (a 1) (a 2) (a 7) (a 8) (a 9) h) (iBlock 0 (iThen (fun a h => F4_13 K (a 0) (a 1) (a 2) (a 7) h) (finK Try.prog Try.f4.results.toList K)))) a h = F4_15g F4_13 F4_14 K (a 0) (a 1) (a 2) (a 7) (a 8) (a 9) h := by kernel_rfl
theorem F4_15_ok (K : IV → Heap → Prop) (a : IAct) (h : Heap) : IC Try.prog 86 D4 c4_RRRRRLRLLRR (iThen (fun a h => F4_14 K (a 0) (a 1) (a 2) (a 7) (a 8) (a 9) h) (iBlock 0 (iThen (fun a h => F4_13 K (a 0) (a 1) (a 2) (a 7) h) (finK Try.prog Try.f4.results.toList K)))) a h = F4_15 K (a 0) (a 1) (a 2) (a 7) (a 8) (a 9) h := F4_15_okg @F4_13 @F4_14 K a h
theorem F4_15_to {K : IV → Heap → Prop} {a : IAct} {h : Heap} (p : F4_15 K (a 0) (a 1) (a 2) (a 7) (a 8) (a 9) h) : IC Try.prog 86 D4 c4_RRRRRLRLLRR (iThen (fun a h => F4_14 K (a 0) (a 1) (a 2) (a 7) (a 8) (a 9) h) (iBlock 0 (iThen (fun a h => F4_13 K (a 0) (a 1) (a 2) (a 7) h) (finK Try.prog Try.f4.results.toList K)))) a h := by rw [F4_15_ok]; exact p
theorem F4_16_okg (F4_13 : (IV → Heap → Prop) → IV → IV → IV → IV → Heap → Prop) (F4_14 : (IV → Heap → Prop) → IV → IV → IV → IV → IV → IV → Heap → Prop) (F4_15 : (IV → Heap → Prop) → IV → IV → IV → IV → IV → IV → Heap → Prop) (K : IV → Heap → Prop) (a : IAct) (h : Heap) : IC Try.prog 86 D4 c4_RRRRRLRLLRL (iThen (fun a h => F4_15 K (a 0) (a 1) (a 2) (a 7) (a 8) (a 9) h) (iThen (fun a h => F4_14 K (a 0) (a 1) (a 2) (a 7) (a 8) (a 9) h) (iBlock 0 (iThen (fun a h => F4_13 K (a 0) (a 1) (a 2) (a 7) h) (finK Try.prog Try.f4.results.toList K))))) a h = F4_16g F4_13 F4_14 F4_15 K (a 0) (a 1) (a 2) (a 7) (a 8) (a 9) h := by kernel_rfl
theorem F4_16_ok (K : IV → Heap → Prop) (a : IAct) (h : Heap) : IC Try.prog 86 D4 c4_RRRRRLRLLRL (iThen (fun a h => F4_15 K (a 0) (a 1) (a 2) (a 7) (a 8) (a 9) h) (iThen (fun a h => F4_14 K (a 0) (a 1) (a 2) (a 7) (a 8) (a 9) h) (iBlock 0 (iThen (fun a h => F4_13 K (a 0) (a 1) (a 2) (a 7) h) (finK Try.prog Try.f4.results.toList K))))) a h = F4_16 K (a 0) (a 1) (a 2) (a 7) (a 8) (a 9) h := F4_16_okg @F4_13 @F4_14 @F4_15 K a h
theorem F4_16_to {K : IV → Heap → Prop} {a : IAct} {h : Heap} (p : F4_16 K (a 0) (a 1) (a 2) (a 7) (a 8) (a 9) h) : IC Try.prog 86 D4 c4_RRRRRLRLLRL (iThen (fun a h => F4_15 K (a 0) (a 1) (a 2) (a 7) (a 8) (a 9) h) (iThen (fun a h => F4_14 K (a 0) (a 1) (a 2) (a 7) (a 8) (a 9) h) (iBlock 0 (iThen (fun a h => F4_13 K (a 0) (a 1) (a 2) (a 7) h) (finK Try.prog Try.f4.results.toList K))))) a h := by rw [F4_16_ok]; exact p
theorem F4_17_to {K : IV → Heap → Prop} {a : IAct} {h : Heap} (p : F4_16 K (a 0) (a 1) (a 2) (a 7) (a 8) (a 9) h) : IC Try.prog 86 D4 c4_RRRRRLRLLR (iThen (fun a h => F4_14 K (a 0) (a 1) (a 2) (a 7) (a 8) (a 9) h) (iBlock 0 (iThen (fun a h => F4_13 K (a 0) (a 1) (a 2) (a 7) h) (finK Try.prog Try.f4.results.toList K)))) a h := by
  have e : c4_RRRRRLRLLR = .seq c4_RRRRRLRLLRL c4_RRRRRLRLLRR := by kernel_rfl
  rw [e]; exact IC.mono c4_RRRRRLRLLRL (iThen_mono fun a h p => F4_15_to p) (F4_16_to p)
theorem F4_18_okg (F4_13 : (IV → Heap → Prop) → IV → IV → IV → IV → Heap → Prop) (F4_14 : (IV → Heap → Prop) → IV → IV → IV → IV → IV → IV → Heap → Prop) (F4_17 : (IV → Heap → Prop) → IV → IV → IV → IV → IV → IV → Heap → Prop) (K : IV → Heap → Prop) (a : IAct) (h : Heap) : IC Try.prog 86 D4 c4_RRRRRLRLLL (iThen (fun a h => F4_17 K (a 0) (a 1) (a 2) (a 7) (a 8) (a 9) h) (iThen (fun a h => F4_14 K (a 0) (a 1) (a 2) (a 7) (a 8) (a 9) h) (iBlock 0 (iThen (fun a h => F4_13 K (a 0) (a 1) (a 2) (a 7) h) (finK Try.prog Try.f4.results.toList K))))) a h = F4_18g F4_13 F4_14 F4_17 K (a 0) (a 1) (a 2) (a 7) (a 8) (a 9) h := by kernel_rfl
theorem F4_18_ok (K : IV → Heap → Prop) (a : IAct) (h : Heap) : IC Try.prog 86 D4 c4_RRRRRLRLLL (iThen (fun a h => F4_17 K (a 0) (a 1) (a 2) (a 7) (a 8) (a 9) h) (iThen (fun a h => F4_14 K (a 0) (a 1) (a 2) (a 7) (a 8) (a 9) h) (iBlock 0 (iThen (fun a h => F4_13 K (a 0) (a 1) (a 2) (a 7) h) (finK Try.prog Try.f4.results.toList K))))) a h = F4_18 K (a 0) (a 1) (a 2) (a 7) (a 8) (a 9) h := F4_18_okg @F4_13 @F4_14 @F4_17 K a h
theorem F4_18_to {K : IV → Heap → Prop} {a : IAct} {h : Heap} (p : F4_18 K (a 0) (a 1) (a 2) (a 7) (a 8) (a 9) h) : IC Try.prog 86 D4 c4_RRRRRLRLLL (iThen (fun a h => F4_17 K (a 0) (a 1) (a 2) (a 7) (a 8) (a 9) h) (iThen (fun a h => F4_14 K (a 0) (a 1) (a 2) (a 7) (a 8) (a 9) h) (iBlock 0 (iThen (fun a h => F4_13 K (a 0) (a 1) (a 2) (a 7) h) (finK Try.prog Try.f4.results.toList K))))) a h := by rw [F4_18_ok]; exact p
theorem F4_19_to {K : IV → Heap → Prop} {a : IAct} {h : Heap} (p : F4_18 K (a 0) (a 1) (a 2) (a 7) (a 8) (a 9) h) : IC Try.prog 86 D4 c4_RRRRRLRLL (iThen (fun a h => F4_14 K (a 0) (a 1) (a 2) (a 7) (a 8) (a 9) h) (iBlock 0 (iThen (fun a h => F4_13 K (a 0) (a 1) (a 2) (a 7) h) (finK Try.prog Try.f4.results.toList K)))) a h := by
  have e : c4_RRRRRLRLL = .seq c4_RRRRRLRLLL c4_RRRRRLRLLR := by kernel_rfl
  rw [e]; exact IC.mono c4_RRRRRLRLLL (iThen_mono fun a h p => F4_17_to p) (F4_18_to p)
theorem F4_14_to {K : IV → Heap → Prop} {a : IAct} {h : Heap} (p : F4_14 K (a 0) (a 1) (a 2) (a 7) (a 8) (a 9) h) : IC Try.prog 86 D4 c4_RRRRRLRL (iBlock 0 (iThen (fun a h => F4_13 K (a 0) (a 1) (a 2) (a 7) h) (finK Try.prog Try.f4.results.toList K))) a h := by
  have e : c4_RRRRRLRL = .loop c4_RRRRRLRLL := by kernel_rfl
  rw [e]; exact p a rfl rfl rfl rfl rfl rfl
theorem F4_14_round {K : IV → Heap → Prop} {x0 x1 x2 x7 x8 x9 : IV} {h : Heap} (p : F4_19 K x0 x1 x2 x7 x8 x9 h) : F4_14 K x0 x1 x2 x7 x8 x9 h := by
  intro a e0 e1 e2 e7 e8 e9
  subst e0; subst e1; subst e2; subst e7; subst e8; subst e9; exact ILoop.round Try.mixed (D := D4) chk4_RRRRRLRL (L := fun a h => F4_14 K (a 0) (a 1) (a 2) (a 7) (a 8) (a 9) h) (fun a h p => p a rfl rfl rfl rfl rfl rfl) (F4_19_to p)
theorem F4_20_to {K : IV → Heap → Prop} {a : IAct} {h : Heap} (p : F4_14 K (a 0) (a 1) (a 2) (a 7) (a 8) (a 9) h) : IC Try.prog 86 D4 c4_RRRRRLR (iThen (fun a h => F4_13 K (a 0) (a 1) (a 2) (a 7) h) (finK Try.prog Try.f4.results.toList K)) a h := by
  have e : c4_RRRRRLR = .block 0 c4_RRRRRLRL := by kernel_rfl
  rw [e]; exact F4_14_to p
theorem F4_21_okg (F4_13 : (IV → Heap → Prop) → IV → IV → IV → IV → Heap → Prop) (F4_20 : (IV → Heap → Prop) → IV → IV → IV → IV → IV → IV → Heap → Prop) (K : IV → Heap → Prop) (a : IAct) (h : Heap) : IC Try.prog 86 D4 c4_RRRRRLL (iThen (fun a h => F4_20 K (a 0) (a 1) (a 2) (a 7) (a 8) (a 9) h) (iThen (fun a h => F4_13 K (a 0) (a 1) (a 2) (a 7) h) (finK Try.prog Try.f4.results.toList K))) a h = F4_21g F4_13 F4_20 K (a 0) (a 1) (a 2) (a 7) (a 8) h := by kernel_rfl
theorem F4_21_ok (K : IV → Heap → Prop) (a : IAct) (h : Heap) : IC Try.prog 86 D4 c4_RRRRRLL (iThen (fun a h => F4_20 K (a 0) (a 1) (a 2) (a 7) (a 8) (a 9) h) (iThen (fun a h => F4_13 K (a 0) (a 1) (a 2) (a 7) h) (finK Try.prog Try.f4.results.toList K))) a h = F4_21 K (a 0) (a 1) (a 2) (a 7) (a 8) h := F4_21_okg @F4_13 @F4_20 K a h
theorem F4_21_to {K : IV → Heap → Prop} {a : IAct} {h : Heap} (p : F4_21 K (a 0) (a 1) (a 2) (a 7) (a 8) h) : IC Try.prog 86 D4 c4_RRRRRLL (iThen (fun a h => F4_20 K (a 0) (a 1) (a 2) (a 7) (a 8) (a 9) h) (iThen (fun a h => F4_13 K (a 0) (a 1) (a 2) (a 7) h) (finK Try.prog Try.f4.results.toList K))) a h := by rw [F4_21_ok]; exact p
theorem F4_22_to {K : IV → Heap → Prop} {a : IAct} {h : Heap} (p : F4_21 K (a 0) (a 1) (a 2) (a 7) (a 8) h) : IC Try.prog 86 D4 c4_RRRRRL (iThen (fun a h => F4_13 K (a 0) (a 1) (a 2) (a 7) h) (finK Try.prog Try.f4.results.toList K)) a h := by
  have e : c4_RRRRRL = .seq c4_RRRRRLL c4_RRRRRLR := by kernel_rfl
  rw [e]; exact IC.mono c4_RRRRRLL (iThen_mono fun a h p => F4_20_to p) (F4_21_to p)
theorem F4_23_to {K : IV → Heap → Prop} {a : IAct} {h : Heap} (p : F4_22 K (a 0) (a 1) (a 2) (a 7) (a 8) h) : IC Try.prog 86 D4 c4_RRRRR (finK Try.prog Try.f4.results.toList K) a h := by
  have e : c4_RRRRR = .seq c4_RRRRRL c4_RRRRRR := by kernel_rfl
  rw [e]; exact IC.mono c4_RRRRRL (iThen_mono fun a h p => F4_13_to p) (F4_22_to p)
theorem F4_24_okg (F4_23 : (IV → Heap → Prop) → IV → IV → IV → IV → IV → Heap → Prop) (K : IV → Heap → Prop) (a : IAct) (h : Heap) : IC Try.prog 86 D4 c4_RRRRL (iThen (fun a h => F4_23 K (a 0) (a 1) (a 2) (a 7) (a 8) h) (finK Try.prog Try.f4.results.toList K)) a h = F4_24g F4_23 K (a 0) (a 1) (a 2) (a 7) (a 8) h := by kernel_rfl
theorem F4_24_ok (K : IV → Heap → Prop) (a : IAct) (h : Heap) : IC Try.prog 86 D4 c4_RRRRL (iThen (fun a h => F4_23 K (a 0) (a 1) (a 2) (a 7) (a 8) h) (finK Try.prog Try.f4.results.toList K)) a h = F4_24 K (a 0) (a 1) (a 2) (a 7) (a 8) h := F4_24_okg @F4_23 K a h
theorem F4_24_to {K : IV → Heap → Prop} {a : IAct} {h : Heap} (p : F4_24 K (a 0) (a 1) (a 2) (a 7) (a 8) h) : IC Try.prog 86 D4 c4_RRRRL (iThen (fun a h => F4_23 K (a 0) (a 1) (a 2) (a 7) (a 8) h) (finK Try.prog Try.f4.results.toList K)) a h := by rw [F4_24_ok]; exact p
theorem F4_25_to {K : IV → Heap → Prop} {a : IAct} {h : Heap} (p : F4_24 K (a 0) (a 1) (a 2) (a 7) (a 8) h) : IC Try.prog 86 D4 c4_RRRR (finK Try.prog Try.f4.results.toList K) a h := by
  have e : c4_RRRR = .seq c4_RRRRL c4_RRRRR := by kernel_rfl
  rw [e]; exact IC.mono c4_RRRRL (iThen_mono fun a h p => F4_23_to p) (F4_24_to p)
theorem F4_26_okg (F4_25 : (IV → Heap → Prop) → IV → IV → IV → IV → IV → Heap → Prop) (K : IV → Heap → Prop) (a : IAct) (h : Heap) : IC Try.prog 86 D4 c4_RRRL (iThen (fun a h => F4_25 K (a 0) (a 1) (a 2) (a 7) (a 8) h) (finK Try.prog Try.f4.results.toList K)) a h = F4_26g F4_25 K (a 0) (a 1) (a 2) (a 7) h := by kernel_rfl
theorem F4_26_ok (K : IV → Heap → Prop) (a : IAct) (h : Heap) : IC Try.prog 86 D4 c4_RRRL (iThen (fun a h => F4_25 K (a 0) (a 1) (a 2) (a 7) (a 8) h) (finK Try.prog Try.f4.results.toList K)) a h = F4_26 K (a 0) (a 1) (a 2) (a 7) h := F4_26_okg @F4_25 K a h
theorem F4_26_to {K : IV → Heap → Prop} {a : IAct} {h : Heap} (p : F4_26 K (a 0) (a 1) (a 2) (a 7) h) : IC Try.prog 86 D4 c4_RRRL (iThen (fun a h => F4_25 K (a 0) (a 1) (a 2) (a 7) (a 8) h) (finK Try.prog Try.f4.results.toList K)) a h := by rw [F4_26_ok]; exact p
theorem F4_27_to {K : IV → Heap → Prop} {a : IAct} {h : Heap} (p : F4_26 K (a 0) (a 1) (a 2) (a 7) h) : IC Try.prog 86 D4 c4_RRR (finK Try.prog Try.f4.results.toList K) a h := by
  have e : c4_RRR = .seq c4_RRRL c4_RRRR := by kernel_rfl
  rw [e]; exact IC.mono c4_RRRL (iThen_mono fun a h p => F4_25_to p) (F4_26_to p)
theorem F4_28_okg (F4_27 : (IV → Heap → Prop) → IV → IV → IV → IV → Heap → Prop) (K : IV → Heap → Prop) (a : IAct) (h : Heap) : IC Try.prog 86 D4 c4_RRL (iThen (fun a h => F4_27 K (a 0) (a 1) (a 2) (a 7) h) (finK Try.prog Try.f4.results.toList K)) a h = F4_28g F4_27 K (a 0) (a 1) (a 2) (a 7) h := by kernel_rfl
theorem F4_28_ok (K : IV → Heap → Prop) (a : IAct) (h : Heap) : IC Try.prog 86 D4 c4_RRL (iThen (fun a h => F4_27 K (a 0) (a 1) (a 2) (a 7) h) (finK Try.prog Try.f4.results.toList K)) a h = F4_28 K (a 0) (a 1) (a 2) (a 7) h := F4_28_okg @F4_27 K a h
theorem F4_28_to {K : IV → Heap → Prop} {a : IAct} {h : Heap} (p : F4_28 K (a 0) (a 1) (a 2) (a 7) h) : IC Try.prog 86 D4 c4_RRL (iThen (fun a h => F4_27 K (a 0) (a 1) (a 2) (a 7) h) (finK Try.prog Try.f4.results.toList K)) a h := by rw [F4_28_ok]; exact p
theorem F4_29_to {K : IV → Heap → Prop} {a : IAct} {h : Heap} (p : F4_28 K (a 0) (a 1) (a 2) (a 7) h) : IC Try.prog 86 D4 c4_RR (finK Try.prog Try.f4.results.toList K) a h := by
  have e : c4_RR = .seq c4_RRL c4_RRR := by kernel_rfl
  rw [e]; exact IC.mono c4_RRL (iThen_mono fun a h p => F4_27_to p) (F4_28_to p)
theorem F4_30_okg (F4_29 : (IV → Heap → Prop) → IV → IV → IV → IV → Heap → Prop) (K : IV → Heap → Prop) (a : IAct) (h : Heap) : IC Try.prog 86 D4 c4_RL (iThen (fun a h => F4_29 K (a 0) (a 1) (a 2) (a 7) h) (finK Try.prog Try.f4.results.toList K)) a h = F4_30g F4_29 K (a 0) (a 1) (a 2) h := by kernel_rfl
theorem F4_30_ok (K : IV → Heap → Prop) (a : IAct) (h : Heap) : IC Try.prog 86 D4 c4_RL (iThen (fun a h => F4_29 K (a 0) (a 1) (a 2) (a 7) h) (finK Try.prog Try.f4.results.toList K)) a h = F4_30 K (a 0) (a 1) (a 2) h := F4_30_okg @F4_29 K a h
theorem F4_30_to {K : IV → Heap → Prop} {a : IAct} {h : Heap} (p : F4_30 K (a 0) (a 1) (a 2) h) : IC Try.prog 86 D4 c4_RL (iThen (fun a h => F4_29 K (a 0) (a 1) (a 2) (a 7) h) (finK Try.prog Try.f4.results.toList K)) a h := by rw [F4_30_ok]; exact p
theorem F4_31_to {K : IV → Heap → Prop} {a : IAct} {h : Heap} (p : F4_30 K (a 0) (a 1) (a 2) h) : IC Try.prog 86 D4 c4_R (finK Try.prog Try.f4.results.toList K) a h := by
  have e : c4_R = .seq c4_RL c4_RR := by kernel_rfl
  rw [e]; exact IC.mono c4_RL (iThen_mono fun a h p => F4_29_to p) (F4_30_to p)
theorem F4_32_okg (F4_31 : (IV → Heap → Prop) → IV → IV → IV → Heap → Prop) (K : IV → Heap → Prop) (a : IAct) (h : Heap) : IC Try.prog 86 D4 c4_L (iThen (fun a h => F4_31 K (a 0) (a 1) (a 2) h) (finK Try.prog Try.f4.results.toList K)) a h = F4_32g F4_31 K (a 0) (a 1) (a 2) h := by kernel_rfl
theorem F4_32_ok (K : IV → Heap → Prop) (a : IAct) (h : Heap) : IC Try.prog 86 D4 c4_L (iThen (fun a h => F4_31 K (a 0) (a 1) (a 2) h) (finK Try.prog Try.f4.results.toList K)) a h = F4_32 K (a 0) (a 1) (a 2) h := F4_32_okg @F4_31 K a h
theorem F4_32_to {K : IV → Heap → Prop} {a : IAct} {h : Heap} (p : F4_32 K (a 0) (a 1) (a 2) h) : IC Try.prog 86 D4 c4_L (iThen (fun a h => F4_31 K (a 0) (a 1) (a 2) h) (finK Try.prog Try.f4.results.toList K)) a h := by rw [F4_32_ok]; exact p
theorem F4_33_to {K : IV → Heap → Prop} {a : IAct} {h : Heap} (p : F4_32 K (a 0) (a 1) (a 2) h) : IC Try.prog 86 D4 c4 (finK Try.prog Try.f4.results.toList K) a h := by
  have e : c4 = .seq c4_L c4_R := by kernel_rfl
  rw [e]; exact IC.mono c4_L (iThen_mono fun a h p => F4_31_to p) (F4_32_to p)
theorem F4 {K : IV → Heap → Prop} {x0 x1 x2 : IV} {h : Heap} (p : F4_33 K x0 x1 x2 h) : CallsI Try.prog 4 [x0, x1, x2] h K :=
  CallsI.ofIC Try.mixed Try.func4 rfl (Nat.le_of_ble_eq_true rfl) chk4 (F4_33_to (a := actI [x0, x1, x2]) p)

/-! ### function 5: cellplane/cellplanelaw07.DiskPlays -/
def D5 : Nat → DI
  | _ => ⟨[], [], []⟩
noncomputable def c5 : Code := bodyC Try.f5
noncomputable def c5_R : Code := cR c5
noncomputable def c5_RR : Code := cR c5_R
noncomputable def c5_RRR : Code := cR c5_RR
noncomputable def c5_RRRR : Code := cR c5_RRR
noncomputable def F5_1 (K : IV → Heap → Prop) (h : Heap) : Prop :=
  retK Try.prog [.v (.bool true)] h K
noncomputable def c5_RRRL : Code := cL c5_RRR
noncomputable def c5_RRRLR : Code := cR c5_RRRL
noncomputable def c5_RRRLRL : Code := cL c5_RRRLR
noncomputable def c5_RRRLRLL : Code := cL c5_RRRLRL
/-- A loop of function 5, at the begin of a round. -/
noncomputable def F5_2 (K : IV → Heap → Prop) (x0 x3 x4 x5 : IV) (h : Heap) : Prop := ∀ a : IAct, a 0 = x0 → a 3 = x3 → a 4 = x4 → a 5 = x5 → ILoop Try.prog 38 c5_RRRLRLL (iBlock 0 (iThen (fun a h => F5_1 K h) (finK Try.prog Try.f5.results.toList K))) a h
noncomputable def c5_RRRLRLLR : Code := cR c5_RRRLRLL
noncomputable def c5_RRRLRLLRR : Code := cR c5_RRRLRLLR
noncomputable def F5_3g (F5_1 : (IV → Heap → Prop) → Heap → Prop) (F5_2 : (IV → Heap → Prop) → IV → IV → IV → IV → Heap → Prop) (K : IV → Heap → Prop) (x0 x3 x4 x5 : IV) (h : Heap) : Prop :=
  oD (binI Try.prog .add 3 x5 (.int .i64 1)) h fun t29_3 =>
  F5_2 K x0 x3 x4 t29_3 h
noncomputable def F5_3 (K : IV → Heap → Prop) (x0 x3 x4 x5 : IV) (h : Heap) : Prop := F5_3g @F5_1 @F5_2 K x0 x3 x4 x5 h
noncomputable def c5_RRRLRLLRL : Code := cL c5_RRRLRLLR
noncomputable def F5_4g (F5_1 : (IV → Heap → Prop) → Heap → Prop) (F5_2 : (IV → Heap → Prop) → IV → IV → IV → IV → Heap → Prop) (F5_3 : (IV → Heap → Prop) → IV → IV → IV → IV → Heap → Prop) (K : IV → Heap → Prop) (x0 x3 x4 x5 : IV) (h : Heap) : Prop :=
  oD (indexAddrI Try.prog 33 x0 x5 h) h fun t34_9 =>
  oD (loadI Try.prog 39 t34_9 h) h fun t35_10 =>
  CallsI Try.prog 18 [x3, x4, t35_10] h fun t36_11 h12 =>
  oD (unI .not t36_11) h12 fun t37_13 =>
  bK' t37_13
    (retK Try.prog [.v (.bool false)] h12 K)
    (F5_3 K x0 x3 x4 x5 h12)
noncomputable def F5_4 (K : IV → Heap → Prop) (x0 x3 x4 x5 : IV) (h : Heap) : Prop := F5_4g @F5_1 @F5_2 @F5_3 K x0 x3 x4 x5 h
noncomputable abbrev F5_5 := @F5_4
noncomputable def c5_RRRLRLLL : Code := cL c5_RRRLRLL
noncomputable def F5_6g (F5_1 : (IV → Heap → Prop) → Heap → Prop) (F5_2 : (IV → Heap → Prop) → IV → IV → IV → IV → Heap → Prop) (F5_5 : (IV → Heap → Prop) → IV → IV → IV → IV → Heap → Prop) (K : IV → Heap → Prop) (x0 x3 x4 x5 : IV) (h : Heap) : Prop :=
  oD (lenI Try.prog 33 x0) h fun t26_17 =>
  oD (binI Try.prog .lss 3 x5 t26_17) h fun t27_18 =>
  bK' t27_18
    (F5_5 K x0 x3 x4 x5 h)
    (F5_1 K h)
noncomputable def F5_6 (K : IV → Heap → Prop) (x0 x3 x4 x5 : IV) (h : Heap) : Prop := F5_6g @F5_1 @F5_2 @F5_5 K x0 x3 x4 x5 h
noncomputable abbrev F5_7 := @F5_6
noncomputable abbrev F5_8 := @F5_2
noncomputable def c5_RRRLL : Code := cL c5_RRRL
noncomputable def F5_9g (F5_1 : (IV → Heap → Prop) → Heap → Prop) (F5_8 : (IV → Heap → Prop) → IV → IV → IV → IV → Heap → Prop) (K : IV → Heap → Prop) (x0 x3 x4 : IV) (h : Heap) : Prop :=
  F5_8 K x0 x3 x4 (.int .i64 0) h
noncomputable def F5_9 (K : IV → Heap → Prop) (x0 x3 x4 : IV) (h : Heap) : Prop := F5_9g @F5_1 @F5_8 K x0 x3 x4 h
noncomputable abbrev F5_10 := @F5_9
noncomputable abbrev F5_11 := @F5_10
noncomputable def c5_RRL : Code := cL c5_RR
noncomputable def F5_12g (F5_11 : (IV → Heap → Prop) → IV → IV → IV → Heap → Prop) (K : IV → Heap → Prop) (x0 x3 x4 : IV) (h : Heap) : Prop :=
  CallsI Try.prog 9 [] h fun t8_20 h21 =>
  oD (unI .not t8_20) h21 fun t9_22 =>
  oG (gW t9_22 false) (some x0) h21 fun t11_24 =>
  callS Try.prog (gW t9_22 false) 17 [t11_24] h21 fun t12_25 h26 =>
  oG (gW t9_22 false) (unI .not t12_25) h26 fun t13_27 =>
  oP (some true) (pickI t9_22 (.bool true) t13_27 h26) h26 fun t14_28 =>
  oG (gW t14_28 false) (some x3) h26 fun t16_30 =>
  oG (gW t14_28 false) (binI Try.prog .eql 23 t16_30 (.nil)) h26 fun t17_31 =>
  oP (some true) (pickI t14_28 (.bool true) t17_31 h26) h26 fun t18_32 =>
  bK' t18_32
    (CallsI Try.prog 9 [] h26 fun t19_33 h34 =>
    oG (gW t19_33 true) (some x3) h34 fun t21_36 =>
    oG (gW t19_33 true) (binI Try.prog .neq 23 t21_36 (.nil)) h34 fun t22_37 =>
    oP (some true) (pickI t19_33 t22_37 (.bool false) h34) h34 fun t23_38 =>
    retK Try.prog [.v t23_38] h34 K)
    (F5_11 K x0 x3 x4 h26)
noncomputable def F5_12 (K : IV → Heap → Prop) (x0 x3 x4 : IV) (h : Heap) : Prop := F5_12g @F5_11 K x0 x3 x4 h
noncomputable abbrev F5_13 := @F5_12
noncomputable def c5_RL : Code := cL c5_R
noncomputable def F5_14g (F5_13 : (IV → Heap → Prop) → IV → IV → IV → Heap → Prop) (K : IV → Heap → Prop) (x0 : IV) (h : Heap) : Prop :=
  CallsI Try.prog 8 [] h fun t6_40 h41 =>
  CallsI Try.prog 16 [] h41 fun t7_42 h43 =>
  F5_13 K x0 t6_40 t7_42 h43
noncomputable def F5_14 (K : IV → Heap → Prop) (x0 : IV) (h : Heap) : Prop := F5_14g @F5_13 K x0 h
noncomputable abbrev F5_15 := @F5_14
noncomputable def c5_L : Code := cL c5
noncomputable def F5_16g (F5_15 : (IV → Heap → Prop) → IV → Heap → Prop) (K : IV → Heap → Prop) (x0 : IV) (h : Heap) : Prop :=
  F5_15 K x0 h
noncomputable def F5_16 (K : IV → Heap → Prop) (x0 : IV) (h : Heap) : Prop := F5_16g @F5_15 K x0 h
noncomputable abbrev F5_17 := @F5_16
theorem chk5 : chkC Try.prog 38 D5 c5 = true := by kernel_rfl
theorem chk5_RRRLRL : chkC Try.prog 38 D5 c5_RRRLRLL = true := by kernel_rfl
theorem F5_1_ok (K : IV → Heap → Prop) (a : IAct) (h : Heap) : IC Try.prog 38 D5 c5_RRRR (finK Try.prog Try.f5.results.toList K) a h = F5_1 K h := by kernel_rfl
theorem F5_1_to {K : IV → Heap → Prop} {a : IAct} {h : Heap} (p : F5_1 K h) : IC Try.prog 38 D5 c5_RRRR (finK Try.prog Try.f5.results.toList K) a h := by rw [F5_1_ok]; exact p
theorem F5_3_okg (F5_1 : (IV → Heap → Prop) → Heap → Prop) (F5_2 : (IV → Heap → Prop) → IV → IV → IV → IV → Heap → Prop) (K : IV → Heap → Prop) (a : IAct) (h : Heap) : IC Try.prog 38 D5 c5_RRRLRLLRR (iThen (fun a h => F5_2 K (a 0) (a 3) (a 4) (a 5) h) (iBlock 0 (iThen (fun a h => F5_1 K h) (finK Try.prog Try.f5.results.toList K)))) a h = F5_3g F5_1 F5_2 K (a 0) (a 3) (a 4) (a 5) h := by kernel_rfl
theorem F5_3_ok (K : IV → Heap → Prop) (a : IAct) (h : Heap) : IC Try.prog 38 D5 c5_RRRLRLLRR (iThen (fun a h => F5_2 K (a 0) (a 3) (a 4) (a 5) h) (iBlock 0 (iThen (fun a h => F5_1 K h) (finK Try.prog Try.f5.results.toList K)))) a h = F5_3 K (a 0) (a 3) (a 4) (a 5) h := F5_3_okg @F5_1 @F5_2 K a h
theorem F5_3_to {K : IV → Heap → Prop} {a : IAct} {h : Heap} (p : F5_3 K (a 0) (a 3) (a 4) (a 5) h) : IC Try.prog 38 D5 c5_RRRLRLLRR (iThen (fun a h => F5_2 K (a 0) (a 3) (a 4) (a 5) h) (iBlock 0 (iThen (fun a h => F5_1 K h) (finK Try.prog Try.f5.results.toList K)))) a h := by rw [F5_3_ok]; exact p
theorem F5_4_okg (F5_1 : (IV → Heap → Prop) → Heap → Prop) (F5_2 : (IV → Heap → Prop) → IV → IV → IV → IV → Heap → Prop) (F5_3 : (IV → Heap → Prop) → IV → IV → IV → IV → Heap → Prop) (K : IV → Heap → Prop) (a : IAct) (h : Heap) : IC Try.prog 38 D5 c5_RRRLRLLRL (iThen (fun a h => F5_3 K (a 0) (a 3) (a 4) (a 5) h) (iThen (fun a h => F5_2 K (a 0) (a 3) (a 4) (a 5) h) (iBlock 0 (iThen (fun a h => F5_1 K h) (finK Try.prog Try.f5.results.toList K))))) a h = F5_4g F5_1 F5_2 F5_3 K (a 0) (a 3) (a 4) (a 5) h := by kernel_rfl
theorem F5_4_ok (K : IV → Heap → Prop) (a : IAct) (h : Heap) : IC Try.prog 38 D5 c5_RRRLRLLRL (iThen (fun a h => F5_3 K (a 0) (a 3) (a 4) (a 5) h) (iThen (fun a h => F5_2 K (a 0) (a 3) (a 4) (a 5) h) (iBlock 0 (iThen (fun a h => F5_1 K h) (finK Try.prog Try.f5.results.toList K))))) a h = F5_4 K (a 0) (a 3) (a 4) (a 5) h := F5_4_okg @F5_1 @F5_2 @F5_3 K a h
theorem F5_4_to {K : IV → Heap → Prop} {a : IAct} {h : Heap} (p : F5_4 K (a 0) (a 3) (a 4) (a 5) h) : IC Try.prog 38 D5 c5_RRRLRLLRL (iThen (fun a h => F5_3 K (a 0) (a 3) (a 4) (a 5) h) (iThen (fun a h => F5_2 K (a 0) (a 3) (a 4) (a 5) h) (iBlock 0 (iThen (fun a h => F5_1 K h) (finK Try.prog Try.f5.results.toList K))))) a h := by rw [F5_4_ok]; exact p
theorem F5_5_to {K : IV → Heap → Prop} {a : IAct} {h : Heap} (p : F5_4 K (a 0) (a 3) (a 4) (a 5) h) : IC Try.prog 38 D5 c5_RRRLRLLR (iThen (fun a h => F5_2 K (a 0) (a 3) (a 4) (a 5) h) (iBlock 0 (iThen (fun a h => F5_1 K h) (finK Try.prog Try.f5.results.toList K)))) a h := by
  have e : c5_RRRLRLLR = .seq c5_RRRLRLLRL c5_RRRLRLLRR := by kernel_rfl
  rw [e]; exact IC.mono c5_RRRLRLLRL (iThen_mono fun a h p => F5_3_to p) (F5_4_to p)
theorem F5_6_okg (F5_1 : (IV → Heap → Prop) → Heap → Prop) (F5_2 : (IV → Heap → Prop) → IV → IV → IV → IV → Heap → Prop) (F5_5 : (IV → Heap → Prop) → IV → IV → IV → IV → Heap → Prop) (K : IV → Heap → Prop) (a : IAct) (h : Heap) : IC Try.prog 38 D5 c5_RRRLRLLL (iThen (fun a h => F5_5 K (a 0) (a 3) (a 4) (a 5) h) (iThen (fun a h => F5_2 K (a 0) (a 3) (a 4) (a 5) h) (iBlock 0 (iThen (fun a h => F5_1 K h) (finK Try.prog Try.f5.results.toList K))))) a h = F5_6g F5_1 F5_2 F5_5 K (a 0) (a 3) (a 4) (a 5) h := by kernel_rfl
theorem F5_6_ok (K : IV → Heap → Prop) (a : IAct) (h : Heap) : IC Try.prog 38 D5 c5_RRRLRLLL (iThen (fun a h => F5_5 K (a 0) (a 3) (a 4) (a 5) h) (iThen (fun a h => F5_2 K (a 0) (a 3) (a 4) (a 5) h) (iBlock 0 (iThen (fun a h => F5_1 K h) (finK Try.prog Try.f5.results.toList K))))) a h = F5_6 K (a 0) (a 3) (a 4) (a 5) h := F5_6_okg @F5_1 @F5_2 @F5_5 K a h
theorem F5_6_to {K : IV → Heap → Prop} {a : IAct} {h : Heap} (p : F5_6 K (a 0) (a 3) (a 4) (a 5) h) : IC Try.prog 38 D5 c5_RRRLRLLL (iThen (fun a h => F5_5 K (a 0) (a 3) (a 4) (a 5) h) (iThen (fun a h => F5_2 K (a 0) (a 3) (a 4) (a 5) h) (iBlock 0 (iThen (fun a h => F5_1 K h) (finK Try.prog Try.f5.results.toList K))))) a h := by rw [F5_6_ok]; exact p
theorem F5_7_to {K : IV → Heap → Prop} {a : IAct} {h : Heap} (p : F5_6 K (a 0) (a 3) (a 4) (a 5) h) : IC Try.prog 38 D5 c5_RRRLRLL (iThen (fun a h => F5_2 K (a 0) (a 3) (a 4) (a 5) h) (iBlock 0 (iThen (fun a h => F5_1 K h) (finK Try.prog Try.f5.results.toList K)))) a h := by
  have e : c5_RRRLRLL = .seq c5_RRRLRLLL c5_RRRLRLLR := by kernel_rfl
  rw [e]; exact IC.mono c5_RRRLRLLL (iThen_mono fun a h p => F5_5_to p) (F5_6_to p)
theorem F5_2_to {K : IV → Heap → Prop} {a : IAct} {h : Heap} (p : F5_2 K (a 0) (a 3) (a 4) (a 5) h) : IC Try.prog 38 D5 c5_RRRLRL (iBlock 0 (iThen (fun a h => F5_1 K h) (finK Try.prog Try.f5.results.toList K))) a h := by
  have e : c5_RRRLRL = .loop c5_RRRLRLL := by kernel_rfl
  rw [e]; exact p a rfl rfl rfl rfl
theorem F5_2_round {K : IV → Heap → Prop} {x0 x3 x4 x5 : IV} {h : Heap} (p : F5_7 K x0 x3 x4 x5 h) : F5_2 K x0 x3 x4 x5 h := by
  intro a e0 e3 e4 e5
  subst e0; subst e3; subst e4; subst e5; exact ILoop.round Try.mixed (D := D5) chk5_RRRLRL (L := fun a h => F5_2 K (a 0) (a 3) (a 4) (a 5) h) (fun a h p => p a rfl rfl rfl rfl) (F5_7_to p)
theorem F5_8_to {K : IV → Heap → Prop} {a : IAct} {h : Heap} (p : F5_2 K (a 0) (a 3) (a 4) (a 5) h) : IC Try.prog 38 D5 c5_RRRLR (iThen (fun a h => F5_1 K h) (finK Try.prog Try.f5.results.toList K)) a h := by
  have e : c5_RRRLR = .block 0 c5_RRRLRL := by kernel_rfl
  rw [e]; exact F5_2_to p
theorem F5_9_okg (F5_1 : (IV → Heap → Prop) → Heap → Prop) (F5_8 : (IV → Heap → Prop) → IV → IV → IV → IV → Heap → Prop) (K : IV → Heap → Prop) (a : IAct) (h : Heap) : IC Try.prog 38 D5 c5_RRRLL (iThen (fun a h => F5_8 K (a 0) (a 3) (a 4) (a 5) h) (iThen (fun a h => F5_1 K h) (finK Try.prog Try.f5.results.toList K))) a h = F5_9g F5_1 F5_8 K (a 0) (a 3) (a 4) h := by kernel_rfl
theorem F5_9_ok (K : IV → Heap → Prop) (a : IAct) (h : Heap) : IC Try.prog 38 D5 c5_RRRLL (iThen (fun a h => F5_8 K (a 0) (a 3) (a 4) (a 5) h) (iThen (fun a h => F5_1 K h) (finK Try.prog Try.f5.results.toList K))) a h = F5_9 K (a 0) (a 3) (a 4) h := F5_9_okg @F5_1 @F5_8 K a h
theorem F5_9_to {K : IV → Heap → Prop} {a : IAct} {h : Heap} (p : F5_9 K (a 0) (a 3) (a 4) h) : IC Try.prog 38 D5 c5_RRRLL (iThen (fun a h => F5_8 K (a 0) (a 3) (a 4) (a 5) h) (iThen (fun a h => F5_1 K h) (finK Try.prog Try.f5.results.toList K))) a h := by rw [F5_9_ok]; exact p
theorem F5_10_to {K : IV → Heap → Prop} {a : IAct} {h : Heap} (p : F5_9 K (a 0) (a 3) (a 4) h) : IC Try.prog 38 D5 c5_RRRL (iThen (fun a h => F5_1 K h) (finK Try.prog Try.f5.results.toList K)) a h := by
  have e : c5_RRRL = .seq c5_RRRLL c5_RRRLR := by kernel_rfl
  rw [e]; exact IC.mono c5_RRRLL (iThen_mono fun a h p => F5_8_to p) (F5_9_to p)
theorem F5_11_to {K : IV → Heap → Prop} {a : IAct} {h : Heap} (p : F5_10 K (a 0) (a 3) (a 4) h) : IC Try.prog 38 D5 c5_RRR (finK Try.prog Try.f5.results.toList K) a h := by
  have e : c5_RRR = .seq c5_RRRL c5_RRRR := by kernel_rfl
  rw [e]; exact IC.mono c5_RRRL (iThen_mono fun a h p => F5_1_to p) (F5_10_to p)
theorem F5_12_okg (F5_11 : (IV → Heap → Prop) → IV → IV → IV → Heap → Prop) (K : IV → Heap → Prop) (a : IAct) (h : Heap) : IC Try.prog 38 D5 c5_RRL (iThen (fun a h => F5_11 K (a 0) (a 3) (a 4) h) (finK Try.prog Try.f5.results.toList K)) a h = F5_12g F5_11 K (a 0) (a 3) (a 4) h := by kernel_rfl
theorem F5_12_ok (K : IV → Heap → Prop) (a : IAct) (h : Heap) : IC Try.prog 38 D5 c5_RRL (iThen (fun a h => F5_11 K (a 0) (a 3) (a 4) h) (finK Try.prog Try.f5.results.toList K)) a h = F5_12 K (a 0) (a 3) (a 4) h := F5_12_okg @F5_11 K a h
theorem F5_12_to {K : IV → Heap → Prop} {a : IAct} {h : Heap} (p : F5_12 K (a 0) (a 3) (a 4) h) : IC Try.prog 38 D5 c5_RRL (iThen (fun a h => F5_11 K (a 0) (a 3) (a 4) h) (finK Try.prog Try.f5.results.toList K)) a h := by rw [F5_12_ok]; exact p
theorem F5_13_to {K : IV → Heap → Prop} {a : IAct} {h : Heap} (p : F5_12 K (a 0) (a 3) (a 4) h) : IC Try.prog 38 D5 c5_RR (finK Try.prog Try.f5.results.toList K) a h := by
  have e : c5_RR = .seq c5_RRL c5_RRR := by kernel_rfl
  rw [e]; exact IC.mono c5_RRL (iThen_mono fun a h p => F5_11_to p) (F5_12_to p)
theorem F5_14_okg (F5_13 : (IV → Heap → Prop) → IV → IV → IV → Heap → Prop) (K : IV → Heap → Prop) (a : IAct) (h : Heap) : IC Try.prog 38 D5 c5_RL (iThen (fun a h => F5_13 K (a 0) (a 3) (a 4) h) (finK Try.prog Try.f5.results.toList K)) a h = F5_14g F5_13 K (a 0) h := by kernel_rfl
theorem F5_14_ok (K : IV → Heap → Prop) (a : IAct) (h : Heap) : IC Try.prog 38 D5 c5_RL (iThen (fun a h => F5_13 K (a 0) (a 3) (a 4) h) (finK Try.prog Try.f5.results.toList K)) a h = F5_14 K (a 0) h := F5_14_okg @F5_13 K a h
theorem F5_14_to {K : IV → Heap → Prop} {a : IAct} {h : Heap} (p : F5_14 K (a 0) h) : IC Try.prog 38 D5 c5_RL (iThen (fun a h => F5_13 K (a 0) (a 3) (a 4) h) (finK Try.prog Try.f5.results.toList K)) a h := by rw [F5_14_ok]; exact p
theorem F5_15_to {K : IV → Heap → Prop} {a : IAct} {h : Heap} (p : F5_14 K (a 0) h) : IC Try.prog 38 D5 c5_R (finK Try.prog Try.f5.results.toList K) a h := by
  have e : c5_R = .seq c5_RL c5_RR := by kernel_rfl
  rw [e]; exact IC.mono c5_RL (iThen_mono fun a h p => F5_13_to p) (F5_14_to p)
theorem F5_16_okg (F5_15 : (IV → Heap → Prop) → IV → Heap → Prop) (K : IV → Heap → Prop) (a : IAct) (h : Heap) : IC Try.prog 38 D5 c5_L (iThen (fun a h => F5_15 K (a 0) h) (finK Try.prog Try.f5.results.toList K)) a h = F5_16g F5_15 K (a 0) h := by kernel_rfl
theorem F5_16_ok (K : IV → Heap → Prop) (a : IAct) (h : Heap) : IC Try.prog 38 D5 c5_L (iThen (fun a h => F5_15 K (a 0) h) (finK Try.prog Try.f5.results.toList K)) a h = F5_16 K (a 0) h := F5_16_okg @F5_15 K a h
theorem F5_16_to {K : IV → Heap → Prop} {a : IAct} {h : Heap} (p : F5_16 K (a 0) h) : IC Try.prog 38 D5 c5_L (iThen (fun a h => F5_15 K (a 0) h) (finK Try.prog Try.f5.results.toList K)) a h := by rw [F5_16_ok]; exact p
theorem F5_17_to {K : IV → Heap → Prop} {a : IAct} {h : Heap} (p : F5_16 K (a 0) h) : IC Try.prog 38 D5 c5 (finK Try.prog Try.f5.results.toList K) a h := by
  have e : c5 = .seq c5_L c5_R := by kernel_rfl
  rw [e]; exact IC.mono c5_L (iThen_mono fun a h p => F5_15_to p) (F5_16_to p)
theorem F5 {K : IV → Heap → Prop} {x0 : IV} {h : Heap} (p : F5_17 K x0 h) : CallsI Try.prog 5 [x0] h K :=
  CallsI.ofIC Try.mixed Try.func5 rfl (Nat.le_of_ble_eq_true rfl) chk5 (F5_17_to (a := actI [x0]) p)

/-! ### function 6: cellplane/cellplanelaw07.DiskTruncates -/
def D6 : Nat → DI
  | 12 => ⟨[0, 1, 3, 7, 15, 7, 7, 103, 255, 511, 1023, 2047, 4095, 8191, 4095, 4095, 36863, 118783, 262143, 524287], [0, 1, 2, 3, 5, 6, 7, 4, 8, 9, 10, 11, 12, 14, 15, 16, 17, 13, 18, 19], []⟩
  | _ => ⟨[], [], []⟩
noncomputable def c6 : Code := bodyC Try.f6
noncomputable def c6_R : Code := cR c6
noncomputable def c6_RR : Code := cR c6_R
noncomputable def c6_RRR : Code := cR c6_RR
noncomputable def c6_RRRR : Code := cR c6_RRR
noncomputable def c6_RRRRR : Code := cR c6_RRRR
noncomputable def c6_RRRRRR : Code := cR c6_RRRRR
noncomputable def c6_RRRRRRR : Code := cR c6_RRRRRR
noncomputable def c6_RRRRRRRR : Code := cR c6_RRRRRRR
noncomputable def c6_RRRRRRRRR : Code := cR c6_RRRRRRRR
noncomputable def c6_RRRRRRRRRR : Code := cR c6_RRRRRRRRR
noncomputable def c6_RRRRRRRRRRR : Code := cR c6_RRRRRRRRRR
noncomputable def F6_1 (K : IV → Heap → Prop) (x0 x2 x3 x9 x10 : IV) (h : Heap) : Prop :=
  CallsI Try.prog 12 [x9, x3] h fun t100_3 h4 =>
  CallsI Try.prog 13 [x9] h4 fun t102_6 h7 =>
  CallsI Try.prog 9 [] h7 fun t103_9 h10 =>
  oG (gW t103_9 true) (some t102_6) h10 fun t105_12 =>
  oG (gW t103_9 true) (lenI Try.prog 22 t105_12) h10 fun t106_13 =>
  oG (gW t103_9 true) (some x2) h10 fun t107_14 =>
  oG (gW t103_9 true) (some x0) h10 fun t108_15 =>
  oG (gW t103_9 true) (lenI Try.prog 22 t108_15) h10 fun t109_16 =>
  oG (gW t103_9 true) (mmI false t107_14 [t109_16]) h10 fun t110_17 =>
  oG (gW t103_9 true) (binI Try.prog .geq 3 t106_13 t110_17) h10 fun t111_18 =>
  oP (some true) (pickI t103_9 t111_18 (.bool false) h10) h10 fun t112_19 =>
  oG (gW t112_19 true) (some t102_6) h10 fun t114_21 =>
  oG (gW t112_19 true) (lenI Try.prog 22 t114_21) h10 fun t115_22 =>
  oG (gW t112_19 true) (some x2) h10 fun t116_23 =>
  oG (gW t112_19 true) (binI Try.prog .leq 3 t115_22 t116_23) h10 fun t117_24 =>
  oP (some true) (pickI t112_19 t117_24 (.bool false) h10) h10 fun t118_25 =>
  oG (gW t118_25 true) (some t102_6) h10 fun t120_27 =>
  oG (gW t118_25 true) (some x10) h10 fun t121_28 =>
  oG (gW t118_25 true) (some t102_6) h10 fun t122_29 =>
  oG (gW t118_25 true) (lenI Try.prog 22 t122_29) h10 fun t123_30 =>
  oG (gW t118_25 true) (sliceI Try.prog 22 t121_28 none (some t123_30) h10) h10 fun t124_31 =>
  callS Try.prog (gW t118_25 true) 15 [t120_27, t124_31] h10 fun t125_32 h33 =>
  oP (some true) (pickI t118_25 t125_32 (.bool false) h33) h33 fun t126_34 =>
  retK Try.prog [.v t126_34] h33 K
noncomputable def c6_RRRRRRRRRRL : Code := cL c6_RRRRRRRRRR
noncomputable def F6_2g (F6_1 : (IV → Heap → Prop) → IV → IV → IV → IV → IV → Heap → Prop) (K : IV → Heap → Prop) (x0 x2 x3 x9 x10 x11 : IV) (h : Heap) : Prop :=
  oD (binI Try.prog .neq 41 x11 (.int .i64 0)) h fun t79_37 =>
  oG (gW t79_37 false) (some x9) h fun t81_39 =>
  oG (gW t79_37 false) (some x10) h fun t83_40 =>
  oG (gW t79_37 false) (some x2) h fun t84_41 =>
  oG (gW t79_37 false) (sliceI Try.prog 22 t83_40 none (some t84_41) h) h fun t85_42 =>
  callS Try.prog (gW t79_37 false) 13 [t81_39] h fun t82_43 h44 => ((readsG (gW t79_37 false) (sliceI Try.prog 22 t83_40 none (some t84_41) h44) t85_42 h44) ∧ True) ∧
  callS Try.prog (gW t79_37 false) 15 [t82_43, t85_42] h44 fun t86_45 h46 => (True) ∧
  oG (gW t79_37 false) (unI .not t86_45) h46 fun t87_47 =>
  oP (some true) (pickI t79_37 (.bool true) t87_47 h46) h46 fun t88_48 =>
  oG (gW t88_48 false) (some x9) h46 fun t90_50 =>
  oG (gW t88_48 false) (some x2) h46 fun t92_51 =>
  oG (gW t88_48 false) (some x0) h46 fun t93_52 =>
  oG (gW t88_48 false) (lenI Try.prog 22 t93_52) h46 fun t94_53 =>
  oG (gW t88_48 false) (mmI false t92_51 [t94_53]) h46 fun t95_54 =>
  callS Try.prog (gW t88_48 false) 14 [t90_50] h46 fun t91_55 h56 => (True) ∧
  oG (gW t88_48 false) (binI Try.prog .neq 3 t91_55 t95_54) h56 fun t96_57 =>
  oP (some true) (pickI t88_48 (.bool true) t96_57 h56) h56 fun t97_58 =>
  bK' t97_58
    (retK Try.prog [.v (.bool false)] h56 K)
    (F6_1 K x0 x2 x3 x9 x10 h56)
noncomputable def F6_2 (K : IV → Heap → Prop) (x0 x2 x3 x9 x10 x11 : IV) (h : Heap) : Prop := F6_2g @F6_1 K x0 x2 x3 x9 x10 x11 h
noncomputable abbrev F6_3 := @F6_2
noncomputable def c6_RRRRRRRRRL : Code := cL c6_RRRRRRRRR
noncomputable def F6_4g (F6_3 : (IV → Heap → Prop) → IV → IV → IV → IV → IV → IV → Heap → Prop) (K : IV → Heap → Prop) (x0 x2 x3 x9 x10 x11 : IV) (h : Heap) : Prop :=
  oD (binI Try.prog .lss 3 x2 (.int .i64 0)) h fun t53_61 =>
  oG (gW t53_61 false) (some x2) h fun t55_63 =>
  oG (gW t53_61 false) (some x10) h fun t56_64 =>
  oG (gW t53_61 false) (lenI Try.prog 22 t56_64) h fun t57_65 =>
  oG (gW t53_61 false) (binI Try.prog .gtr 3 t55_63 t57_65) h fun t58_66 =>
  oP (some true) (pickI t53_61 (.bool true) t58_66 h) h fun t59_67 =>
  bK' t59_67
    (CallsI Try.prog 9 [] h fun t60_68 h69 =>
    oG (gW t60_68 true) (some x11) h69 fun t62_71 =>
    oG (gW t60_68 true) (binI Try.prog .eql 41 t62_71 (.int .i64 1)) h69 fun t63_72 =>
    oP (some true) (pickI t60_68 t63_72 (.bool false) h69) h69 fun t64_73 =>
    oG (gW t64_73 true) (some x9) h69 fun t66_75 =>
    callS Try.prog (gW t64_73 true) 13 [t66_75] h69 fun t67_76 h77 =>
    oG (gW t64_73 true) (some x10) h77 fun t68_78 =>
    callS Try.prog (gW t64_73 true) 15 [t67_76, t68_78] h77 fun t69_79 h80 =>
    oP (some true) (pickI t64_73 t69_79 (.bool false) h80) h80 fun t70_81 =>
    oG (gW t70_81 true) (some x9) h80 fun t72_83 =>
    callS Try.prog (gW t70_81 true) 14 [t72_83] h80 fun t73_84 h85 =>
    oG (gW t70_81 true) (some x0) h85 fun t74_86 =>
    oG (gW t70_81 true) (lenI Try.prog 22 t74_86) h85 fun t75_87 =>
    oG (gW t70_81 true) (binI Try.prog .eql 3 t73_84 t75_87) h85 fun t76_88 =>
    oP (some true) (pickI t70_81 t76_88 (.bool false) h85) h85 fun t77_89 =>
    retK Try.prog [.v t77_89] h85 K)
    (F6_3 K x0 x2 x3 x9 x10 x11 h)
noncomputable def F6_4 (K : IV → Heap → Prop) (x0 x2 x3 x9 x10 x11 : IV) (h : Heap) : Prop := F6_4g @F6_3 K x0 x2 x3 x9 x10 x11 h
noncomputable abbrev F6_5 := @F6_4
noncomputable def c6_RRRRRRRRL : Code := cL c6_RRRRRRRR
noncomputable def F6_6g (F6_5 : (IV → Heap → Prop) → IV → IV → IV → IV → IV → IV → Heap → Prop) (K : IV → Heap → Prop) (x0 x2 x3 x9 x10 : IV) (h : Heap) : Prop :=
  CallsI Try.prog 20 [x9, x2] h fun t51_93 h94 =>
  F6_5 K x0 x2 x3 x9 x10 t51_93 h94
noncomputable def F6_6 (K : IV → Heap → Prop) (x0 x2 x3 x9 x10 : IV) (h : Heap) : Prop := F6_6g @F6_5 K x0 x2 x3 x9 x10 h
noncomputable abbrev F6_7 := @F6_6
noncomputable def c6_RRRRRRRL : Code := cL c6_RRRRRRR
noncomputable def F6_8g (F6_7 : (IV → Heap → Prop) → IV → IV → IV → IV → IV → Heap → Prop) (K : IV → Heap → Prop) (x0 x2 x3 x9 x10 : IV) (h : Heap) : Prop :=
  oD (lenI Try.prog 22 x10) h fun t46_98 =>
  oD (binI Try.prog .add 3 t46_98 (.int .i64 2)) h fun t47_99 =>
  CallsI Try.prog 19 [x2, .int .i64 (-2), t47_99] h fun t48_100 h101 =>
  F6_7 K x0 t48_100 x3 x9 x10 h101
noncomputable def F6_8 (K : IV → Heap → Prop) (x0 x2 x3 x9 x10 : IV) (h : Heap) : Prop := F6_8g @F6_7 K x0 x2 x3 x9 x10 h
noncomputable abbrev F6_9 := @F6_8
noncomputable def c6_RRRRRRL : Code := cL c6_RRRRRR
noncomputable def F6_10g (F6_9 : (IV → Heap → Prop) → IV → IV → IV → IV → IV → Heap → Prop) (K : IV → Heap → Prop) (x0 x1 x2 x3 x9 : IV) (h : Heap) : Prop :=
  oA (buildSliceV Try.prog 22 0 [] h) h fun t39_103 h104 =>
  oA (appendI Try.prog 22 22 t39_103 x0 h104) h104 fun t41_106 h107 =>
  oA (appendI Try.prog 22 22 t41_106 x1 h107) h107 fun t43_109 h110 =>
  F6_9 K x0 x2 x3 x9 t43_109 h110
noncomputable def F6_10 (K : IV → Heap → Prop) (x0 x1 x2 x3 x9 : IV) (h : Heap) : Prop := F6_10g @F6_9 K x0 x1 x2 x3 x9 h
noncomputable abbrev F6_11 := @F6_10
noncomputable def c6_RRRRRL : Code := cL c6_RRRRR
noncomputable def F6_12g (F6_11 : (IV → Heap → Prop) → IV → IV → IV → IV → IV → Heap → Prop) (K : IV → Heap → Prop) (x0 x1 x2 x3 x9 : IV) (h : Heap) : Prop :=
  CallsI Try.prog 10 [x9, x1] h fun t38_114 h115 =>
  F6_11 K x0 x1 x2 x3 x9 h115
noncomputable def F6_12 (K : IV → Heap → Prop) (x0 x1 x2 x3 x9 : IV) (h : Heap) : Prop := F6_12g @F6_11 K x0 x1 x2 x3 x9 h
noncomputable abbrev F6_13 := @F6_12
noncomputable def c6_RRRRL : Code := cL c6_RRRR
noncomputable def F6_14g (F6_13 : (IV → Heap → Prop) → IV → IV → IV → IV → IV → Heap → Prop) (K : IV → Heap → Prop) (x0 x1 x2 x3 x9 : IV) (h : Heap) : Prop :=
  CallsI Try.prog 11 [x9] h fun t35_117 h118 =>
  F6_13 K x0 x1 x2 x3 x9 h118
noncomputable def F6_14 (K : IV → Heap → Prop) (x0 x1 x2 x3 x9 : IV) (h : Heap) : Prop := F6_14g @F6_13 K x0 x1 x2 x3 x9 h
noncomputable abbrev F6_15 := @F6_14
noncomputable def c6_RRRL : Code := cL c6_RRR
noncomputable def F6_16g (F6_15 : (IV → Heap → Prop) → IV → IV → IV → IV → IV → Heap → Prop) (K : IV → Heap → Prop) (x0 x1 x2 x3 x9 : IV) (h : Heap) : Prop :=
  CallsI Try.prog 10 [x9, x0] h fun t33_121 h122 =>
  F6_15 K x0 x1 x2 x3 x9 h122
noncomputable def F6_16 (K : IV → Heap → Prop) (x0 x1 x2 x3 x9 : IV) (h : Heap) : Prop := F6_16g @F6_15 K x0 x1 x2 x3 x9 h
noncomputable abbrev F6_17 := @F6_16
noncomputable def c6_RRL : Code := cL c6_RR
noncomputable def F6_18g (F6_17 : (IV → Heap → Prop) → IV → IV → IV → IV → IV → Heap → Prop) (K : IV → Heap → Prop) (x0 x1 x2 x3 x9 : IV) (h : Heap) : Prop :=
  oD (binI Try.prog .eql 23 x9 (.nil)) h fun t15_124 =>
  oG (gW t15_124 false) (some x0) h fun t17_126 =>
  oG (gW t15_124 false) (lenI Try.prog 22 t17_126) h fun t18_127 =>
  oG (gW t15_124 false) (binI Try.prog .gtr 3 t18_127 (.int .i64 300)) h fun t19_128 =>
  oP (some true) (pickI t15_124 (.bool true) t19_128 h) h fun t20_129 =>
  oG (gW t20_129 false) (some x1) h fun t22_131 =>
  oG (gW t20_129 false) (lenI Try.prog 22 t22_131) h fun t23_132 =>
  oG (gW t20_129 false) (binI Try.prog .gtr 3 t23_132 (.int .i64 300)) h fun t24_133 =>
  oP (some true) (pickI t20_129 (.bool true) t24_133 h) h fun t25_134 =>
  bK' t25_134
    (CallsI Try.prog 9 [] h fun t26_135 h136 =>
    oG (gW t26_135 true) (some x9) h136 fun t28_138 =>
    oG (gW t26_135 true) (binI Try.prog .neq 23 t28_138 (.nil)) h136 fun t29_139 =>
    oP (some true) (pickI t26_135 t29_139 (.bool false) h136) h136 fun t30_140 =>
    retK Try.prog [.v t30_140] h136 K)
    (F6_17 K x0 x1 x2 x3 x9 h)
noncomputable def F6_18 (K : IV → Heap → Prop) (x0 x1 x2 x3 x9 : IV) (h : Heap) : Prop := F6_18g @F6_17 K x0 x1 x2 x3 x9 h
noncomputable abbrev F6_19 := @F6_18
noncomputable def c6_RL : Code := cL c6_R
noncomputable def F6_20g (F6_19 : (IV → Heap → Prop) → IV → IV → IV → IV → IV → Heap → Prop) (K : IV → Heap → Prop) (x0 x1 x2 x3 : IV) (h : Heap) : Prop :=
  CallsI Try.prog 8 [] h fun t13_142 h143 =>
  F6_19 K x0 x1 x2 x3 t13_142 h143
noncomputable def F6_20 (K : IV → Heap → Prop) (x0 x1 x2 x3 : IV) (h : Heap) : Prop := F6_20g @F6_19 K x0 x1 x2 x3 h
noncomputable abbrev F6_21 := @F6_20
noncomputable def c6_L : Code := cL c6
noncomputable def F6_22g (F6_21 : (IV → Heap → Prop) → IV → IV → IV → IV → Heap → Prop) (K : IV → Heap → Prop) (x0 x1 x2 x3 : IV) (h : Heap) : Prop :=
  F6_21 K x0 x1 x2 x3 h
noncomputable def F6_22 (K : IV → Heap → Prop) (x0 x1 x2 x3 : IV) (h : Heap) : Prop := F6_22g @F6_21 K x0 x1 x2 x3 h
noncomputable abbrev F6_23 := @F6_22
theorem chk6 : chkC Try.prog 127 D6 c6 = true := by kernel_rfl
theorem F6_1_ok (K : IV → Heap → Prop) (a : IAct) (h : Heap) : IC Try.prog 127 D6 c6_RRRRRRRRRRR (finK Try.prog Try.f6.results.toList K) a h = F6_1 K (a 0) (a 2) (a 3) (a 9) (a 10) h := by kernel_rfl
theorem F6_1_to {K : IV → Heap → Prop} {a : IAct} {h : Heap} (p : F6_1 K (a 0) (a 2) (a 3) (a 9) (a 10) h) : IC Try.prog 127 D6 c6_RRRRRRRRRRR (finK Try.prog Try.f6.results.toList K) a h := by rw [F6_1_ok]; exact p
theorem F6_2_okg (F6_1 : (IV → Heap → Prop) → IV → IV → IV → IV → IV → Heap → Prop) (K : IV → Heap → Prop) (a : IAct) (h : Heap) : IC Try.prog 127 D6 c6_RRRRRRRRRRL (iThen (fun a h => F6_1 K (a 0) (a 2) (a 3) (a 9) (a 10) h) (finK Try.prog Try.f6.results.toList K)) a h = F6_2g F6_1 K (a 0) (a 2) (a 3) (a 9) (a 10) (a 11) h := by kernel_rfl
theorem F6_2_ok (K : IV → Heap → Prop) (a : IAct) (h : Heap) : IC Try.prog 127 D6 c6_RRRRRRRRRRL (iThen (fun a h => F6_1 K (a 0) (a 2) (a 3) (a 9) (a 10) h) (finK Try.prog Try.f6.results.toList K)) a h = F6_2 K (a 0) (a 2) (a 3) (a 9) (a 10) (a 11) h := F6_2_okg @F6_1 K a h
theorem F6_2_to {K : IV → Heap → Prop} {a : IAct} {h : Heap} (p : F6_2 K (a 0) (a 2) (a 3) (a 9) (a 10) (a 11) h) : IC Try.prog 127 D6 c6_RRRRRRRRRRL (iThen (fun a h => F6_1 K (a 0) (a 2) (a 3) (a 9) (a 10) h) (finK Try.prog Try.f6.results.toList K)) a h := by rw [F6_2_ok]; exact p
theorem F6_3_to {K : IV → Heap → Prop} {a : IAct} {h : Heap} (p : F6_2 K (a 0) (a 2) (a 3) (a 9) (a 10) (a 11) h) : IC Try.prog 127 D6 c6_RRRRRRRRRR (finK Try.prog Try.f6.results.toList K) a h := by
  have e : c6_RRRRRRRRRR = .seq c6_RRRRRRRRRRL c6_RRRRRRRRRRR := by kernel_rfl
  rw [e]; exact IC.mono c6_RRRRRRRRRRL (iThen_mono fun a h p => F6_1_to p) (F6_2_to p)
theorem F6_4_okg (F6_3 : (IV → Heap → Prop) → IV → IV → IV → IV → IV → IV → Heap → Prop) (K : IV → Heap → Prop) (a : IAct) (h : Heap) : IC Try.prog 127 D6 c6_RRRRRRRRRL (iThen (fun a h => F6_3 K (a 0) (a 2) (a 3) (a 9) (a 10) (a 11) h) (finK Try.prog Try.f6.results.toList K)) a h = F6_4g F6_3 K (a 0) (a 2) (a 3) (a 9) (a 10) (a 11) h := by kernel_rfl
theorem F6_4_ok (K : IV → Heap → Prop) (a : IAct) (h : Heap) : IC Try.prog 127 D6 c6_RRRRRRRRRL (iThen (fun a h => F6_3 K (a 0) (a 2) (a 3) (a 9) (a 10) (a 11) h) (finK Try.prog Try.f6.results.toList K)) a h = F6_4 K (a 0) (a 2) (a 3) (a 9) (a 10) (a 11) h := F6_4_okg @F6_3 K a h
theorem F6_4_to {K : IV → Heap → Prop} {a : IAct} {h : Heap} (p : F6_4 K (a 0) (a 2) (a 3) (a 9) (a 10) (a 11) h) : IC Try.prog 127 D6 c6_RRRRRRRRRL (iThen (fun a h => F6_3 K (a 0) (a 2) (a 3) (a 9) (a 10) (a 11) h) (finK Try.prog Try.f6.results.toList K)) a h := by rw [F6_4_ok]; exact p
theorem F6_5_to {K : IV → Heap → Prop} {a : IAct} {h : Heap} (p : F6_4 K (a 0) (a 2) (a 3) (a 9) (a 10) (a 11) h) : IC Try.prog 127 D6 c6_RRRRRRRRR (finK Try.prog Try.f6.results.toList K) a h := by
  have e : c6_RRRRRRRRR = .seq c6_RRRRRRRRRL c6_RRRRRRRRRR := by kernel_rfl
  rw [e]; exact IC.mono c6_RRRRRRRRRL (iThen_mono fun a h p => F6_3_to p) (F6_4_to p)
theorem F6_6_okg (F6_5 : (IV → Heap → Prop) → IV → IV → IV → IV → IV → IV → Heap → Prop) (K : IV → Heap → Prop) (a : IAct) (h : Heap) : IC Try.prog 127 D6 c6_RRRRRRRRL (iThen (fun a h => F6_5 K (a 0) (a 2) (a 3) (a 9) (a 10) (a 11) h) (finK Try.prog Try.f6.results.toList K)) a h = F6_6g F6_5 K (a 0) (a 2) (a 3) (a 9) (a 10) h := by kernel_rfl
theorem F6_6_ok (K : IV → Heap → Prop) (a : IAct) (h : Heap) : IC Try.prog 127 D6 c6_RRRRRRRRL (iThen (fun a h => F6_5 K (a 0) (a 2) (a 3) (a 9) (a 10) (a 11) h) (finK Try.prog Try.f6.results.toList K)) a h = F6_6 K (a 0) (a 2) (a 3) (a 9) (a 10) h := F6_6_okg @F6_5 K a h
theorem F6_6_to {K : IV → Heap → Prop} {a : IAct} {h : Heap} (p : F6_6 K (a 0) (a 2) (a 3) (a 9) (a 10) h) : IC Try.prog 127 D6 c6_RRRRRRRRL (iThen (fun a h => F6_5 K (a 0) (a 2) (a 3) (a 9) (a 10) (a 11) h) (finK Try.prog Try.f6.results.toList K)) a h := by rw [F6_6_ok]; exact p
theorem F6_7_to {K : IV → Heap → Prop} {a : IAct} {h : Heap} (p : F6_6 K (a 0) (a 2) (a 3) (a 9) (a 10) h) : IC Try.prog 127 D6 c6_RRRRRRRR (finK Try.prog Try.f6.results.toList K) a h := by
  have e : c6_RRRRRRRR = .seq c6_RRRRRRRRL c6_RRRRRRRRR := by kernel_rfl
  rw [e]; exact IC.mono c6_RRRRRRRRL (iThen_mono fun a h p => F6_5_to p) (F6_6_to p)
theorem F6_8_okg (F6_7 : (IV → Heap → Prop) → IV → IV → IV → IV → IV → Heap → Prop) (K : IV → Heap → Prop) (a : IAct) (h : Heap) : IC Try.prog 127 D6 c6_RRRRRRRL (iThen (fun a h => F6_7 K (a 0) (a 2) (a 3) (a 9) (a 10) h) (finK Try.prog Try.f6.results.toList K)) a h = F6_8g F6_7 K (a 0) (a 2) (a 3) (a 9) (a 10) h := by kernel_rfl
theorem F6_8_ok (K : IV → Heap → Prop) (a : IAct) (h : Heap) : IC Try.prog 127 D6 c6_RRRRRRRL (iThen (fun a h => F6_7 K (a 0) (a 2) (a 3) (a 9) (a 10) h) (finK Try.prog Try.f6.results.toList K)) a h = F6_8 K (a 0) (a 2) (a 3) (a 9) (a 10) h := F6_8_okg @F6_7 K a h
theorem F6_8_to {K : IV → Heap → Prop} {a : IAct} {h : Heap} (p : F6_8 K (a 0) (a 2) (a 3) (a 9) (a 10) h) : IC Try.prog 127 D6 c6_RRRRRRRL (iThen (fun a h => F6_7 K (a 0) (a 2) (a 3) (a 9) (a 10) h) (finK Try.prog Try.f6.results.toList K)) a h := by rw [F6_8_ok]; exact p
theorem F6_9_to {K : IV → Heap → Prop} {a : IAct} {h : Heap} (p : F6_8 K (a 0) (a 2) (a 3) (a 9) (a 10) h) : IC Try.prog 127 D6 c6_RRRRRRR (finK Try.prog Try.f6.results.toList K) a h := by
  have e : c6_RRRRRRR = .seq c6_RRRRRRRL c6_RRRRRRRR := by kernel_rfl
  rw [e]; exact IC.mono c6_RRRRRRRL (iThen_mono fun a h p => F6_7_to p) (F6_8_to p)
theorem F6_10_okg (F6_9 : (IV → Heap → Prop) → IV → IV → IV → IV → IV → Heap → Prop) (K : IV → Heap → Prop) (a : IAct) (h : Heap) : IC Try.prog 127 D6 c6_RRRRRRL (iThen (fun a h => F6_9 K (a 0) (a 2) (a 3) (a 9) (a 10) h) (finK Try.prog Try.f6.results.toList K)) a h = F6_10g F6_9 K (a 0) (a 1) (a 2) (a 3) (a 9) h := by kernel_rfl
theorem F6_10_ok (K : IV → Heap → Prop) (a : IAct) (h : Heap) : IC Try.prog 127 D6 c6_RRRRRRL (iThen (fun a h => F6_9 K (a 0) (a 2) (a 3) (a 9) (a 10) h) (finK Try.prog Try.f6.results.toList K)) a h = F6_10 K (a 0) (a 1) (a 2) (a 3) (a 9) h := F6_10_okg @F6_9 K a h
theorem F6_10_to {K : IV → Heap → Prop} {a : IAct} {h : Heap} (p : F6_10 K (a 0) (a 1) (a 2) (a 3) (a 9) h) : IC Try.prog 127 D6 c6_RRRRRRL (iThen (fun a h => F6_9 K (a 0) (a 2) (a 3) (a 9) (a 10) h) (finK Try.prog Try.f6.results.toList K)) a h := by rw [F6_10_ok]; exact p
theorem F6_11_to {K : IV → Heap → Prop} {a : IAct} {h : Heap} (p : F6_10 K (a 0) (a 1) (a 2) (a 3) (a 9) h) : IC Try.prog 127 D6 c6_RRRRRR (finK Try.prog Try.f6.results.toList K) a h := by
  have e : c6_RRRRRR = .seq c6_RRRRRRL c6_RRRRRRR := by kernel_rfl
  rw [e]; exact IC.mono c6_RRRRRRL (iThen_mono fun a h p => F6_9_to p) (F6_10_to p)
theorem F6_12_okg (F6_11 : (IV → Heap → Prop) → IV → IV → IV → IV → IV → Heap → Prop) (K : IV → Heap → Prop) (a : IAct) (h : Heap) : IC Try.prog 127 D6 c6_RRRRRL (iThen (fun a h => F6_11 K (a 0) (a 1) (a 2) (a 3) (a 9) h) (finK Try.prog Try.f6.results.toList K)) a h = F6_12g F6_11 K (a 0) (a 1) (a 2) (a 3) (a 9) h := by kernel_rfl
theorem F6_12_ok (K : IV → Heap → Prop) (a : IAct) (h : Heap) : IC Try.prog 127 D6 c6_RRRRRL (iThen (fun a h => F6_11 K (a 0) (a 1) (a 2) (a 3) (a 9) h) (finK Try.prog Try.f6.results.toList K)) a h = F6_12 K (a 0) (a 1) (a 2) (a 3) (a 9) h := F6_12_okg @F6_11 K a h
theorem F6_12_to {K : IV → Heap → Prop} {a : IAct} {h : Heap} (p : F6_12 K (a 0) (a 1) (a 2) (a 3) (a 9) h) : IC Try.prog 127 D6 c6_RRRRRL (iThen (fun a h => F6_11 K (a 0) (a 1) (a 2) (a 3) (a 9) h) (finK Try.prog Try.f6.results.toList K)) a h := by rw [F6_12_ok]; exact p
theorem F6_13_to {K : IV → Heap → Prop} {a : IAct} {h : Heap} (p : F6_12 K (a 0) (a 1) (a 2) (a 3) (a 9) h) : IC Try.prog 127 D6 c6_RRRRR (finK Try.prog Try.f6.results.toList K) a h := by
  have e : c6_RRRRR = .seq c6_RRRRRL c6_RRRRRR := by kernel_rfl
  rw [e]; exact IC.mono c6_RRRRRL (iThen_mono fun a h p => F6_11_to p) (F6_12_to p)
theorem F6_14_okg (F6_13 : (IV → Heap → Prop) → IV → IV → IV → IV → IV → Heap → Prop) (K : IV → Heap → Prop) (a : IAct) (h : Heap) : IC Try.prog 127 D6 c6_RRRRL (iThen (fun a h => F6_13 K (a 0) (a 1) (a 2) (a 3) (a 9) h) (finK Try.prog Try.f6.results.toList K)) a h = F6_14g F6_13 K (a 0) (a 1) (a 2) (a 3) (a 9) h := by kernel_rfl
theorem F6_14_ok (K : IV → Heap → Prop) (a : IAct) (h : Heap) : IC Try.prog 127 D6 c6_RRRRL (iThen (fun a h => F6_13 K (a 0) (a 1) (a 2) (a 3) (a 9) h) (finK Try.prog Try.f6.results.toList K)) a h = F6_14 K (a 0) (a 1) (a 2) (a 3) (a 9) h := F6_14_okg @F6_13 K a h
theorem F6_14_to {K : IV → Heap → Prop} {a : IAct} {h : Heap} (p : F6_14 K (a 0) (a 1) (a 2) (a 3) (a 9) h) : IC Try.prog 127 D6 c6_RRRRL (iThen (fun a h => F6_13 K (a 0) (a 1) (a 2) (a 3) (a 9) h) (finK Try.prog Try.f6.results.toList K)) a h := by rw [F6_14_ok]; exact p
theorem F6_15_to {K : IV → Heap → Prop} {a : IAct} {h : Heap} (p : F6_14 K (a 0) (a 1) (a 2) (a 3) (a 9) h) : IC Try.prog 127 D6 c6_RRRR (finK Try.prog Try.f6.results.toList K) a h := by
  have e : c6_RRRR = .seq c6_RRRRL c6_RRRRR := by kernel_rfl
  rw [e]; exact IC.mono c6_RRRRL (iThen_mono fun a h p => F6_13_to p) (F6_14_to p)
theorem F6_16_okg (F6_15 : (IV → Heap → Prop) → IV → IV → IV → IV → IV → Heap → Prop) (K : IV → Heap → Prop) (a : IAct) (h : Heap) : IC Try.prog 127 D6 c6_RRRL (iThen (fun a h => F6_15 K (a 0) (a 1) (a 2) (a 3) (a 9) h) (finK Try.prog Try.f6.results.toList K)) a h = F6_16g F6_15 K (a 0) (a 1) (a 2) (a 3) (a 9) h := by kernel_rfl
theorem F6_16_ok (K : IV → Heap → Prop) (a : IAct) (h : Heap) : IC Try.prog 127 D6 c6_RRRL (iThen (fun a h => F6_15 K (a 0) (a 1) (a 2) (a 3) (a 9) h) (finK Try.prog Try.f6.results.toList K)) a h = F6_16 K (a 0) (a 1) (a 2) (a 3) (a 9) h := F6_16_okg @F6_15 K a h
theorem F6_16_to {K : IV → Heap → Prop} {a : IAct} {h : Heap} (p : F6_16 K (a 0) (a 1) (a 2) (a 3) (a 9) h) : IC Try.prog 127 D6 c6_RRRL (iThen (fun a h => F6_15 K (a 0) (a 1) (a 2) (a 3) (a 9) h) (finK Try.prog Try.f6.results.toList K)) a h := by rw [F6_16_ok]; exact p
theorem F6_17_to {K : IV → Heap → Prop} {a : IAct} {h : Heap} (p : F6_16 K (a 0) (a 1) (a 2) (a 3) (a 9) h) : IC Try.prog 127 D6 c6_RRR (finK Try.prog Try.f6.results.toList K) a h := by
  have e : c6_RRR = .seq c6_RRRL c6_RRRR := by kernel_rfl
  rw [e]; exact IC.mono c6_RRRL (iThen_mono fun a h p => F6_15_to p) (F6_16_to p)
theorem F6_18_okg (F6_17 : (IV → Heap → Prop) → IV → IV → IV → IV → IV → Heap → Prop) (K : IV → Heap → Prop) (a : IAct) (h : Heap) : IC Try.prog 127 D6 c6_RRL (iThen (fun a h => F6_17 K (a 0) (a 1) (a 2) (a 3) (a 9) h) (finK Try.prog Try.f6.results.toList K)) a h = F6_18g F6_17 K (a 0) (a 1) (a 2) (a 3) (a 9) h := by kernel_rfl
theorem F6_18_ok (K : IV → Heap → Prop) (a : IAct) (h : Heap) : IC Try.prog 127 D6 c6_RRL (iThen (fun a h => F6_17 K (a 0) (a 1) (a 2) (a 3) (a 9) h) (finK Try.prog Try.f6.results.toList K)) a h = F6_18 K (a 0) (a 1) (a 2) (a 3) (a 9) h := F6_18_okg @F6_17 K a h
theorem F6_18_to {K : IV → Heap → Prop} {a : IAct} {h : Heap} (p : F6_18 K (a 0) (a 1) (a 2) (a 3) (a 9) h) : IC Try.prog 127 D6 c6_RRL (iThen (fun a h => F6_17 K (a 0) (a 1) (a 2) (a 3) (a 9) h) (finK Try.prog Try.f6.results.toList K)) a h := by rw [F6_18_ok]; exact p
theorem F6_19_to {K : IV → Heap → Prop} {a : IAct} {h : Heap} (p : F6_18 K (a 0) (a 1) (a 2) (a 3) (a 9) h) : IC Try.prog 127 D6 c6_RR (finK Try.prog Try.f6.results.toList K) a h := by
  have e : c6_RR = .seq c6_RRL c6_RRR := by kernel_rfl
  rw [e]; exact IC.mono c6_RRL (iThen_mono fun a h p => F6_17_to p) (F6_18_to p)
theorem F6_20_okg (F6_19 : (IV → Heap → Prop) → IV → IV → IV → IV → IV → Heap → Prop) (K : IV → Heap → Prop) (a : IAct) (h : Heap) : IC Try.prog 127 D6 c6_RL (iThen (fun a h => F6_19 K (a 0) (a 1) (a 2) (a 3) (a 9) h) (finK Try.prog Try.f6.results.toList K)) a h = F6_20g F6_19 K (a 0) (a 1) (a 2) (a 3) h := by kernel_rfl
theorem F6_20_ok (K : IV → Heap → Prop) (a : IAct) (h : Heap) : IC Try.prog 127 D6 c6_RL (iThen (fun a h => F6_19 K (a 0) (a 1) (a 2) (a 3) (a 9) h) (finK Try.prog Try.f6.results.toList K)) a h = F6_20 K (a 0) (a 1) (a 2) (a 3) h := F6_20_okg @F6_19 K a h
theorem F6_20_to {K : IV → Heap → Prop} {a : IAct} {h : Heap} (p : F6_20 K (a 0) (a 1) (a 2) (a 3) h) : IC Try.prog 127 D6 c6_RL (iThen (fun a h => F6_19 K (a 0) (a 1) (a 2) (a 3) (a 9) h) (finK Try.prog Try.f6.results.toList K)) a h := by rw [F6_20_ok]; exact p
theorem F6_21_to {K : IV → Heap → Prop} {a : IAct} {h : Heap} (p : F6_20 K (a 0) (a 1) (a 2) (a 3) h) : IC Try.prog 127 D6 c6_R (finK Try.prog Try.f6.results.toList K) a h := by
  have e : c6_R = .seq c6_RL c6_RR := by kernel_rfl
  rw [e]; exact IC.mono c6_RL (iThen_mono fun a h p => F6_19_to p) (F6_20_to p)
theorem F6_22_okg (F6_21 : (IV → Heap → Prop) → IV → IV → IV → IV → Heap → Prop) (K : IV → Heap → Prop) (a : IAct) (h : Heap) : IC Try.prog 127 D6 c6_L (iThen (fun a h => F6_21 K (a 0) (a 1) (a 2) (a 3) h) (finK Try.prog Try.f6.results.toList K)) a h = F6_22g F6_21 K (a 0) (a 1) (a 2) (a 3) h := by kernel_rfl
theorem F6_22_ok (K : IV → Heap → Prop) (a : IAct) (h : Heap) : IC Try.prog 127 D6 c6_L (iThen (fun a h => F6_21 K (a 0) (a 1) (a 2) (a 3) h) (finK Try.prog Try.f6.results.toList K)) a h = F6_22 K (a 0) (a 1) (a 2) (a 3) h := F6_22_okg @F6_21 K a h
theorem F6_22_to {K : IV → Heap → Prop} {a : IAct} {h : Heap} (p : F6_22 K (a 0) (a 1) (a 2) (a 3) h) : IC Try.prog 127 D6 c6_L (iThen (fun a h => F6_21 K (a 0) (a 1) (a 2) (a 3) h) (finK Try.prog Try.f6.results.toList K)) a h := by rw [F6_22_ok]; exact p
theorem F6_23_to {K : IV → Heap → Prop} {a : IAct} {h : Heap} (p : F6_22 K (a 0) (a 1) (a 2) (a 3) h) : IC Try.prog 127 D6 c6 (finK Try.prog Try.f6.results.toList K) a h := by
  have e : c6 = .seq c6_L c6_R := by kernel_rfl
  rw [e]; exact IC.mono c6_L (iThen_mono fun a h p => F6_21_to p) (F6_22_to p)
theorem F6 {K : IV → Heap → Prop} {x0 x1 x2 x3 : IV} {h : Heap} (p : F6_23 K x0 x1 x2 x3 h) : CallsI Try.prog 6 [x0, x1, x2, x3] h K :=
  CallsI.ofIC Try.mixed Try.func6 rfl (Nat.le_of_ble_eq_true rfl) chk6 (F6_23_to (a := actI [x0, x1, x2, x3]) p)

/-! ### function 7: cellplane/cellplanelaw07.DiskCopies -/
def D7 : Nat → DI
  | 14 => ⟨[0, 0, 0, 0, 12, 28, 63, 127, 255, 511, 1023, 511, 2559, 6655, 14847, 32767, 65535, 131071, 262143, 524287, 1048575, 524287, 2621439, 6815743, 15204351, 33554431, 67108863], [0, 1, 2, 3, 4, 5, 6, 7, 8, 9, 11, 12, 13, 14, 10, 15, 16, 17, 18, 19, 21, 22, 23, 24, 20, 25, 26], []⟩
  | 22 => ⟨[0, 1, 0, 7, 15, 31, 63, 31, 159, 415, 927, 2047, 4095, 8191], [0, 2, 1, 3, 4, 5, 7, 8, 9, 10, 6, 11, 12, 13], []⟩
  | _ => ⟨[], [], []⟩
noncomputable def c7 : Code := bodyC Try.f7
noncomputable def c7_R : Code := cR c7
noncomputable def c7_RR : Code := cR c7_R
noncomputable def c7_RRR : Code := cR c7_RR
noncomputable def c7_RRRR : Code := cR c7_RRR
noncomputable def c7_RRRRR : Code := cR c7_RRRR
noncomputable def c7_RRRRRR : Code := cR c7_RRRRR
noncomputable def c7_RRRRRRR : Code := cR c7_RRRRRR
noncomputable def c7_RRRRRRRR : Code := cR c7_RRRRRRR
noncomputable def c7_RRRRRRRRR : Code := cR c7_RRRRRRRR
noncomputable def F7_1 (K : IV → Heap → Prop) (x5 x6 x11 : IV) (h : Heap) : Prop :=
  CallsI Try.prog 13 [x5] h fun t105_3 h4 => (True) ∧
  CallsI Try.prog 15 [t105_3, x11] h4 fun t107_5 h6 => (True) ∧
  oG (gW t107_5 true) (some x5) h6 fun t109_8 =>
  oG (gW t107_5 true) (some x6) h6 fun t111_9 =>
  oP (gW t107_5 true) (nilI t111_9 h6) h6 fun t112_10 =>
  oG (gW t107_5 true) (fieldAddrI Try.prog 44 t112_10 1) h6 fun t113_11 =>
  oG (gW t107_5 true) (loadI Try.prog 3 t113_11 h6) h6 fun t114_12 =>
  callS Try.prog (gW t107_5 true) 14 [t109_8] h6 fun t110_13 h14 => ((readsG (gW t107_5 true) (loadI Try.prog 3 t113_11 h14) t114_12 h14) ∧ True) ∧
  oG (gW t107_5 true) (binI Try.prog .eql 3 t110_13 t114_12) h14 fun t115_15 =>
  oP (some true) (pickI t107_5 t115_15 (.bool false) h14) h14 fun t116_16 =>
  retK Try.prog [.v t116_16] h14 K
noncomputable def c7_RRRRRRRRL : Code := cL c7_RRRRRRRR
noncomputable def c7_RRRRRRRRLR : Code := cR c7_RRRRRRRRL
noncomputable def c7_RRRRRRRRLRL : Code := cL c7_RRRRRRRRLR
noncomputable def c7_RRRRRRRRLRLL : Code := cL c7_RRRRRRRRLRL
/-- A loop of function 7, at the begin of a round. -/
noncomputable def F7_2 (K : IV → Heap → Prop) (x1 x5 x6 x8 x9 x11 x12 : IV) (h : Heap) : Prop := ∀ a : IAct, a 1 = x1 → a 5 = x5 → a 6 = x6 → a 8 = x8 → a 9 = x9 → a 11 = x11 → a 12 = x12 → ILoop Try.prog 117 c7_RRRRRRRRLRLL (iBlock 4 (iThen (fun a h => F7_1 K (a 5) (a 6) (a 11) h) (finK Try.prog Try.f7.results.toList K))) a h
noncomputable def c7_RRRRRRRRLRLLR : Code := cR c7_RRRRRRRRLRLL
noncomputable def c7_RRRRRRRRLRLLRR : Code := cR c7_RRRRRRRRLRLLR
noncomputable def F7_3g (F7_1 : (IV → Heap → Prop) → IV → IV → IV → Heap → Prop) (F7_2 : (IV → Heap → Prop) → IV → IV → IV → IV → IV → IV → IV → Heap → Prop) (K : IV → Heap → Prop) (x1 x5 x6 x8 x9 x11 x12 : IV) (h : Heap) : Prop :=
  oD (binI Try.prog .add 3 x12 (.int .i64 1)) h fun t95_19 =>
  F7_2 K x1 x5 x6 x8 x9 x11 t95_19 h
noncomputable def F7_3 (K : IV → Heap → Prop) (x1 x5 x6 x8 x9 x11 x12 : IV) (h : Heap) : Prop := F7_3g @F7_1 @F7_2 K x1 x5 x6 x8 x9 x11 x12 h
noncomputable def c7_RRRRRRRRLRLLRL : Code := cL c7_RRRRRRRRLRLLR
noncomputable def F7_4g (F7_1 : (IV → Heap → Prop) → IV → IV → IV → Heap → Prop) (F7_2 : (IV → Heap → Prop) → IV → IV → IV → IV → IV → IV → IV → Heap → Prop) (F7_3 : (IV → Heap → Prop) → IV → IV → IV → IV → IV → IV → IV → Heap → Prop) (K : IV → Heap → Prop) (x1 x5 x6 x8 x9 x11 x12 : IV) (h : Heap) : Prop :=
  oD (indexAddrI Try.prog 33 x1 x12 h) h fun t100_25 =>
  oD (loadI Try.prog 39 t100_25 h) h fun t101_26 =>
  CallsI Try.prog 18 [x8, x9, t101_26] h fun t102_27 h28 =>
  oD (unI .not t102_27) h28 fun t103_29 =>
  bK' t103_29
    (retK Try.prog [.v (.bool false)] h28 K)
    (F7_3 K x1 x5 x6 x8 x9 x11 x12 h28)
noncomputable def F7_4 (K : IV → Heap → Prop) (x1 x5 x6 x8 x9 x11 x12 : IV) (h : Heap) : Prop := F7_4g @F7_1 @F7_2 @F7_3 K x1 x5 x6 x8 x9 x11 x12 h
noncomputable abbrev F7_5 := @F7_4
noncomputable def c7_RRRRRRRRLRLLL : Code := cL c7_RRRRRRRRLRLL
noncomputable def F7_6g (F7_1 : (IV → Heap → Prop) → IV → IV → IV → Heap → Prop) (F7_2 : (IV → Heap → Prop) → IV → IV → IV → IV → IV → IV → IV → Heap → Prop) (F7_5 : (IV → Heap → Prop) → IV → IV → IV → IV → IV → IV → IV → Heap → Prop) (K : IV → Heap → Prop) (x1 x5 x6 x8 x9 x11 x12 : IV) (h : Heap) : Prop :=
  oD (lenI Try.prog 33 x1) h fun t92_33 =>
  oD (binI Try.prog .lss 3 x12 t92_33) h fun t93_34 =>
  bK' t93_34
    (F7_5 K x1 x5 x6 x8 x9 x11 x12 h)
    (F7_1 K x5 x6 x11 h)
noncomputable def F7_6 (K : IV → Heap → Prop) (x1 x5 x6 x8 x9 x11 x12 : IV) (h : Heap) : Prop := F7_6g @F7_1 @F7_2 @F7_5 K x1 x5 x6 x8 x9 x11 x12 h
noncomputable abbrev F7_7 := @F7_6
noncomputable abbrev F7_8 := @F7_2
noncomputable def c7_RRRRRRRRLL : Code := cL c7_RRRRRRRRL
noncomputable def F7_9g (F7_1 : (IV → Heap → Prop) → IV → IV → IV → Heap → Prop) (F7_8 : (IV → Heap → Prop) → IV → IV → IV → IV → IV → IV → IV → Heap → Prop) (K : IV → Heap → Prop) (x1 x5 x6 x8 x9 x11 : IV) (h : Heap) : Prop :=
  F7_8 K x1 x5 x6 x8 x9 x11 (.int .i64 0) h
noncomputable def F7_9 (K : IV → Heap → Prop) (x1 x5 x6 x8 x9 x11 : IV) (h : Heap) : Prop := F7_9g @F7_1 @F7_8 K x1 x5 x6 x8 x9 x11 h
noncomputable abbrev F7_10 := @F7_9
noncomputable abbrev F7_11 := @F7_10
noncomputable def c7_RRRRRRRL : Code := cL c7_RRRRRRR
noncomputable def F7_12g (F7_11 : (IV → Heap → Prop) → IV → IV → IV → IV → IV → IV → Heap → Prop) (K : IV → Heap → Prop) (x1 x5 x6 x8 x9 : IV) (h : Heap) : Prop :=
  CallsI Try.prog 13 [x5] h fun t89_37 h38 =>
  F7_11 K x1 x5 x6 x8 x9 t89_37 h38
noncomputable def F7_12 (K : IV → Heap → Prop) (x1 x5 x6 x8 x9 : IV) (h : Heap) : Prop := F7_12g @F7_11 K x1 x5 x6 x8 x9 h
noncomputable abbrev F7_13 := @F7_12
noncomputable def c7_RRRRRRL : Code := cL c7_RRRRRR
noncomputable def c7_RRRRRRLR : Code := cR c7_RRRRRRL
noncomputable def c7_RRRRRRLRL : Code := cL c7_RRRRRRLR
noncomputable def c7_RRRRRRLRLL : Code := cL c7_RRRRRRLRL
/-- A loop of function 7, at the begin of a round. -/
noncomputable def F7_14 (K : IV → Heap → Prop) (x1 x5 x6 x8 x9 x10 : IV) (h : Heap) : Prop := ∀ a : IAct, a 1 = x1 → a 5 = x5 → a 6 = x6 → a 8 = x8 → a 9 = x9 → a 10 = x10 → ILoop Try.prog 117 c7_RRRRRRLRLL (iBlock 2 (iThen (fun a h => F7_13 K (a 1) (a 5) (a 6) (a 8) (a 9) h) (finK Try.prog Try.f7.results.toList K))) a h
noncomputable def c7_RRRRRRLRLLR : Code := cR c7_RRRRRRLRLL
noncomputable def c7_RRRRRRLRLLRR : Code := cR c7_RRRRRRLRLLR
noncomputable def F7_15g (F7_13 : (IV → Heap → Prop) → IV → IV → IV → IV → IV → Heap → Prop) (F7_14 : (IV → Heap → Prop) → IV → IV → IV → IV → IV → IV → Heap → Prop) (K : IV → Heap → Prop) (x1 x5 x6 x8 x9 x10 : IV) (h : Heap) : Prop :=
  oD (binI Try.prog .add 3 x10 (.int .i64 1)) h fun t60_41 =>
  F7_14 K x1 x5 x6 x8 x9 t60_41 h
noncomputable def F7_15 (K : IV → Heap → Prop) (x1 x5 x6 x8 x9 x10 : IV) (h : Heap) : Prop := F7_15g @F7_13 @F7_14 K x1 x5 x6 x8 x9 x10 h
noncomputable def c7_RRRRRRLRLLRL : Code := cL c7_RRRRRRLRLLR
noncomputable def F7_16g (F7_13 : (IV → Heap → Prop) → IV → IV → IV → IV → IV → Heap → Prop) (F7_14 : (IV → Heap → Prop) → IV → IV → IV → IV → IV → IV → Heap → Prop) (F7_15 : (IV → Heap → Prop) → IV → IV → IV → IV → IV → IV → Heap → Prop) (K : IV → Heap → Prop) (x1 x5 x6 x8 x9 x10 : IV) (h : Heap) : Prop :=
  oD (indexAddrI Try.prog 33 x1 x10 h) h fun t65_47 =>
  oD (loadI Try.prog 39 t65_47 h) h fun t66_48 =>
  CallsI Try.prog 18 [x5, x6, t66_48] h fun t67_49 h50 => (True) ∧
  oD (unI .not t67_49) h50 fun t68_51 =>
  oG (gW t68_51 false) (some x8) h50 fun t70_53 =>
  oG (gW t68_51 false) (some x9) h50 fun t72_54 =>
  oP (gW t68_51 false) (nilI t72_54 h50) h50 fun t73_55 =>
  oG (gW t68_51 false) (fieldAddrI Try.prog 44 t73_55 0) h50 fun t74_56 =>
  oG (gW t68_51 false) (loadI Try.prog 22 t74_56 h50) h50 fun t75_57 =>
  callS Try.prog (gW t68_51 false) 13 [t70_53] h50 fun t71_58 h59 => ((readsG (gW t68_51 false) (loadI Try.prog 22 t74_56 h59) t75_57 h59) ∧ True) ∧
  callS Try.prog (gW t68_51 false) 15 [t71_58, t75_57] h59 fun t76_60 h61 => (True) ∧
  oG (gW t68_51 false) (unI .not t76_60) h61 fun t77_62 =>
  oP (some true) (pickI t68_51 (.bool true) t77_62 h61) h61 fun t78_63 =>
  oG (gW t78_63 false) (some x8) h61 fun t80_65 =>
  oG (gW t78_63 false) (some x9) h61 fun t82_66 =>
  oP (gW t78_63 false) (nilI t82_66 h61) h61 fun t83_67 =>
  oG (gW t78_63 false) (fieldAddrI Try.prog 44 t83_67 1) h61 fun t84_68 =>
  oG (gW t78_63 false) (loadI Try.prog 3 t84_68 h61) h61 fun t85_69 =>
  callS Try.prog (gW t78_63 false) 14 [t80_65] h61 fun t81_70 h71 => ((readsG (gW t78_63 false) (loadI Try.prog 3 t84_68 h71) t85_69 h71) ∧ True) ∧
  oG (gW t78_63 false) (binI Try.prog .neq 3 t81_70 t85_69) h71 fun t86_72 =>
  oP (some true) (pickI t78_63 (.bool true) t86_72 h71) h71 fun t87_73 =>
  bK' t87_73
    (retK Try.prog [.v (.bool false)] h71 K)
    (F7_15 K x1 x5 x6 x8 x9 x10 h71)
noncomputable def F7_16 (K : IV → Heap → Prop) (x1 x5 x6 x8 x9 x10 : IV) (h : Heap) : Prop := F7_16g @F7_13 @F7_14 @F7_15 K x1 x5 x6 x8 x9 x10 h
noncomputable abbrev F7_17 := @F7_16
noncomputable def c7_RRRRRRLRLLL : Code := cL c7_RRRRRRLRLL
noncomputable def F7_18g (F7_13 : (IV → Heap → Prop) → IV → IV → IV → IV → IV → Heap → Prop) (F7_14 : (IV → Heap → Prop) → IV → IV → IV → IV → IV → IV → Heap → Prop) (F7_17 : (IV → Heap → Prop) → IV → IV → IV → IV → IV → IV → Heap → Prop) (K : IV → Heap → Prop) (x1 x5 x6 x8 x9 x10 : IV) (h : Heap) : Prop :=
  oD (lenI Try.prog 33 x1) h fun t57_77 =>
  oD (binI Try.prog .lss 3 x10 t57_77) h fun t58_78 =>
  bK' t58_78
    (F7_17 K x1 x5 x6 x8 x9 x10 h)
    (F7_13 K x1 x5 x6 x8 x9 h)
noncomputable def F7_18 (K : IV → Heap → Prop) (x1 x5 x6 x8 x9 x10 : IV) (h : Heap) : Prop := F7_18g @F7_13 @F7_14 @F7_17 K x1 x5 x6 x8 x9 x10 h
noncomputable abbrev F7_19 := @F7_18
noncomputable abbrev F7_20 := @F7_14
noncomputable def c7_RRRRRRLL : Code := cL c7_RRRRRRL
noncomputable def F7_21g (F7_13 : (IV → Heap → Prop) → IV → IV → IV → IV → IV → Heap → Prop) (F7_20 : (IV → Heap → Prop) → IV → IV → IV → IV → IV → IV → Heap → Prop) (K : IV → Heap → Prop) (x1 x5 x6 x8 x9 : IV) (h : Heap) : Prop :=
  F7_20 K x1 x5 x6 x8 x9 (.int .i64 0) h
noncomputable def F7_21 (K : IV → Heap → Prop) (x1 x5 x6 x8 x9 : IV) (h : Heap) : Prop := F7_21g @F7_13 @F7_20 K x1 x5 x6 x8 x9 h
noncomputable abbrev F7_22 := @F7_21
noncomputable abbrev F7_23 := @F7_22
noncomputable def c7_RRRRRL : Code := cL c7_RRRRR
noncomputable def F7_24g (F7_23 : (IV → Heap → Prop) → IV → IV → IV → IV → IV → Heap → Prop) (K : IV → Heap → Prop) (x1 x5 x6 x8 x9 : IV) (h : Heap) : Prop :=
  oD (binI Try.prog .eql 23 x8 (.nil)) h fun t54_81 =>
  bK' t54_81
    (retK Try.prog [.v (.bool false)] h K)
    (F7_23 K x1 x5 x6 x8 x9 h)
noncomputable def F7_24 (K : IV → Heap → Prop) (x1 x5 x6 x8 x9 : IV) (h : Heap) : Prop := F7_24g @F7_23 K x1 x5 x6 x8 x9 h
noncomputable abbrev F7_25 := @F7_24
noncomputable def c7_RRRRL : Code := cL c7_RRRR
noncomputable def F7_26g (F7_25 : (IV → Heap → Prop) → IV → IV → IV → IV → IV → Heap → Prop) (K : IV → Heap → Prop) (x1 x5 x6 : IV) (h : Heap) : Prop :=
  CallsI Try.prog 21 [x5] h fun t50_84 h85 =>
  CallsI Try.prog 22 [x6] h85 fun t52_87 h88 =>
  F7_25 K x1 x5 x6 t50_84 t52_87 h88
noncomputable def F7_26 (K : IV → Heap → Prop) (x1 x5 x6 : IV) (h : Heap) : Prop := F7_26g @F7_25 K x1 x5 x6 h
noncomputable abbrev F7_27 := @F7_26
noncomputable def c7_RRRL : Code := cL c7_RRR
noncomputable def c7_RRRLR : Code := cR c7_RRRL
noncomputable def c7_RRRLRL : Code := cL c7_RRRLR
noncomputable def c7_RRRLRLL : Code := cL c7_RRRLRL
/-- A loop of function 7, at the begin of a round. -/
noncomputable def F7_28 (K : IV → Heap → Prop) (x0 x1 x5 x6 x7 : IV) (h : Heap) : Prop := ∀ a : IAct, a 0 = x0 → a 1 = x1 → a 5 = x5 → a 6 = x6 → a 7 = x7 → ILoop Try.prog 117 c7_RRRLRLL (iBlock 0 (iThen (fun a h => F7_27 K (a 1) (a 5) (a 6) h) (finK Try.prog Try.f7.results.toList K))) a h
noncomputable def c7_RRRLRLLR : Code := cR c7_RRRLRLL
noncomputable def c7_RRRLRLLRR : Code := cR c7_RRRLRLLR
noncomputable def F7_29g (F7_27 : (IV → Heap → Prop) → IV → IV → IV → Heap → Prop) (F7_28 : (IV → Heap → Prop) → IV → IV → IV → IV → IV → Heap → Prop) (K : IV → Heap → Prop) (x0 x1 x5 x6 x7 : IV) (h : Heap) : Prop :=
  oD (binI Try.prog .add 3 x7 (.int .i64 1)) h fun t41_92 =>
  F7_28 K x0 x1 x5 x6 t41_92 h
noncomputable def F7_29 (K : IV → Heap → Prop) (x0 x1 x5 x6 x7 : IV) (h : Heap) : Prop := F7_29g @F7_27 @F7_28 K x0 x1 x5 x6 x7 h
noncomputable def c7_RRRLRLLRL : Code := cL c7_RRRLRLLR
noncomputable def F7_30g (F7_27 : (IV → Heap → Prop) → IV → IV → IV → Heap → Prop) (F7_28 : (IV → Heap → Prop) → IV → IV → IV → IV → IV → Heap → Prop) (F7_29 : (IV → Heap → Prop) → IV → IV → IV → IV → IV → Heap → Prop) (K : IV → Heap → Prop) (x0 x1 x5 x6 x7 : IV) (h : Heap) : Prop :=
  oD (indexAddrI Try.prog 33 x0 x7 h) h fun t46_98 =>
  oD (loadI Try.prog 39 t46_98 h) h fun t47_99 =>
  CallsI Try.prog 18 [x5, x6, t47_99] h fun t48_100 h101 =>
  F7_29 K x0 x1 x5 x6 x7 h101
noncomputable def F7_30 (K : IV → Heap → Prop) (x0 x1 x5 x6 x7 : IV) (h : Heap) : Prop := F7_30g @F7_27 @F7_28 @F7_29 K x0 x1 x5 x6 x7 h
noncomputable abbrev F7_31 := @F7_30
noncomputable def c7_RRRLRLLL : Code := cL c7_RRRLRLL
noncomputable def F7_32g (F7_27 : (IV → Heap → Prop) → IV → IV → IV → Heap → Prop) (F7_28 : (IV → Heap → Prop) → IV → IV → IV → IV → IV → Heap → Prop) (F7_31 : (IV → Heap → Prop) → IV → IV → IV → IV → IV → Heap → Prop) (K : IV → Heap → Prop) (x0 x1 x5 x6 x7 : IV) (h : Heap) : Prop :=
  oD (lenI Try.prog 33 x0) h fun t38_104 =>
  oD (binI Try.prog .lss 3 x7 t38_104) h fun t39_105 =>
  bK' t39_105
    (F7_31 K x0 x1 x5 x6 x7 h)
    (F7_27 K x1 x5 x6 h)
noncomputable def F7_32 (K : IV → Heap → Prop) (x0 x1 x5 x6 x7 : IV) (h : Heap) : Prop := F7_32g @F7_27 @F7_28 @F7_31 K x0 x1 x5 x6 x7 h
noncomputable abbrev F7_33 := @F7_32
noncomputable abbrev F7_34 := @F7_28
noncomputable def c7_RRRLL : Code := cL c7_RRRL
noncomputable def F7_35g (F7_27 : (IV → Heap → Prop) → IV → IV → IV → Heap → Prop) (F7_34 : (IV → Heap → Prop) → IV → IV → IV → IV → IV → Heap → Prop) (K : IV → Heap → Prop) (x0 x1 x5 x6 : IV) (h : Heap) : Prop :=
  F7_34 K x0 x1 x5 x6 (.int .i64 0) h
noncomputable def F7_35 (K : IV → Heap → Prop) (x0 x1 x5 x6 : IV) (h : Heap) : Prop := F7_35g @F7_27 @F7_34 K x0 x1 x5 x6 h
noncomputable abbrev F7_36 := @F7_35
noncomputable abbrev F7_37 := @F7_36
noncomputable def c7_RRL : Code := cL c7_RR
noncomputable def F7_38g (F7_37 : (IV → Heap → Prop) → IV → IV → IV → IV → Heap → Prop) (K : IV → Heap → Prop) (x0 x1 x5 x6 : IV) (h : Heap) : Prop :=
  CallsI Try.prog 9 [] h fun t15_107 h108 =>
  oD (unI .not t15_107) h108 fun t16_109 =>
  oG (gW t16_109 false) (some x0) h108 fun t18_111 =>
  callS Try.prog (gW t16_109 false) 17 [t18_111] h108 fun t19_112 h113 =>
  oG (gW t16_109 false) (unI .not t19_112) h113 fun t20_114 =>
  oP (some true) (pickI t16_109 (.bool true) t20_114 h113) h113 fun t21_115 =>
  oG (gW t21_115 false) (some x1) h113 fun t23_117 =>
  callS Try.prog (gW t21_115 false) 17 [t23_117] h113 fun t24_118 h119 =>
  oG (gW t21_115 false) (unI .not t24_118) h119 fun t25_120 =>
  oP (some true) (pickI t21_115 (.bool true) t25_120 h119) h119 fun t26_121 =>
  oG (gW t26_121 false) (some x5) h119 fun t28_123 =>
  oG (gW t26_121 false) (binI Try.prog .eql 23 t28_123 (.nil)) h119 fun t29_124 =>
  oP (some true) (pickI t26_121 (.bool true) t29_124 h119) h119 fun t30_125 =>
  bK' t30_125
    (CallsI Try.prog 9 [] h119 fun t31_126 h127 =>
    oG (gW t31_126 true) (some x5) h127 fun t33_129 =>
    oG (gW t31_126 true) (binI Try.prog .neq 23 t33_129 (.nil)) h127 fun t34_130 =>
    oP (some true) (pickI t31_126 t34_130 (.bool false) h127) h127 fun t35_131 =>
    retK Try.prog [.v t35_131] h127 K)
    (F7_37 K x0 x1 x5 x6 h119)
noncomputable def F7_38 (K : IV → Heap → Prop) (x0 x1 x5 x6 : IV) (h : Heap) : Prop := F7_38g @F7_37 K x0 x1 x5 x6 h
noncomputable abbrev F7_39 := @F7_38
noncomputable def c7_RL : Code := cL c7_R
noncomputable def F7_40g (F7_39 : (IV → Heap → Prop) → IV → IV → IV → IV → Heap → Prop) (K : IV → Heap → Prop) (x0 x1 : IV) (h : Heap) : Prop :=
  CallsI Try.prog 8 [] h fun t13_133 h134 =>
  CallsI Try.prog 16 [] h134 fun t14_135 h136 =>
  F7_39 K x0 x1 t13_133 t14_135 h136
noncomputable def F7_40 (K : IV → Heap → Prop) (x0 x1 : IV) (h : Heap) : Prop := F7_40g @F7_39 K x0 x1 h
noncomputable abbrev F7_41 := @F7_40
noncomputable def c7_L : Code := cL c7
noncomputable def F7_42g (F7_41 : (IV → Heap → Prop) → IV → IV → Heap → Prop) (K : IV → Heap → Prop) (x0 x1 : IV) (h : Heap) : Prop :=
  F7_41 K x0 x1 h
noncomputable def F7_42 (K : IV → Heap → Prop) (x0 x1 : IV) (h : Heap) : Prop := F7_42g @F7_41 K x0 x1 h
noncomputable abbrev F7_43 := @F7_42
theorem chk7 : chkC Try.prog 117 D7 c7 = true := by kernel_rfl
theorem chk7_RRRRRRRRLRL : chkC Try.prog 117 D7 c7_RRRRRRRRLRLL = true := by kernel_rfl
theorem chk7_RRRRRRLRL : chkC Try.prog 117 D7 c7_RRRRRRLRLL = true := by kernel_rfl
theorem chk7_RRRLRL : chkC Try.prog 117 D7 c7_RRRLRLL = true := by kernel_rfl
theorem F7_1_ok (K : IV → Heap → Prop) (a : IAct) (h : Heap) : IC Try.prog 117 D7 c7_RRRRRRRRR (finK Try.prog Try.f7.results.toList K) a h = F7_1 K (a 5) (a 6) (a 11) h := by kernel_rfl
theorem F7_1_to {K : IV → Heap → Prop} {a : IAct} {h : Heap} (p : F7_1 K (a 5) (a 6) (a 11) h) : IC Try.prog 117 D7 c7_RRRRRRRRR (finK Try.prog Try.f7.results.toList K) a h := by rw [F7_1_ok]; exact p
theorem F7_3_okg (F7_1 : (IV → Heap → Prop) → IV → IV → IV → Heap → Prop) (F7_2 : (IV → Heap → Prop) → IV → IV → IV → IV → IV → IV → IV → Heap → Prop) (K : IV → Heap → Prop) (a : IAct) (h : Heap) : IC Try.prog 117 D7 c7_RRRRRRRRLRLLRR (iThen (fun a h => F7_2 K (a 1) (a 5) (a 6) (a 8) (a 9) (a 11) (a 12) h) (iBlock 4 (iThen (fun a h => F7_1 K (a 5) (a 6) (a 11) h) (finK Try.prog Try.f7.results.toList K)))) a h = F7_3g F7_1 F7_2 K (a 1) (a 5) (a 6) (a 8) (a 9) (a 11) (a 12) h := by kernel_rfl
theorem F7_3_ok (K : IV → Heap → Prop) (a : IAct) (h : Heap) : IC Try.prog 117 D7 c7_RRRRRRRRLRLLRR (iThen (fun a h => F7_2 K (a 1) (a 5) (a 6) (a 8) (a 9) (a 11) (a 12) h) (iBlock 4 (iThen (fun a h => F7_1 K (a 5) (a 6) (a 11) h) (finK Try.prog Try.f7.results.toList K)))) a h = F7_3 K (a 1) (a 5) (a 6) (a 8) (a 9) (a 11) (a 12) h := F7_3_okg @F7_1 @F7_2 K a h
theorem F7_3_to {K : IV → Heap → Prop} {a : IAct} {h : Heap} (p : F7_3 K (a 1) (a 5) (a 6) (a 8) (a 9) (a 11) (a 12) h) : IC Try.prog 117 D7 c7_RRRRRRRRLRLLRR (iThen (fun a h => F7_2 K (a 1) (a 5) (a 6) (a 8) (a 9) (a 11) (a 12) h) (iBlock 4 (iThen (fun a h => F7_1 K (a 5) (a 6) (a 11) h) (finK Try.prog Try.f7.results.toList K)))) a h := by rw [F7_3_ok]; exact p
theorem F7_4_okg (F7_1 : (IV → Heap → Prop) → IV → IV → IV → Heap → Prop) (F7_2 : (IV → Heap → Prop) → IV → IV → IV → IV → IV → IV → IV → Heap → Prop) (F7_3 : (IV → Heap → Prop) → IV → IV → IV → IV → IV → IV → IV → Heap → Prop) (K : IV → Heap → Prop) (a : IAct) (h : Heap) : IC Try.prog 117 D7 c7_RRRRRRRRLRLLRL (iThen (fun a h => F7_3 K (a 1) (a 5) (a 6) (a 8) (a 9) (a 11) (a 12) h) (iThen (fun a h => F7_2 K (a 1) (a 5) (a 6) (a 8) (a 9) (a 11) (a 12) h) (iBlock 4 (iThen (fun a h => F7_1 K (a 5) (a 6) (a 11) h) (finK Try.prog Try.f7.results.toList K))))) a h = F7_4g F7_1 F7_2 F7_3 K (a 1) (a 5) (a 6) (a 8) (a 9) (a 11) (a 12) h := by kernel_rfl
theorem F7_4_ok (K : IV → Heap → Prop) (a : IAct) (h : Heap) : IC Try.prog 117 D7 c7_RRRRRRRRLRLLRL (iThen (fun a h => F7_3 K (a 1) (a 5) (a 6) (a 8) (a 9) (a 11) (a 12) h) (iThen (fun a h => F7_2 K (a 1) (a 5) (a 6) (a 8) (a 9) (a 11) (a 12) h) (iBlock 4 (iThen (fun a h => F7_1 K (a 5) (a 6) (a 11) h) (finK Try.prog Try.f7.results.toList K))))) a h = F7_4 K (a 1) (a 5) (a 6) (a 8) (a 9) (a 11) (a 12) h := F7_4_okg @F7_1 @F7_2 @F7_3 K a h
theorem F7_4_to {K : IV → Heap → Prop} {a : IAct} {h : Heap} (p : F7_4 K (a 1) (a 5) (a 6) (a 8) (a 9) (a 11) (a 12) h) : IC Try.prog 117 D7 c7_RRRRRRRRLRLLRL (iThen (fun a h => F7_3 K (a 1) (a 5) (a 6) (a 8) (a 9) (a 11) (a 12) h) (iThen (fun a h => F7_2 K (a 1) (a 5) (a 6) (a 8) (a 9) (a 11) (a 12) h) (iBlock 4 (iThen (fun a h => F7_1 K (a 5) (a 6) (a 11) h) (finK Try.prog Try.f7.results.toList K))))) a h := by rw [F7_4_ok]; exact p
theorem F7_5_to {K : IV → Heap → Prop} {a : IAct} {h : Heap} (p : F7_4 K (a 1) (a 5) (a 6) (a 8) (a 9) (a 11) (a 12) h) : IC Try.prog 117 D7 c7_RRRRRRRRLRLLR (iThen (fun a h => F7_2 K (a 1) (a 5) (a 6) (a 8) (a 9) (a 11) (a 12) h) (iBlock 4 (iThen (fun a h => F7_1 K (a 5) (a 6) (a 11) h) (finK Try.prog Try.f7.results.toList K)))) a h := by
  have e : c7_RRRRRRRRLRLLR = .seq c7_RRRRRRRRLRLLRL c7_RRRRRRRRLRLLRR := by kernel_rfl
  rw [e]; exact IC.mono c7_RRRRRRRRLRLLRL (iThen_mono fun a h p => F7_3_to p) (F7_4_to p)
theorem F7_6_okg (F7_1 : (IV → Heap → Prop) → IV → IV → IV → Heap → Prop) (F7_2 : (IV → Heap → Prop) → IV → IV → IV → IV → IV → IV → IV → Heap → Prop) (F7_5 : (IV → Heap → Prop) → IV → IV → IV → IV → IV → IV → IV → Heap → Prop) (K : IV → Heap → Prop) (a : IAct) (h : Heap) : IC Try.prog 117 D7 c7_RRRRRRRRLRLLL (iThen (fun a h => F7_5 K (a 1) (a 5) (a 6) (a 8) (a 9) (a 11) (a 12) h) (iThen (fun a h => F7_2 K (a 1) (a 5) (a 6) (a 8) (a 9) (a 11) (a 12) h) (iBlock 4 (iThen (fun a h => F7_1 K (a 5) (a 6) (a 11) h) (finK Try.prog Try.f7.results.toList K))))) a h = F7_6g F7_1 F7_2 F7_5 K (a 1) (a 5) (a 6) (a 8) (a 9) (a 11) (a 12) h := by kernel_rfl
theorem F7_6_ok (K : IV → Heap → Prop) (a : IAct) (h : Heap) : IC Try.prog 117 D7 c7_RRRRRRRRLRLLL (iThen (fun a h => F7_5 K (a 1) (a 5) (a 6) (a 8) (a 9) (a 11) (a 12) h) (iThen (fun a h => F7_2 K (a 1) (a 5) (a 6) (a 8) (a 9) (a 11) (a 12) h) (iBlock 4 (iThen (fun a h => F7_1 K (a 5) (a 6) (a 11) h) (finK Try.prog Try.f7.results.toList K))))) a h = F7_6 K (a 1) (a 5) (a 6) (a 8) (a 9) (a 11) (a 12) h := F7_6_okg @F7_1 @F7_2 @F7_5 K a h
theorem F7_6_to {K : IV → Heap → Prop} {a : IAct} {h : Heap} (p : F7_6 K (a 1) (a 5) (a 6) (a 8) (a 9) (a 11) (a 12) h) : IC Try.prog 117 D7 c7_RRRRRRRRLRLLL (iThen (fun a h => F7_5 K (a 1) (a 5) (a 6) (a 8) (a 9) (a 11) (a 12) h) (iThen (fun a h => F7_2 K (a 1) (a 5) (a 6) (a 8) (a 9) (a 11) (a 12) h) (iBlock 4 (iThen (fun a h => F7_1 K (a 5) (a 6) (a 11) h) (finK Try.prog Try.f7.results.toList K))))) a h := by rw [F7_6_ok]; exact p
theorem F7_7_to {K : IV → Heap → Prop} {a : IAct} {h : Heap} (p : F7_6 K (a 1) (a 5) (a 6) (a 8) (a 9) (a 11) (a 12) h) : IC Try.prog 117 D7 c7_RRRRRRRRLRLL (iThen (fun a h => F7_2 K (a 1) (a 5) (a 6) (a 8) (a 9) (a 11) (a 12) h) (iBlock 4 (iThen (fun a h => F7_1 K (a 5) (a 6) (a 11) h) (finK Try.prog Try.f7.results.toList K)))) a h := by
  have e : c7_RRRRRRRRLRLL = .seq c7_RRRRRRRRLRLLL c7_RRRRRRRRLRLLR := by kernel_rfl
  rw [e]; exact IC.mono c7_RRRRRRRRLRLLL (iThen_mono fun a h p => F7_5_to p) (F7_6_to p)
theorem F7_2_to {K : IV → Heap → Prop} {a : IAct} {h : Heap} (p : F7_2 K (a 1) (a 5) (a 6) (a 8) (a 9) (a 11) (a 12) h) : IC Try.prog 117 D7 c7_RRRRRRRRLRL (iBlock 4 (iThen (fun a h => F7_1 K (a 5) (a 6) (a 11) h) (finK Try.prog Try.f7.results.toList K))) a h := by
  have e : c7_RRRRRRRRLRL = .loop c7_RRRRRRRRLRLL := by kernel_rfl
  rw [e]; exact p a rfl rfl rfl rfl rfl rfl rfl
theorem F7_2_round {K : IV → Heap → Prop} {x1 x5 x6 x8 x9 x11 x12 : IV} {h : Heap} (p : F7_7 K x1 x5 x6 x8 x9 x11 x12 h) : F7_2 K x1 x5 x6 x8 x9 x11 x12 h := by
  intro a e1 e5 e6 e8 e9 e11 e12
  subst e1; subst e5; subst e6; subst e8; subst e9; subst e11; subst e12; exact ILoop.round Try.mixed (D := D7) chk7_RRRRRRRRLRL (L := fun a h => F7_2 K (a 1) (a 5) (a 6) (a 8) (a 9) (a 11) (a 12) h) (fun a h p => p a rfl rfl rfl rfl rfl rfl rfl) (F7_7_to p)
theorem F7_8_to {K : IV → Heap → Prop} {a : IAct} {h : Heap} (p : F7_2 K (a 1) (a 5) (a 6) (a 8) (a 9) (a 11) (a 12) h) : IC Try.prog 117 D7 c7_RRRRRRRRLR (iThen (fun a h => F7_1 K (a 5) (a 6) (a 11) h) (finK Try.prog Try.f7.results.toList K)) a h := by
  have e : c7_RRRRRRRRLR = .block 4 c7_RRRRRRRRLRL := by kernel_rfl
  rw [e]; exact F7_2_to p
theorem F7_9_okg (F7_1 : (IV → Heap → Prop) → IV → IV → IV → Heap → Prop) (F7_8 : (IV → Heap → Prop) → IV → IV → IV → IV → IV → IV → IV → Heap → Prop) (K : IV → Heap → Prop) (a : IAct) (h : Heap) : IC Try.prog 117 D7 c7_RRRRRRRRLL (iThen (fun a h => F7_8 K (a 1) (a 5) (a 6) (a 8) (a 9) (a 11) (a 12) h) (iThen (fun a h => F7_1 K (a 5) (a 6) (a 11) h) (finK Try.prog Try.f7.results.toList K))) a h = F7_9g F7_1 F7_8 K (a 1) (a 5) (a 6) (a 8) (a 9) (a 11) h := by kernel_rfl
theorem F7_9_ok (K : IV → Heap → Prop) (a : IAct) (h : Heap) : IC Try.prog 117 D7 c7_RRRRRRRRLL (iThen (fun a h => F7_8 K (a 1) (a 5) (a 6) (a 8) (a 9) (a 11) (a 12) h) (iThen (fun a h => F7_1 K (a 5) (a 6) (a 11) h) (finK Try.prog Try.f7.results.toList K))) a h = F7_9 K (a 1) (a 5) (a 6) (a 8) (a 9) (a 11) h := F7_9_okg @F7_1 @F7_8 K a h
theorem F7_9_to {K : IV → Heap → Prop} {a : IAct} {h : Heap} (p : F7_9 K (a 1) (a 5) (a 6) (a 8) (a 9) (a 11) h) : IC Try.prog 117 D7 c7_RRRRRRRRLL (iThen (fun a h => F7_8 K (a 1) (a 5) (a 6) (a 8) (a 9) (a 11) (a 12) h) (iThen (fun a h => F7_1 K (a 5) (a 6) (a 11) h) (finK Try.prog Try.f7.results.toList K))) a h := by rw [F7_9_ok]; exact p
theorem F7_10_to {K : IV → Heap → Prop} {a : IAct} {h : Heap} (p : F7_9 K (a 1) (a 5) (a 6) (a 8) (a 9) (a 11) h) : IC Try.prog 117 D7 c7_RRRRRRRRL (iThen (fun a h => F7_1 K (a 5) (a 6) (a 11) h) (finK Try.prog Try.f7.results.toList K)) a h := by
  have e : c7_RRRRRRRRL = .seq c7_RRRRRRRRLL c7_RRRRRRRRLR := by kernel_rfl
  rw [e]; exact IC.mono c7_RRRRRRRRLL (iThen_mono fun a h p => F7_8_to p) (F7_9_to p)
theorem F7_11_to {K : IV → Heap → Prop} {a : IAct} {h : Heap} (p : F7_10 K (a 1) (a 5) (a 6) (a 8) (a 9) (a 11) h) : IC Try.prog 117 D7 c7_RRRRRRRR (finK Try.prog Try.f7.results.toList K) a h := by
  have e : c7_RRRRRRRR = .seq c7_RRRRRRRRL c7_RRRRRRRRR := by kernel_rfl
  rw [e]; exact IC.mono c7_RRRRRRRRL (iThen_mono fun a h p => F7_1_to p) (F7_10_to p)
theorem F7_12_okg (F7_11 : (IV → Heap → Prop) → IV → IV → IV → IV → IV → IV → Heap → Prop) (K : IV → Heap → Prop) (a : IAct) (h : Heap) : IC Try.prog 117 D7 c7_RRRRRRRL (iThen (fun a h => F7_11 K (a 1) (a 5) (a 6) (a 8) (a 9) (a 11) h) (finK Try.prog Try.f7.results.toList K)) a h = F7_12g F7_11 K (a 1) (a 5) (a 6) (a 8) (a 9) h := by kernel_rfl
theorem F7_12_ok (K : IV → Heap → Prop) (a : IAct) (h : Heap) : IC Try.prog 117 D7 c7_RRRRRRRL (iThen (fun a h => F7_11 K (a 1) (a 5) (a 6) (a 8) (a 9) (a 11) h) (finK Try.prog Try.f7.results.toList K)) a h = F7_12 K (a 1) (a 5) (a 6) (a 8) (a 9) h := F7_12_okg @F7_11 K a h
theorem F7_12_to {K : IV → Heap → Prop} {a : IAct} {h : Heap} (p : F7_12 K (a 1) (a 5) (a 6) (a 8) (a 9) h) : IC Try.prog 117 D7 c7_RRRRRRRL (iThen (fun a h => F7_11 K (a 1) (a 5) (a 6) (a 8) (a 9) (a 11) h) (finK Try.prog Try.f7.results.toList K)) a h := by rw [F7_12_ok]; exact p
theorem F7_13_to {K : IV → Heap → Prop} {a : IAct} {h : Heap} (p : F7_12 K (a 1) (a 5) (a 6) (a 8) (a 9) h) : IC Try.prog 117 D7 c7_RRRRRRR (finK Try.prog Try.f7.results.toList K) a h := by
  have e : c7_RRRRRRR = .seq c7_RRRRRRRL c7_RRRRRRRR := by kernel_rfl
  rw [e]; exact IC.mono c7_RRRRRRRL (iThen_mono fun a h p => F7_11_to p) (F7_12_to p)
theorem F7_15_okg (F7_13 : (IV → Heap → Prop) → IV → IV → IV → IV → IV → Heap → Prop) (F7_14 : (IV → Heap → Prop) → IV → IV → IV → IV → IV → IV → Heap → Prop) (K : IV → Heap → Prop) (a : IAct) (h : Heap) : IC Try.prog 117 D7 c7_RRRRRRLRLLRR (iThen (fun a h => F7_14 K (a 1) (a 5) (a 6) (a 8) (a 9) (a 10) h) (iBlock 2 (iThen (fun a h => F7_13 K (a 1) (a 5) (a 6) (a 8) (a 9) h) (finK Try.prog Try.f7.results.toList K)))) a h = F7_15g F7_13 F7_14 K (a 1) (a 5) (a 6) (a 8) (a 9) (a 10) h := by kernel_rfl
theorem F7_15_ok (K : IV → Heap → Prop) (a : IAct) (h : Heap) : IC Try.prog 117 D7 c7_RRRRRRLRLLRR (iThen (fun a h => F7_14 K (a 1) (a 5) (a 6) (a 8) (a 9) (a 10) h) (iBlock 2 (iThen (fun a h => F7_13 K (a 1) (a 5) (a 6) (a 8) (a 9) h) (finK Try.prog Try.f7.results.toList K)))) a h = F7_15 K (a 1) (a 5) (a 6) (a 8) (a 9) (a 10) h := F7_15_okg @F7_13 @F7_14 K a h
theorem F7_15_to {K : IV → Heap → Prop} {a : IAct} {h : Heap} (p : F7_15 K (a 1) (a 5) (a 6) (a 8) (a 9) (a 10) h) : IC Try.prog 117 D7 c7_RRRRRRLRLLRR (iThen (fun a h => F7_14 K (a 1) (a 5) (a 6) (a 8) (a 9) (a 10) h) (iBlock 2 (iThen (fun a h => F7_13 K (a 1) (a 5) (a 6) (a 8) (a 9) h) (finK Try.prog Try.f7.results.toList K)))) a h := by rw [F7_15_ok]; exact p
theorem F7_16_okg (F7_13 : (IV → Heap → Prop) → IV → IV → IV → IV → IV → Heap → Prop) (F7_14 : (IV → Heap → Prop) → IV → IV → IV → IV → IV → IV → Heap → Prop) (F7_15 : (IV → Heap → Prop) → IV → IV → IV → IV → IV → IV → Heap → Prop) (K : IV → Heap → Prop) (a : IAct) (h : Heap) : IC Try.prog 117 D7 c7_RRRRRRLRLLRL (iThen (fun a h => F7_15 K (a 1) (a 5) (a 6) (a 8) (a 9) (a 10) h) (iThen (fun a h => F7_14 K (a 1) (a 5) (a 6) (a 8) (a 9) (a 10) h) (iBlock 2 (iThen (fun a h => F7_13 K (a 1) (a 5) (a 6) (a 8) (a 9) h) (finK Try.prog Try.f7.results.toList K))))) a h = F7_16g F7_13 F7_14 F7_15 K (a 1) (a 5) (a 6) (a 8) (a 9) (a 10) h := by kernel_rfl
theorem F7_16_ok (K : IV → Heap → Prop) (a : IAct) (h : Heap) : IC Try.prog 117 D7 c7_RRRRRRLRLLRL (iThen (fun a h => F7_15 K (a 1) (a 5) (a 6) (a 8) (a 9) (a 10) h) (iThen (fun a h => F7_14 K (a 1) (a 5) (a 6) (a 8) (a 9) (a 10) h) (iBlock 2 (iThen (fun a h => F7_13 K (a 1) (a 5) (a 6) (a 8) (a 9) h) (finK Try.prog Try.f7.results.toList K))))) a h = F7_16 K (a 1) (a 5) (a 6) (a 8) (a 9) (a 10) h := F7_16_okg @F7_13 @F7_14 @F7_15 K a h
theorem F7_16_to {K : IV → Heap → Prop} {a : IAct} {h : Heap} (p : F7_16 K (a 1) (a 5) (a 6) (a 8) (a 9) (a 10) h) : IC Try.prog 117 D7 c7_RRRRRRLRLLRL (iThen (fun a h => F7_15 K (a 1) (a 5) (a 6) (a 8) (a 9) (a 10) h) (iThen (fun a h => F7_14 K (a 1) (a 5) (a 6) (a 8) (a 9) (a 10) h) (iBlock 2 (iThen (fun a h => F7_13 K (a 1) (a 5) (a 6) (a 8) (a 9) h) (finK Try.prog Try.f7.results.toList K))))) a h := by rw [F7_16_ok]; exact p
theorem F7_17_to {K : IV → Heap → Prop} {a : IAct} {h : Heap} (p : F7_16 K (a 1) (a 5) (a 6) (a 8) (a 9) (a 10) h) : IC Try.prog 117 D7 c7_RRRRRRLRLLR (iThen (fun a h => F7_14 K (a 1) (a 5) (a 6) (a 8) (a 9) (a 10) h) (iBlock 2 (iThen (fun a h => F7_13 K (a 1) (a 5) (a 6) (a 8) (a 9) h) (finK Try.prog Try.f7.results.toList K)))) a h := by
  have e : c7_RRRRRRLRLLR = .seq c7_RRRRRRLRLLRL c7_RRRRRRLRLLRR := by kernel_rfl
  rw [e]; exact IC.mono c7_RRRRRRLRLLRL (iThen_mono fun a h p => F7_15_to p) (F7_16_to p)
theorem F7_18_okg (F7_13 : (IV → Heap → Prop) → IV → IV → IV → IV → IV → Heap → Prop) (F7_14 : (IV → Heap → Prop) → IV → IV → IV → IV → IV → IV → Heap → Prop) (F7_17 : (IV → Heap → Prop) → IV → IV → IV → IV → IV → IV → Heap → Prop) (K : IV → Heap → Prop) (a : IAct) (h : Heap) : IC Try.prog 117 D7 c7_RRRRRRLRLLL (iThen (fun a h => F7_17 K (a 1) (a 5) (a 6) (a 8) (a 9) (a 10) h) (iThen (fun a h => F7_14 K (a 1) (a 5) (a 6) (a 8) (a 9) (a 10) h) (iBlock 2 (iThen (fun a h => F7_13 K (a 1) (a 5) (a 6) (a 8) (a 9) h) (finK Try.prog Try.f7.results.toList K))))) a h = F7_18g F7_13 F7_14 F7_17 K (a 1) (a 5) (a 6) (a 8) (a 9) (a 10) h := by kernel_rfl
theorem F7_18_ok (K : IV → Heap → Prop) (a : IAct) (h : Heap) : IC Try.prog 117 D7 c7_RRRRRRLRLLL (iThen (fun a h => F7_17 K (a 1) (a 5) (a 6) (a 8) (a 9) (a 10) h) (iThen (fun a h => F7_14 K (a 1) (a 5) (a 6) (a 8) (a 9) (a 10) h) (iBlock 2 (iThen (fun a h => F7_13 K (a 1) (a 5) (a 6) (a 8) (a 9) h) (finK Try.prog Try.f7.results.toList K))))) a h = F7_18 K (a 1) (a 5) (a 6) (a 8) (a 9) (a 10) h := F7_18_okg @F7_13 @F7_14 @F7_17 K a h
theorem F7_18_to {K : IV → Heap → Prop} {a : IAct} {h : Heap} (p : F7_18 K (a 1) (a 5) (a 6) (a 8) (a 9) (a 10) h) : IC Try.prog 117 D7 c7_RRRRRRLRLLL (iThen (fun a h => F7_17 K (a 1) (a 5) (a 6) (a 8) (a 9) (a 10) h) (iThen (fun a h => F7_14 K (a 1) (a 5) (a 6) (a 8) (a 9) (a 10) h) (iBlock 2 (iThen (fun a h => F7_13 K (a 1) (a 5) (a 6) (a 8) (a 9) h) (finK Try.prog Try.f7.results.toList K))))) a h := by rw [F7_18_ok]; exact p
theorem F7_19_to {K : IV → Heap → Prop} {a : IAct} {h : Heap} (p : F7_18 K (a 1) (a 5) (a 6) (a 8) (a 9) (a 10) h) : IC Try.prog 117 D7 c7_RRRRRRLRLL (iThen (fun a h => F7_14 K (a 1) (a 5) (a 6) (a 8) (a 9) (a 10) h) (iBlock 2 (iThen (fun a h => F7_13 K (a 1) (a 5) (a 6) (a 8) (a 9) h) (finK Try.prog Try.f7.results.toList K)))) a h := by
  have e : c7_RRRRRRLRLL = .seq c7_RRRRRRLRLLL c7_RRRRRRLRLLR := by kernel_rfl
  rw [e]; exact IC.mono c7_RRRRRRLRLLL (iThen_mono fun a h p => F7_17_to p) (F7_18_to p)
theorem F7_14_to {K : IV → Heap → Prop} {a : IAct} {h : Heap} (p : F7_14 K (a 1) (a 5) (a 6) (a 8) (a 9) (a 10) h) : IC Try.prog 117 D7 c7_RRRRRRLRL (iBlock 2 (iThen (fun a h => F7_13 K (a 1) (a 5) (a 6) (a 8) (a 9) h) (finK Try.prog Try.f7.results.toList K))) a h := by
  have e : c7_RRRRRRLRL = .loop c7_RRRRRRLRLL := by kernel_rfl
  rw [e]; exact p a rfl rfl rfl rfl rfl rfl
theorem F7_14_round {K : IV → Heap → Prop} {x1 x5 x6 x8 x9 x10 : IV} {h : Heap} (p : F7_19 K x1 x5 x6 x8 x9 x10 h) : F7_14 K x1 x5 x6 x8 x9 x10 h := by
  intro a e1 e5 e6 e8 e9 e10
  subst e1; subst e5; subst e6; subst e8; subst e9; subst e10; exact ILoop.round Try.mixed (D := D7) chk7_RRRRRRLRL (L := fun a h => F7_14 K (a 1) (a 5) (a 6) (a 8) (a 9) (a 10) h) (fun a h p => p a rfl rfl rfl rfl rfl rfl) (F7_19_to p)
theorem F7_20_to {K : IV → Heap → Prop} {a : IAct} {h : Heap} (p : F7_14 K (a 1) (a 5) (a 6) (a 8) (a 9) (a 10) h) : IC Try.prog 117 D7 c7_RRRRRRLR (iThen (fun a h => F7_13 K (a 1) (a 5) (a 6) (a 8) (a 9) h) (finK Try.prog Try.f7.results.toList K)) a h := by
  have e : c7_RRRRRRLR = .block 2 c7_RRRRRRLRL := by kernel_rfl
  rw [e]; exact F7_14_to p
theorem F7_21_okg (F7_13 : (IV → Heap → Prop) → IV → IV → IV → IV → IV → Heap → Prop) (F7_20 : (IV → Heap → Prop) → IV → IV → IV → IV → IV → IV → Heap → Prop) (K : IV → Heap → Prop) (a : IAct) (h : Heap) : IC Try.prog 117 D7 c7_RRRRRRLL (iThen (fun a h => F7_20 K (a 1) (a 5) (a 6) (a 8) (a 9) (a 10) h) (iThen (fun a h => F7_13 K (a 1) (a 5) (a 6) (a 8) (a 9) h) (finK Try.prog Try.f7.results.toList K))) a h = F7_21g F7_13 F7_20 K (a 1) (a 5) (a 6) (a 8) (a 9) h := by kernel_rfl
theorem F7_21_ok (K : IV → Heap → Prop) (a : IAct) (h : Heap) : IC Try.prog 117 D7 c7_RRRRRRLL (iThen (fun a h => F7_20 K (a 1) (a 5) (a 6) (a 8) (a 9) (a 10) h) (iThen (fun a h => F7_13 K (a 1) (a 5) (a 6) (a 8) (a 9) h) (finK Try.prog Try.f7.results.toList K))) a h = F7_21 K (a 1) (a 5) (a 6) (a 8) (a 9) h := F7_21_okg @F7_13 @F7_20 K a h
theorem F7_21_to {K : IV → Heap → Prop} {a : IAct} {h : Heap} (p : F7_21 K (a 1) (a 5) (a 6) (a 8) (a 9) h) : IC Try.prog 117 D7 c7_RRRRRRLL (iThen (fun a h => F7_20 K (a 1) (a 5) (a 6) (a 8) (a 9) (a 10) h) (iThen (fun a h => F7_13 K (a 1) (a 5) (a 6) (a 8) (a 9) h) (finK Try.prog Try.f7.results.toList K))) a h := by rw [F7_21_ok]; exact p
theorem F7_22_to {K : IV → Heap → Prop} {a : IAct} {h : Heap} (p : F7_21 K (a 1) (a 5) (a 6) (a 8) (a 9) h) : IC Try.prog 117 D7 c7_RRRRRRL (iThen (fun a h => F7_13 K (a 1) (a 5) (a 6) (a 8) (a 9) h) (finK Try.prog Try.f7.results.toList K)) a h := by
  have e : c7_RRRRRRL = .seq c7_RRRRRRLL c7_RRRRRRLR := by kernel_rfl
  rw [e]; exact IC.mono c7_RRRRRRLL (iThen_mono fun a h p => F7_20_to p) (F7_21_to p)
theorem F7_23_to {K : IV → Heap → Prop} {a : IAct} {h : Heap} (p : F7_22 K (a 1) (a 5) (a 6) (a 8) (a 9) h) : IC Try.prog 117 D7 c7_RRRRRR (finK Try.prog Try.f7.results.toList K) a h := by
  have e : c7_RRRRRR = .seq c7_RRRRRRL c7_RRRRRRR := by kernel_rfl
  rw [e]; exact IC.mono c7_RRRRRRL (iThen_mono fun a h p => F7_13_to p) (F7_22_to p)
theorem F7_24_okg (F7_23 : (IV → Heap → Prop) → IV → IV → IV → IV → IV → Heap → Prop) (K : IV → Heap → Prop) (a : IAct) (h : Heap) : IC Try.prog 117 D7 c7_RRRRRL (iThen (fun a h => F7_23 K (a 1) (a 5) (a 6) (a 8) (a 9) h) (finK Try.prog Try.f7.results.toList K)) a h = F7_24g F7_23 K (a 1) (a 5) (a 6) (a 8) (a 9) h := by kernel_rfl
theorem F7_24_ok (K : IV → Heap → Prop) (a : IAct) (h : Heap) : IC Try.prog 117 D7 c7_RRRRRL (iThen (fun a h => F7_23 K (a 1) (a 5) (a 6) (a 8) (a 9) h) (finK Try.prog Try.f7.results.toList K)) a h = F7_24 K (a 1) (a 5) (a 6) (a 8) (a 9) h := F7_24_okg @F7_23 K a h
theorem F7_24_to {K : IV → Heap → Prop} {a : IAct} {h : Heap} (p : F7_24 K (a 1) (a 5) (a 6) (a 8) (a 9) h) : IC Try.prog 117 D7 c7_RRRRRL (iThen (fun a h => F7_23 K (a 1) (a 5) (a 6) (a 8) (a 9) h) (finK Try.prog Try.f7.results.toList K)) a h := by rw [F7_24_ok]; exact p
theorem F7_25_to {K : IV → Heap → Prop} {a : IAct} {h : Heap} (p : F7_24 K (a 1) (a 5) (a 6) (a 8) (a 9) h) : IC Try.prog 117 D7 c7_RRRRR (finK Try.prog Try.f7.results.toList K) a h := by
  have e : c7_RRRRR = .seq c7_RRRRRL c7_RRRRRR := by kernel_rfl
  rw [e]; exact IC.mono c7_RRRRRL (iThen_mono fun a h p => F7_23_to p) (F7_24_to p)
theorem F7_26_okg (F7_25 : (IV → Heap → Prop) → IV → IV → IV → IV → IV → Heap → Prop) (K : IV → Heap → Prop) (a : IAct) (h : Heap) : IC Try.prog 117 D7 c7_RRRRL (iThen (fun a h => F7_25 K (a 1) (a 5) (a 6) (a 8) (a 9) h) (finK Try.prog Try.f7.results.toList K)) a h = F7_26g F7_25 K (a 1) (a 5) (a 6) h := by kernel_rfl
theorem F7_26_ok (K : IV → Heap → Prop) (a : IAct) (h : Heap) : IC Try.prog 117 D7 c7_RRRRL (iThen (fun a h => F7_25 K (a 1) (a 5) (a 6) (a 8) (a 9) h) (finK Try.prog Try.f7.results.toList K)) a h = F7_26 K (a 1) (a 5) (a 6) h := F7_26_okg @F7_25 K a h
theorem F7_26_to {K : IV → Heap → Prop} {a : IAct} {h : Heap} (p : F7_26 K (a 1) (a 5) (a 6) h) : IC Try.prog 117 D7 c7_RRRRL (iThen (fun a h => F7_25 K (a 1) (a 5) (a 6) (a 8) (a 9) h) (finK Try.prog Try.f7.results.toList K)) a h := by rw [F7_26_ok]; exact p
theorem F7_27_to {K : IV → Heap → Prop} {a : IAct} {h : Heap} (p : F7_26 K (a 1) (a 5) (a 6) h) : IC Try.prog 117 D7 c7_RRRR (finK Try.prog Try.f7.results.toList K) a h := by
  have e : c7_RRRR = .seq c7_RRRRL c7_RRRRR := by kernel_rfl
  rw [e]; exact IC.mono c7_RRRRL (iThen_mono fun a h p => F7_25_to p) (F7_26_to p)
theorem F7_29_okg (F7_27 : (IV → Heap → Prop) → IV → IV → IV → Heap → Prop) (F7_28 : (IV → Heap → Prop) → IV → IV → IV → IV → IV → Heap → Prop) (K : IV → Heap → Prop) (a : IAct) (h : Heap) : IC Try.prog 117 D7 c7_RRRLRLLRR (iThen (fun a h => F7_28 K (a 0) (a 1) (a 5) (a 6) (a 7) h) (iBlock 0 (iThen (fun a h => F7_27 K (a 1) (a 5) (a 6) h) (finK Try.prog Try.f7.results.toList K)))) a h = F7_29g F7_27 F7_28 K (a 0) (a 1) (a 5) (a 6) (a 7) h := by kernel_rfl
theorem F7_29_ok (K : IV → Heap → Prop) (a : IAct) (h : Heap) : IC Try.prog 117 D7 c7_RRRLRLLRR (iThen (fun a h => F7_28 K (a 0) (a 1) (a 5) (a 6) (a 7) h) (iBlock 0 (iThen (fun a h => F7_27 K (a 1) (a 5) (a 6) h) (finK Try.prog Try.f7.results.toList K)))) a h = F7_29 K (a 0) (a 1) (a 5) (a 6) (a 7) h := F7_29_okg @F7_27 @F7_28 K a h
theorem F7_29_to {K : IV → Heap → Prop} {a : IAct} {h : Heap} (p : F7_29 K (a 0) (a 1) (a 5) (a 6) (a 7) h) : IC Try.prog 117 D7 c7_RRRLRLLRR (iThen (fun a h => F7_28 K (a 0) (a 1) (a 5) (a 6) (a 7) h) (iBlock 0 (iThen (fun a h => F7_27 K (a 1) (a 5) (a 6) h) (finK Try.prog Try.f7.results.toList K)))) a h := by rw [F7_29_ok]; exact p
theorem F7_30_okg (F7_27 : (IV → Heap → Prop) → IV → IV → IV → Heap → Prop) (F7_28 : (IV → Heap → Prop) → IV → IV → IV → IV → IV → Heap → Prop) (F7_29 : (IV → Heap → Prop) → IV → IV → IV → IV → IV → Heap → Prop) (K : IV → Heap → Prop) (a : IAct) (h : Heap) : IC Try.prog 117 D7 c7_RRRLRLLRL (iThen (fun a h => F7_29 K (a 0) (a 1) (a 5) (a 6) (a 7) h) (iThen (fun a h => F7_28 K (a 0) (a 1) (a 5) (a 6) (a 7) h) (iBlock 0 (iThen (fun a h => F7_27 K (a 1) (a 5) (a 6) h) (finK Try.prog Try.f7.results.toList K))))) a h = F7_30g F7_27 F7_28 F7_29 K (a 0) (a 1) (a 5) (a 6) (a 7) h := by kernel_rfl
theorem F7_30_ok (K : IV → Heap → Prop) (a : IAct) (h : Heap) : IC Try.prog 117 D7 c7_RRRLRLLRL (iThen (fun a h => F7_29 K (a 0) (a 1) (a 5) (a 6) (a 7) h) (iThen (fun a h => F7_28 K (a 0) (a 1) (a 5) (a 6) (a 7) h) (iBlock 0 (iThen (fun a h => F7_27 K (a 1) (a 5) (a 6) h) (finK Try.prog Try.f7.results.toList K))))) a h = F7_30 K (a 0) (a 1) (a 5) (a 6) (a 7) h := F7_30_okg @F7_27 @F7_28 @F7_29 K a h
theorem F7_30_to {K : IV → Heap → Prop} {a : IAct} {h : Heap} (p : F7_30 K (a 0) (a 1) (a 5) (a 6) (a 7) h) : IC Try.prog 117 D7 c7_RRRLRLLRL (iThen (fun a h => F7_29 K (a 0) (a 1) (a 5) (a 6) (a 7) h) (iThen (fun a h => F7_28 K (a 0) (a 1) (a 5) (a 6) (a 7) h) (iBlock 0 (iThen (fun a h => F7_27 K (a 1) (a 5) (a 6) h) (finK Try.prog Try.f7.results.toList K))))) a h := by rw [F7_30_ok]; exact p
theorem F7_31_to {K : IV → Heap → Prop} {a : IAct} {h : Heap} (p : F7_30 K (a 0) (a 1) (a 5) (a 6) (a 7) h) : IC Try.prog 117 D7 c7_RRRLRLLR (iThen (fun a h => F7_28 K (a 0) (a 1) (a 5) (a 6) (a 7) h) (iBlock 0 (iThen (fun a h => F7_27 K (a 1) (a 5) (a 6) h) (finK Try.prog Try.f7.results.toList K)))) a h := by
  have e : c7_RRRLRLLR = .seq c7_RRRLRLLRL c7_RRRLRLLRR := by kernel_rfl
  rw [e]; exact IC.mono c7_RRRLRLLRL (iThen_mono fun a h p => F7_29_to p) (F7_30_to p)
theorem F7_32_okg (F7_27 : (IV → Heap → Prop) → IV → IV → IV → Heap → Prop) (F7_28 : (IV → Heap → Prop) → IV → IV → IV → IV → IV → Heap → Prop) (F7_31 : (IV → Heap → Prop) → IV → IV → IV → IV → IV → Heap → Prop) (K : IV → Heap → Prop) (a : IAct) (h : Heap) : IC Try.prog 117 D7 c7_RRRLRLLL (iThen (fun a h => F7_31 K (a 0) (a 1) (a 5) (a 6) (a 7) h) (iThen (fun a h => F7_28 K (a 0) (a 1) (a 5) (a 6) (a 7) h) (iBlock 0 (iThen (fun a h => F7_27 K (a 1) (a 5) (a 6) h) (finK Try.prog Try.f7.results.toList K))))) a h = F7_32g F7_27 F7_28 F7_31 K (a 0) (a 1) (a 5) (a 6) (a 7) h := by kernel_rfl
theorem F7_32_ok (K : IV → Heap → Prop) (a : IAct) (h : Heap) : IC Try.prog 117 D7 c7_RRRLRLLL (iThen (fun a h => F7_31 K (a 0) (a 1) (a 5) (a 6) (a 7) h) (iThen (fun a h => F7_28 K (a 0) (a 1) (a 5) (a 6) (a 7) h) (iBlock 0 (iThen (fun a h => F7_27 K (a 1) (a 5) (a 6) h) (finK Try.prog Try.f7.results.toList K))))) a h = F7_32 K (a 0) (a 1) (a 5) (a 6) (a 7) h := F7_32_okg @F7_27 @F7_28 @F7_31 K a h
theorem F7_32_to {K : IV → Heap → Prop} {a : IAct} {h : Heap} (p : F7_32 K (a 0) (a 1) (a 5) (a 6) (a 7) h) : IC Try.prog 117 D7 c7_RRRLRLLL (iThen (fun a h => F7_31 K (a 0) (a 1) (a 5) (a 6) (a 7) h) (iThen (fun a h => F7_28 K (a 0) (a 1) (a 5) (a 6) (a 7) h) (iBlock 0 (iThen (fun a h => F7_27 K (a 1) (a 5) (a 6) h) (finK Try.prog Try.f7.results.toList K))))) a h := by rw [F7_32_ok]; exact p
theorem F7_33_to {K : IV → Heap → Prop} {a : IAct} {h : Heap} (p : F7_32 K (a 0) (a 1) (a 5) (a 6) (a 7) h) : IC Try.prog 117 D7 c7_RRRLRLL (iThen (fun a h => F7_28 K (a 0) (a 1) (a 5) (a 6) (a 7) h) (iBlock 0 (iThen (fun a h => F7_27 K (a 1) (a 5) (a 6) h) (finK Try.prog Try.f7.results.toList K)))) a h := by
  have e : c7_RRRLRLL = .seq c7_RRRLRLLL c7_RRRLRLLR := by kernel_rfl
  rw [e]; exact IC.mono c7_RRRLRLLL (iThen_mono fun a h p => F7_31_to p) (F7_32_to p)
theorem F7_28_to {K : IV → Heap → Prop} {a : IAct} {h : Heap} (p : F7_28 K (a 0) (a 1) (a 5) (a 6) (a 7) h) : IC Try.prog 117 D7 c7_RRRLRL (iBlock 0 (iThen (fun a h => F7_27 K (a 1) (a 5) (a 6) h) (finK Try.prog Try.f7.results.toList K))) a h := by
  have e : c7_RRRLRL = .loop c7_RRRLRLL := by kernel_rfl
  rw [e]; exact p a rfl rfl rfl rfl rfl
theorem F7_28_round {K : IV → Heap → Prop} {x0 x1 x5 x6 x7 : IV} {h : Heap} (p : F7_33 K x0 x1 x5 x6 x7 h) : F7_28 K x0 x1 x5 x6 x7 h := by
  intro a e0 e1 e5 e6 e7
  subst e0; subst e1; subst e5; subst e6; subst e7; exact ILoop.round Try.mixed (D := D7) chk7_RRRLRL (L := fun a h => F7_28 K (a 0) (a 1) (a 5) (a 6) (a 7) h) (fun a h p => p a rfl rfl rfl rfl rfl) (F7_33_to p)
theorem F7_34_to {K : IV → Heap → Prop} {a : IAct} {h : Heap} (p : F7_28 K (a 0) (a 1) (a 5) (a 6) (a 7) h) : IC Try.prog 117 D7 c7_RRRLR (iThen (fun a h => F7_27 K (a 1) (a 5) (a 6) h) (finK Try.prog Try.f7.results.toList K)) a h := by
  have e : c7_RRRLR = .block 0 c7_RRRLRL := by kernel_rfl
  rw [e]; exact F7_28_to p
theorem F7_35_okg (F7_27 : (IV → Heap → Prop) → IV → IV → IV → Heap → Prop) (F7_34 : (IV → Heap → Prop) → IV → IV → IV → IV → IV → Heap → Prop) (K : IV → Heap → Prop) (a : IAct) (h : Heap) : IC Try.prog 117 D7 c7_RRRLL (iThen (fun a h => F7_34 K (a 0) (a 1) (a 5) (a 6) (a 7) h) (iThen (fun a h => F7_27 K (a 1) (a 5) (a 6) h) (finK Try.prog Try.f7.results.toList K))) a h = F7_35g F7_27 F7_34 K (a 0) (a 1) (a 5) (a 6) h := by kernel_rfl
theorem F7_35_ok (K : IV → Heap → Prop) (a : IAct) (h : Heap) : IC Try.prog 117 D7 c7_RRRLL (iThen (fun a h => F7_34 K (a 0) (a 1) (a 5) (a 6) (a 7) h) (iThen (fun a h => F7_27 K (a 1) (a 5) (a 6) h) (finK Try.prog Try.f7.results.toList K))) a h = F7_35 K (a 0) (a 1) (a 5) (a 6) h := F7_35_okg @F7_27 @F7_34 K a h
theorem F7_35_to {K : IV → Heap → Prop} {a : IAct} {h : Heap} (p : F7_35 K (a 0) (a 1) (a 5) (a 6) h) : IC Try.prog 117 D7 c7_RRRLL (iThen (fun a h => F7_34 K (a 0) (a 1) (a 5) (a 6) (a 7) h) (iThen (fun a h => F7_27 K (a 1) (a 5) (a 6) h) (finK Try.prog Try.f7.results.toList K))) a h := by rw [F7_35_ok]; exact p
theorem F7_36_to {K : IV → Heap → Prop} {a : IAct} {h : Heap} (p : F7_35 K (a 0) (a 1) (a 5) (a 6) h) : IC Try.prog 117 D7 c7_RRRL (iThen (fun a h => F7_27 K (a 1) (a 5) (a 6) h) (finK Try.prog Try.f7.results.toList K)) a h := by
  have e : c7_RRRL = .seq c7_RRRLL c7_RRRLR := by kernel_rfl
  rw [e]; exact IC.mono c7_RRRLL (iThen_mono fun a h p => F7_34_to p) (F7_35_to p)
theorem F7_37_to {K : IV → Heap → Prop} {a : IAct} {h : Heap} (p : F7_36 K (a 0) (a 1) (a 5) (a 6) h) : IC Try.prog 117 D7 c7_RRR (finK Try.prog Try.f7.results.toList K) a h := by
  have e : c7_RRR = .seq c7_RRRL c7_RRRR := by kernel_rfl
  rw [e]; exact IC.mono c7_RRRL (iThen_mono fun a h p => F7_27_to p) (F7_36_to p)
theorem F7_38_okg (F7_37 : (IV → Heap → Prop) → IV → IV → IV → IV → Heap → Prop) (K : IV → Heap → Prop) (a : IAct) (h : Heap) : IC Try.prog 117 D7 c7_RRL (iThen (fun a h => F7_37 K (a 0) (a 1) (a 5) (a 6) h) (finK Try.prog Try.f7.results.toList K)) a h = F7_38g F7_37 K (a 0) (a 1) (a 5) (a 6) h := by kernel_rfl
theorem F7_38_ok (K : IV → Heap → Prop) (a : IAct) (h : Heap) : IC Try.prog 117 D7 c7_RRL (iThen (fun a h => F7_37 K (a 0) (a 1) (a 5) (a 6) h) (finK Try.prog Try.f7.results.toList K)) a h = F7_38 K (a 0) (a 1) (a 5) (a 6) h := F7_38_okg @F7_37 K a h
theorem F7_38_to {K : IV → Heap → Prop} {a : IAct} {h : Heap} (p : F7_38 K (a 0) (a 1) (a 5) (a 6) h) : IC Try.prog 117 D7 c7_RRL (iThen (fun a h => F7_37 K (a 0) (a 1) (a 5) (a 6) h) (finK Try.prog Try.f7.results.toList K)) a h := by rw [F7_38_ok]; exact p
theorem F7_39_to {K : IV → Heap → Prop} {a : IAct} {h : Heap} (p : F7_38 K (a 0) (a 1) (a 5) (a 6) h) : IC Try.prog 117 D7 c7_RR (finK Try.prog Try.f7.results.toList K) a h := by
  have e : c7_RR = .seq c7_RRL c7_RRR := by kernel_rfl
  rw [e]; exact IC.mono c7_RRL (iThen_mono fun a h p => F7_37_to p) (F7_38_to p)
theorem F7_40_okg (F7_39 : (IV → Heap → Prop) → IV → IV → IV → IV → Heap → Prop) (K : IV → Heap → Prop) (a : IAct) (h : Heap) : IC Try.prog 117 D7 c7_RL (iThen (fun a h => F7_39 K (a 0) (a 1) (a 5) (a 6) h) (finK Try.prog Try.f7.results.toList K)) a h = F7_40g F7_39 K (a 0) (a 1) h := by kernel_rfl
theorem F7_40_ok (K : IV → Heap → Prop) (a : IAct) (h : Heap) : IC Try.prog 117 D7 c7_RL (iThen (fun a h => F7_39 K (a 0) (a 1) (a 5) (a 6) h) (finK Try.prog Try.f7.results.toList K)) a h = F7_40 K (a 0) (a 1) h := F7_40_okg @F7_39 K a h
theorem F7_40_to {K : IV → Heap → Prop} {a : IAct} {h : Heap} (p : F7_40 K (a 0) (a 1) h) : IC Try.prog 117 D7 c7_RL (iThen (fun a h => F7_39 K (a 0) (a 1) (a 5) (a 6) h) (finK Try.prog Try.f7.results.toList K)) a h := by rw [F7_40_ok]; exact p
theorem F7_41_to {K : IV → Heap → Prop} {a : IAct} {h : Heap} (p : F7_40 K (a 0) (a 1) h) : IC Try.prog 117 D7 c7_R (finK Try.prog Try.f7.results.toList K) a h := by
  have e : c7_R = .seq c7_RL c7_RR := by kernel_rfl
  rw [e]; exact IC.mono c7_RL (iThen_mono fun a h p => F7_39_to p) (F7_40_to p)
theorem F7_42_okg (F7_41 : (IV → Heap → Prop) → IV → IV → Heap → Prop) (K : IV → Heap → Prop) (a : IAct) (h : Heap) : IC Try.prog 117 D7 c7_L (iThen (fun a h => F7_41 K (a 0) (a 1) h) (finK Try.prog Try.f7.results.toList K)) a h = F7_42g F7_41 K (a 0) (a 1) h := by kernel_rfl
theorem F7_42_ok (K : IV → Heap → Prop) (a : IAct) (h : Heap) : IC Try.prog 117 D7 c7_L (iThen (fun a h => F7_41 K (a 0) (a 1) h) (finK Try.prog Try.f7.results.toList K)) a h = F7_42 K (a 0) (a 1) h := F7_42_okg @F7_41 K a h
theorem F7_42_to {K : IV → Heap → Prop} {a : IAct} {h : Heap} (p : F7_42 K (a 0) (a 1) h) : IC Try.prog 117 D7 c7_L (iThen (fun a h => F7_41 K (a 0) (a 1) h) (finK Try.prog Try.f7.results.toList K)) a h := by rw [F7_42_ok]; exact p
theorem F7_43_to {K : IV → Heap → Prop} {a : IAct} {h : Heap} (p : F7_42 K (a 0) (a 1) h) : IC Try.prog 117 D7 c7 (finK Try.prog Try.f7.results.toList K) a h := by
  have e : c7 = .seq c7_L c7_R := by kernel_rfl
  rw [e]; exact IC.mono c7_L (iThen_mono fun a h p => F7_41_to p) (F7_42_to p)
theorem F7 {K : IV → Heap → Prop} {x0 x1 : IV} {h : Heap} (p : F7_43 K x0 x1 h) : CallsI Try.prog 7 [x0, x1] h K :=
  CallsI.ofIC Try.mixed Try.func7 rfl (Nat.le_of_ble_eq_true rfl) chk7 (F7_43_to (a := actI [x0, x1]) p)

/-! ### function 8: cellplane/disk.New -/
def D8 : Nat → DI
  | _ => ⟨[], [], []⟩
noncomputable def c8 : Code := bodyC Try.f8
noncomputable def F8_1 (K : IV → Heap → Prop) (h : Heap) : Prop :=
  oD (buildV Try.prog 47 []) h fun t1_2 =>
  oA (boxI 47 t1_2 h) h fun t2_3 h4 =>
  retK Try.prog [.v t2_3] h4 K
theorem chk8 : chkC Try.prog 3 D8 c8 = true := by kernel_rfl
theorem F8_1_ok (K : IV → Heap → Prop) (a : IAct) (h : Heap) : IC Try.prog 3 D8 c8 (finK Try.prog Try.f8.results.toList K) a h = F8_1 K h := by kernel_rfl
theorem F8_1_to {K : IV → Heap → Prop} {a : IAct} {h : Heap} (p : F8_1 K h) : IC Try.prog 3 D8 c8 (finK Try.prog Try.f8.results.toList K) a h := by rw [F8_1_ok]; exact p
theorem F8 {K : IV → Heap → Prop} {h : Heap} (p : F8_1 K h) : CallsI Try.prog 8 [] h K :=
  CallsI.ofIC Try.mixed Try.func8 rfl (Nat.le_of_ble_eq_true rfl) chk8 (F8_1_to (a := actI []) p)

/-! ### function 9: cellplane/cellplanelaw07.awake -/
def D9 : Nat → DI
  | _ => ⟨[], [], []⟩
noncomputable def c9 : Code := bodyC Try.f9
noncomputable def c9_R : Code := cR c9
noncomputable def c9_RR : Code := cR c9_R
noncomputable def c9_RRR : Code := cR c9_RR
noncomputable def F9_1 (K : IV → Heap → Prop) (x1 : IV) (h : Heap) : Prop :=
  oA (buildSliceV Try.prog 22 1 [(0, .int .u8 1)] h) h fun t6_2 h3 =>
  CallsI Try.prog 10 [x1, t6_2] h3 fun t7_4 h5 =>
  CallsI Try.prog 11 [x1] h5 fun t9_7 h8 =>
  oA (buildSliceV Try.prog 22 2 [(0, .int .u8 2), (1, .int .u8 3)] h8) h8 fun t11_10 h11 =>
  CallsI Try.prog 10 [x1, t11_10] h11 fun t12_12 h13 =>
  CallsI Try.prog 12 [x1, .int .i64 1] h13 fun t14_15 h16 =>
  CallsI Try.prog 13 [x1] h16 fun t16_18 h19 =>
  oA (buildSliceV Try.prog 22 2 [(0, .int .u8 1), (1, .int .u8 2)] h19) h19 fun t17_20 h21 =>
  CallsI Try.prog 15 [t16_18, t17_20] h21 fun t18_22 h23 =>
  oG (gW t18_22 true) (some x1) h23 fun t20_25 =>
  callS Try.prog (gW t18_22 true) 14 [t20_25] h23 fun t21_26 h27 =>
  oG (gW t18_22 true) (binI Try.prog .eql 3 t21_26 (.int .i64 2)) h27 fun t22_28 =>
  oP (some true) (pickI t18_22 t22_28 (.bool false) h27) h27 fun t23_29 =>
  retK Try.prog [.v t23_29] h27 K
noncomputable def c9_RRL : Code := cL c9_RR
noncomputable def F9_2g (F9_1 : (IV → Heap → Prop) → IV → Heap → Prop) (K : IV → Heap → Prop) (x1 : IV) (h : Heap) : Prop :=
  oD (binI Try.prog .eql 23 x1 (.nil)) h fun t4_32 =>
  bK' t4_32
    (retK Try.prog [.v (.bool false)] h K)
    (F9_1 K x1 h)
noncomputable def F9_2 (K : IV → Heap → Prop) (x1 : IV) (h : Heap) : Prop := F9_2g @F9_1 K x1 h
noncomputable abbrev F9_3 := @F9_2
noncomputable def c9_RL : Code := cL c9_R
noncomputable def F9_4g (F9_3 : (IV → Heap → Prop) → IV → Heap → Prop) (K : IV → Heap → Prop) (h : Heap) : Prop :=
  CallsI Try.prog 8 [] h fun t2_34 h35 =>
  F9_3 K t2_34 h35
noncomputable def F9_4 (K : IV → Heap → Prop) (h : Heap) : Prop := F9_4g @F9_3 K h
noncomputable abbrev F9_5 := @F9_4
noncomputable def c9_L : Code := cL c9
noncomputable def F9_6g (F9_5 : (IV → Heap → Prop) → Heap → Prop) (K : IV → Heap → Prop) (h : Heap) : Prop :=
  F9_5 K h
noncomputable def F9_6 (K : IV → Heap → Prop) (h : Heap) : Prop := F9_6g @F9_5 K h
noncomputable abbrev F9_7 := @F9_6
theorem chk9 : chkC Try.prog 24 D9 c9 = true := by kernel_rfl
theorem F9_1_ok (K : IV → Heap → Prop) (a : IAct) (h : Heap) : IC Try.prog 24 D9 c9_RRR (finK Try.prog Try.f9.results.toList K) a h = F9_1 K (a 1) h := by kernel_rfl
theorem F9_1_to {K : IV → Heap → Prop} {a : IAct} {h : Heap} (p : F9_1 K (a 1) h) : IC Try.prog 24 D9 c9_RRR (finK Try.prog Try.f9.results.toList K) a h := by rw [F9_1_ok]; exact p
theorem F9_2_okg (F9_1 : (IV → Heap → Prop) → IV → Heap → Prop) (K : IV → Heap → Prop) (a : IAct) (h : Heap) : IC Try.prog 24 D9 c9_RRL (iThen (fun a h => F9_1 K (a 1) h) (finK Try.prog Try.f9.results.toList K)) a h = F9_2g F9_1 K (a 1) h := by kernel_rfl
theorem F9_2_ok (K : IV → Heap → Prop) (a : IAct) (h : Heap) : IC Try.prog 24 D9 c9_RRL (iThen (fun a h => F9_1 K (a 1) h) (finK Try.prog Try.f9.results.toList K)) a h = F9_2 K (a 1) h := F9_2_okg @F9_1 K a h
theorem F9_2_to {K : IV → Heap → Prop} {a : IAct} {h : Heap} (p : F9_2 K (a 1) h) : IC Try.prog 24 D9 c9_RRL (iThen (fun a h => F9_1 K (a 1) h) (finK Try.prog Try.f9.results.toList K)) a h := by rw [F9_2_ok]; exact p
theorem F9_3_to {K : IV → Heap → Prop} {a : IAct} {h : Heap} (p : F9_2 K (a 1) h) : IC Try.prog 24 D9 c9_RR (finK Try.prog Try.f9.results.toList K) a h := by
  have e : c9_RR = .seq c9_RRL c9_RRR := by kernel_rfl
  rw [e]; exact IC.mono c9_RRL (iThen_mono fun a h p => F9_1_to p) (F9_2_to p)
theorem F9_4_okg (F9_3 : (IV → Heap → Prop) → IV → Heap → Prop) (K : IV → Heap → Prop) (a : IAct) (h : Heap) : IC Try.prog 24 D9 c9_RL (iThen (fun a h => F9_3 K (a 1) h) (finK Try.prog Try.f9.results.toList K)) a h = F9_4g F9_3 K h := by kernel_rfl
theorem F9_4_ok (K : IV → Heap → Prop) (a : IAct) (h : Heap) : IC Try.prog 24 D9 c9_RL (iThen (fun a h => F9_3 K (a 1) h) (finK Try.prog Try.f9.results.toList K)) a h = F9_4 K h := F9_4_okg @F9_3 K a h
theorem F9_4_to {K : IV → Heap → Prop} {a : IAct} {h : Heap} (p : F9_4 K h) : IC Try.prog 24 D9 c9_RL (iThen (fun a h => F9_3 K (a 1) h) (finK Try.prog Try.f9.results.toList K)) a h := by rw [F9_4_ok]; exact p
theorem F9_5_to {K : IV → Heap → Prop} {a : IAct} {h : Heap} (p : F9_4 K h) : IC Try.prog 24 D9 c9_R (finK Try.prog Try.f9.results.toList K) a h := by
  have e : c9_R = .seq c9_RL c9_RR := by kernel_rfl
  rw [e]; exact IC.mono c9_RL (iThen_mono fun a h p => F9_3_to p) (F9_4_to p)
theorem F9_6_okg (F9_5 : (IV → Heap → Prop) → Heap → Prop) (K : IV → Heap → Prop) (a : IAct) (h : Heap) : IC Try.prog 24 D9 c9_L (iThen (fun a h => F9_5 K h) (finK Try.prog Try.f9.results.toList K)) a h = F9_6g F9_5 K h := by kernel_rfl
theorem F9_6_ok (K : IV → Heap → Prop) (a : IAct) (h : Heap) : IC Try.prog 24 D9 c9_L (iThen (fun a h => F9_5 K h) (finK Try.prog Try.f9.results.toList K)) a h = F9_6 K h := F9_6_okg @F9_5 K a h
theorem F9_6_to {K : IV → Heap → Prop} {a : IAct} {h : Heap} (p : F9_6 K h) : IC Try.prog 24 D9 c9_L (iThen (fun a h => F9_5 K h) (finK Try.prog Try.f9.results.toList K)) a h := by rw [F9_6_ok]; exact p
theorem F9_7_to {K : IV → Heap → Prop} {a : IAct} {h : Heap} (p : F9_6 K h) : IC Try.prog 24 D9 c9 (finK Try.prog Try.f9.results.toList K) a h := by
  have e : c9 = .seq c9_L c9_R := by kernel_rfl
  rw [e]; exact IC.mono c9_L (iThen_mono fun a h p => F9_5_to p) (F9_6_to p)
theorem F9 {K : IV → Heap → Prop} {h : Heap} (p : F9_7 K h) : CallsI Try.prog 9 [] h K :=
  CallsI.ofIC Try.mixed Try.func9 rfl (Nat.le_of_ble_eq_true rfl) chk9 (F9_7_to (a := actI []) p)

/-! ### function 10: (*cellplane/disk.Disk).Append -/
def D10 : Nat → DI
  | _ => ⟨[], [], []⟩
noncomputable def c10 : Code := bodyC Try.f10
noncomputable def F10_1 (K : IV → Heap → Prop) (x0 x1 : IV) (h : Heap) : Prop :=
  oP (some true) (nilI x0 h) h fun t6_3 =>
  oD (fieldAddrI Try.prog 47 t6_3 0) h fun t7_4 =>
  oD (loadI Try.prog 22 t7_4 h) h fun t8_5 =>
  oA (appendI Try.prog 22 22 t8_5 x1 h) h fun t10_7 h8 =>
  oP (some true) (nilI x0 h8) h8 fun t11_9 =>
  oD (fieldAddrI Try.prog 47 t11_9 0) h8 fun t12_10 =>
  oS (storeI Try.prog 22 t12_10 t10_7 h8) h8 fun h12 =>
  retK Try.prog [] h12 K
theorem chk10 : chkC Try.prog 13 D10 c10 = true := by kernel_rfl
theorem F10_1_ok (K : IV → Heap → Prop) (a : IAct) (h : Heap) : IC Try.prog 13 D10 c10 (finK Try.prog Try.f10.results.toList K) a h = F10_1 K (a 0) (a 1) h := by kernel_rfl
theorem F10_1_to {K : IV → Heap → Prop} {a : IAct} {h : Heap} (p : F10_1 K (a 0) (a 1) h) : IC Try.prog 13 D10 c10 (finK Try.prog Try.f10.results.toList K) a h := by rw [F10_1_ok]; exact p
theorem F10 {K : IV → Heap → Prop} {x0 x1 : IV} {h : Heap} (p : F10_1 K x0 x1 h) : CallsI Try.prog 10 [x0, x1] h K :=
  CallsI.ofIC Try.mixed Try.func10 rfl (Nat.le_of_ble_eq_true rfl) chk10 (F10_1_to (a := actI [x0, x1]) p)

/-! ### function 11: (*cellplane/disk.Disk).Sync -/
def D11 : Nat → DI
  | _ => ⟨[], [], []⟩
noncomputable def c11 : Code := bodyC Try.f11
noncomputable def F11_1 (K : IV → Heap → Prop) (x0 : IV) (h : Heap) : Prop :=
  oP (some true) (nilI x0 h) h fun t4_3 =>
  oD (fieldAddrI Try.prog 47 t4_3 0) h fun t5_4 =>
  oD (loadI Try.prog 22 t5_4 h) h fun t6_5 =>
  oD (lenI Try.prog 22 t6_5) h fun t7_6 =>
  oP (some true) (nilI x0 h) h fun t8_7 =>
  oD (fieldAddrI Try.prog 47 t8_7 1) h fun t9_8 =>
  oS (storeI Try.prog 3 t9_8 t7_6 h) h fun h10 =>
  retK Try.prog [] h10 K
theorem chk11 : chkC Try.prog 10 D11 c11 = true := by kernel_rfl
theorem F11_1_ok (K : IV → Heap → Prop) (a : IAct) (h : Heap) : IC Try.prog 10 D11 c11 (finK Try.prog Try.f11.results.toList K) a h = F11_1 K (a 0) h := by kernel_rfl
theorem F11_1_to {K : IV → Heap → Prop} {a : IAct} {h : Heap} (p : F11_1 K (a 0) h) : IC Try.prog 10 D11 c11 (finK Try.prog Try.f11.results.toList K) a h := by rw [F11_1_ok]; exact p
theorem F11 {K : IV → Heap → Prop} {x0 : IV} {h : Heap} (p : F11_1 K x0 h) : CallsI Try.prog 11 [x0] h K :=
  CallsI.ofIC Try.mixed Try.func11 rfl (Nat.le_of_ble_eq_true rfl) chk11 (F11_1_to (a := actI [x0]) p)

/-! ### function 12: (*cellplane/disk.Disk).Crash -/
def D12 : Nat → DI
  | 0 => ⟨[0, 1, 3, 7, 15, 0, 32, 96, 224, 511, 1023], [0, 1, 2, 3, 4, 5, 6, 7, 8, 9, 10], []⟩
  | 1 => ⟨[0, 0, 2, 6, 14, 0, 32, 96, 224, 0, 0, 1536, 3584, 8160, 16382, 32767, 65535, 131071], [0, 1, 2, 3, 4, 5, 6, 7, 8, 9, 10, 11, 12, 13, 14, 15, 16, 17], []⟩
  | _ => ⟨[], [], []⟩
noncomputable def c12 : Code := bodyC Try.f12
noncomputable def c12_R : Code := cR c12
noncomputable def c12_RR : Code := cR c12_R
noncomputable def F12_1 (K : IV → Heap → Prop) (x0 : IV) (h : Heap) : Prop :=
  oP (some true) (nilI x0 h) h fun t34_3 =>
  oD (fieldAddrI Try.prog 47 t34_3 0) h fun t35_4 =>
  oD (loadI Try.prog 22 t35_4 h) h fun t36_5 =>
  oD (lenI Try.prog 22 t36_5) h fun t37_6 =>
  oP (some true) (nilI x0 h) h fun t38_7 =>
  oD (fieldAddrI Try.prog 47 t38_7 1) h fun t39_8 =>
  oS (storeI Try.prog 3 t39_8 t37_6 h) h fun h10 =>
  retK Try.prog [] h10 K
noncomputable def c12_RL : Code := cL c12_R
noncomputable def F12_2g (F12_1 : (IV → Heap → Prop) → IV → Heap → Prop) (K : IV → Heap → Prop) (x0 x1 x4 : IV) (h : Heap) : Prop :=
  oP (some true) (nilI x0 h) h fun t17_13 =>
  oD (fieldAddrI Try.prog 47 t17_13 0) h fun t18_14 =>
  oD (loadI Try.prog 22 t18_14 h) h fun t19_15 =>
  oP (some true) (nilI x0 h) h fun t21_17 =>
  oD (fieldAddrI Try.prog 47 t21_17 1) h fun t22_18 =>
  oD (loadI Try.prog 3 t22_18 h) h fun t23_19 =>
  oD (mmI false x1 [x4]) h fun t26_22 =>
  oD (mmI true (.int .i64 0) [t26_22]) h fun t27_23 =>
  oD (binI Try.prog .add 3 t23_19 t27_23) h fun t28_24 =>
  oD (sliceI Try.prog 22 t19_15 none (some t28_24) h) h fun t29_25 =>
  oP (some true) (nilI x0 h) h fun t30_26 =>
  oD (fieldAddrI Try.prog 47 t30_26 0) h fun t31_27 =>
  oS (storeI Try.prog 22 t31_27 t29_25 h) h fun h29 => (True) ∧
  F12_1 K x0 h29
noncomputable def F12_2 (K : IV → Heap → Prop) (x0 x1 x4 : IV) (h : Heap) : Prop := F12_2g @F12_1 K x0 x1 x4 h
noncomputable abbrev F12_3 := @F12_2
noncomputable def c12_L : Code := cL c12
noncomputable def F12_4g (F12_3 : (IV → Heap → Prop) → IV → IV → IV → Heap → Prop) (K : IV → Heap → Prop) (x0 x1 : IV) (h : Heap) : Prop :=
  oP (some true) (nilI x0 h) h fun t6_31 =>
  oD (fieldAddrI Try.prog 47 t6_31 0) h fun t7_32 =>
  oD (loadI Try.prog 22 t7_32 h) h fun t8_33 =>
  oD (lenI Try.prog 22 t8_33) h fun t9_34 =>
  oP (some true) (nilI x0 h) h fun t11_36 =>
  oD (fieldAddrI Try.prog 47 t11_36 1) h fun t12_37 =>
  oD (loadI Try.prog 3 t12_37 h) h fun t13_38 =>
  oD (binI Try.prog .sub 3 t9_34 t13_38) h fun t14_39 =>
  F12_3 K x0 x1 t14_39 h
noncomputable def F12_4 (K : IV → Heap → Prop) (x0 x1 : IV) (h : Heap) : Prop := F12_4g @F12_3 K x0 x1 h
noncomputable abbrev F12_5 := @F12_4
theorem chk12 : chkC Try.prog 40 D12 c12 = true := by kernel_rfl
theorem F12_1_ok (K : IV → Heap → Prop) (a : IAct) (h : Heap) : IC Try.prog 40 D12 c12_RR (finK Try.prog Try.f12.results.toList K) a h = F12_1 K (a 0) h := by kernel_rfl
theorem F12_1_to {K : IV → Heap → Prop} {a : IAct} {h : Heap} (p : F12_1 K (a 0) h) : IC Try.prog 40 D12 c12_RR (finK Try.prog Try.f12.results.toList K) a h := by rw [F12_1_ok]; exact p
theorem F12_2_okg (F12_1 : (IV → Heap → Prop) → IV → Heap → Prop) (K : IV → Heap → Prop) (a : IAct) (h : Heap) : IC Try.prog 40 D12 c12_RL (iThen (fun a h => F12_1 K (a 0) h) (finK Try.prog Try.f12.results.toList K)) a h = F12_2g F12_1 K (a 0) (a 1) (a 4) h := by kernel_rfl
theorem F12_2_ok (K : IV → Heap → Prop) (a : IAct) (h : Heap) : IC Try.prog 40 D12 c12_RL (iThen (fun a h => F12_1 K (a 0) h) (finK Try.prog Try.f12.results.toList K)) a h = F12_2 K (a 0) (a 1) (a 4) h := F12_2_okg @F12_1 K a h
theorem F12_2_to {K : IV → Heap → Prop} {a : IAct} {h : Heap} (p : F12_2 K (a 0) (a 1) (a 4) h) : IC Try.prog 40 D12 c12_RL (iThen (fun a h => F12_1 K (a 0) h) (finK Try.prog Try.f12.results.toList K)) a h := by rw [F12_2_ok]; exact p
theorem F12_3_to {K : IV → Heap → Prop} {a : IAct} {h : Heap} (p : F12_2 K (a 0) (a 1) (a 4) h) : IC Try.prog 40 D12 c12_R (finK Try.prog Try.f12.results.toList K) a h := by
  have e : c12_R = .seq c12_RL c12_RR := by kernel_rfl
  rw [e]; exact IC.mono c12_RL (iThen_mono fun a h p => F12_1_to p) (F12_2_to p)
theorem F12_4_okg (F12_3 : (IV → Heap → Prop) → IV → IV → IV → Heap → Prop) (K : IV → Heap → Prop) (a : IAct) (h : Heap) : IC Try.prog 40 D12 c12_L (iThen (fun a h => F12_3 K (a 0) (a 1) (a 4) h) (finK Try.prog Try.f12.results.toList K)) a h = F12_4g F12_3 K (a 0) (a 1) h := by kernel_rfl
theorem F12_4_ok (K : IV → Heap → Prop) (a : IAct) (h : Heap) : IC Try.prog 40 D12 c12_L (iThen (fun a h => F12_3 K (a 0) (a 1) (a 4) h) (finK Try.prog Try.f12.results.toList K)) a h = F12_4 K (a 0) (a 1) h := F12_4_okg @F12_3 K a h
theorem F12_4_to {K : IV → Heap → Prop} {a : IAct} {h : Heap} (p : F12_4 K (a 0) (a 1) h) : IC Try.prog 40 D12 c12_L (iThen (fun a h => F12_3 K (a 0) (a 1) (a 4) h) (finK Try.prog Try.f12.results.toList K)) a h := by rw [F12_4_ok]; exact p
theorem F12_5_to {K : IV → Heap → Prop} {a : IAct} {h : Heap} (p : F12_4 K (a 0) (a 1) h) : IC Try.prog 40 D12 c12 (finK Try.prog Try.f12.results.toList K) a h := by
  have e : c12 = .seq c12_L c12_R := by kernel_rfl
  rw [e]; exact IC.mono c12_L (iThen_mono fun a h p => F12_3_to p) (F12_4_to p)
theorem F12 {K : IV → Heap → Prop} {x0 x1 : IV} {h : Heap} (p : F12_5 K x0 x1 h) : CallsI Try.prog 12 [x0, x1] h K :=
  CallsI.ofIC Try.mixed Try.func12 rfl (Nat.le_of_ble_eq_true rfl) chk12 (F12_5_to (a := actI [x0, x1]) p)

/-! ### function 13: (*cellplane/disk.Disk).Bytes -/
def D13 : Nat → DI
  | 1 => ⟨[0, 1, 3, 7, 0, 16, 48, 112, 240, 511, 1023, 2047], [0, 1, 2, 3, 4, 5, 6, 7, 8, 9, 10, 11], []⟩
  | _ => ⟨[], [], []⟩
noncomputable def c13 : Code := bodyC Try.f13
noncomputable def F13_1 (K : IV → Heap → Prop) (x0 : IV) (h : Heap) : Prop :=
  oP (some true) (nilI x0 h) h fun t4_3 =>
  oD (fieldAddrI Try.prog 47 t4_3 0) h fun t5_4 =>
  oD (loadI Try.prog 22 t5_4 h) h fun t6_5 =>
  oP (some true) (nilI x0 h) h fun t8_7 =>
  oD (fieldAddrI Try.prog 47 t8_7 0) h fun t9_8 =>
  oD (loadI Try.prog 22 t9_8 h) h fun t10_9 =>
  oD (lenI Try.prog 22 t10_9) h fun t11_10 =>
  oD (sliceI Try.prog 22 t6_5 none (some t11_10) h) h fun t12_11 =>
  oA (appendI Try.prog 22 22 (.snil) t12_11 h) h fun t13_12 h13 => (True) ∧
  retK Try.prog [.v t13_12] h13 K
theorem chk13 : chkC Try.prog 14 D13 c13 = true := by kernel_rfl
theorem F13_1_ok (K : IV → Heap → Prop) (a : IAct) (h : Heap) : IC Try.prog 14 D13 c13 (finK Try.prog Try.f13.results.toList K) a h = F13_1 K (a 0) h := by kernel_rfl
theorem F13_1_to {K : IV → Heap → Prop} {a : IAct} {h : Heap} (p : F13_1 K (a 0) h) : IC Try.prog 14 D13 c13 (finK Try.prog Try.f13.results.toList K) a h := by rw [F13_1_ok]; exact p
theorem F13 {K : IV → Heap → Prop} {x0 : IV} {h : Heap} (p : F13_1 K x0 h) : CallsI Try.prog 13 [x0] h K :=
  CallsI.ofIC Try.mixed Try.func13 rfl (Nat.le_of_ble_eq_true rfl) chk13 (F13_1_to (a := actI [x0]) p)

/-! ### function 14: (*cellplane/disk.Disk).Durable -/
def D14 : Nat → DI
  | _ => ⟨[], [], []⟩
noncomputable def c14 : Code := bodyC Try.f14
noncomputable def F14_1 (K : IV → Heap → Prop) (x0 : IV) (h : Heap) : Prop :=
  oP (some true) (nilI x0 h) h fun t4_3 =>
  oD (fieldAddrI Try.prog 47 t4_3 1) h fun t5_4 =>
  oD (loadI Try.prog 3 t5_4 h) h fun t6_5 =>
  retK Try.prog [.v t6_5] h K
theorem chk14 : chkC Try.prog 7 D14 c14 = true := by kernel_rfl
theorem F14_1_ok (K : IV → Heap → Prop) (a : IAct) (h : Heap) : IC Try.prog 7 D14 c14 (finK Try.prog Try.f14.results.toList K) a h = F14_1 K (a 0) h := by kernel_rfl
theorem F14_1_to {K : IV → Heap → Prop} {a : IAct} {h : Heap} (p : F14_1 K (a 0) h) : IC Try.prog 7 D14 c14 (finK Try.prog Try.f14.results.toList K) a h := by rw [F14_1_ok]; exact p
theorem F14 {K : IV → Heap → Prop} {x0 : IV} {h : Heap} (p : F14_1 K x0 h) : CallsI Try.prog 14 [x0] h K :=
  CallsI.ofIC Try.mixed Try.func14 rfl (Nat.le_of_ble_eq_true rfl) chk14 (F14_1_to (a := actI [x0]) p)

/-! ### function 15: cellplane/cellplaneref01.SameBytes -/
def D15 : Nat → DI
  | _ => ⟨[], [], []⟩
noncomputable def c15 : Code := bodyC Try.f15
noncomputable def F15_1 (K : IV → Heap → Prop) (x0 x1 : IV) (h : Heap) : Prop :=
  oD (convI Try.prog 22 9 x0 h) h fun t6_3 =>
  oD (convI Try.prog 22 9 x1 h) h fun t8_5 =>
  oD (binI Try.prog .eql 9 t6_3 t8_5) h fun t9_6 =>
  retK Try.prog [.v t9_6] h K
theorem chk15 : chkC Try.prog 10 D15 c15 = true := by kernel_rfl
theorem F15_1_ok (K : IV → Heap → Prop) (a : IAct) (h : Heap) : IC Try.prog 10 D15 c15 (finK Try.prog Try.f15.results.toList K) a h = F15_1 K (a 0) (a 1) h := by kernel_rfl
theorem F15_1_to {K : IV → Heap → Prop} {a : IAct} {h : Heap} (p : F15_1 K (a 0) (a 1) h) : IC Try.prog 10 D15 c15 (finK Try.prog Try.f15.results.toList K) a h := by rw [F15_1_ok]; exact p
theorem F15 {K : IV → Heap → Prop} {x0 x1 : IV} {h : Heap} (p : F15_1 K x0 x1 h) : CallsI Try.prog 15 [x0, x1] h K :=
  CallsI.ofIC Try.mixed Try.func15 rfl (Nat.le_of_ble_eq_true rfl) chk15 (F15_1_to (a := actI [x0, x1]) p)

/-! ### function 16: cellplane/cellplaneref07.New -/
def D16 : Nat → DI
  | _ => ⟨[], [], []⟩
noncomputable def c16 : Code := bodyC Try.f16
noncomputable def F16_1 (K : IV → Heap → Prop) (h : Heap) : Prop :=
  oD (buildV Try.prog 44 []) h fun t1_2 =>
  oA (boxI 44 t1_2 h) h fun t2_3 h4 =>
  retK Try.prog [.v t2_3] h4 K
theorem chk16 : chkC Try.prog 3 D16 c16 = true := by kernel_rfl
theorem F16_1_ok (K : IV → Heap → Prop) (a : IAct) (h : Heap) : IC Try.prog 3 D16 c16 (finK Try.prog Try.f16.results.toList K) a h = F16_1 K h := by kernel_rfl
theorem F16_1_to {K : IV → Heap → Prop} {a : IAct} {h : Heap} (p : F16_1 K h) : IC Try.prog 3 D16 c16 (finK Try.prog Try.f16.results.toList K) a h := by rw [F16_1_ok]; exact p
theorem F16 {K : IV → Heap → Prop} {h : Heap} (p : F16_1 K h) : CallsI Try.prog 16 [] h K :=
  CallsI.ofIC Try.mixed Try.func16 rfl (Nat.le_of_ble_eq_true rfl) chk16 (F16_1_to (a := actI []) p)

/-! ### function 17: cellplane/cellplanelaw07.few -/
def D17 : Nat → DI
  | _ => ⟨[], [], []⟩
noncomputable def c17 : Code := bodyC Try.f17
noncomputable def c17_R : Code := cR c17
noncomputable def c17_RR : Code := cR c17_R
noncomputable def c17_RRR : Code := cR c17_RR
noncomputable def F17_1 (K : IV → Heap → Prop) (h : Heap) : Prop :=
  retK Try.prog [.v (.bool true)] h K
noncomputable def c17_RRL : Code := cL c17_RR
noncomputable def c17_RRLR : Code := cR c17_RRL
noncomputable def c17_RRLRL : Code := cL c17_RRLR
noncomputable def c17_RRLRLL : Code := cL c17_RRLRL
/-- A loop of function 17, at the begin of a round. -/
noncomputable def F17_2 (K : IV → Heap → Prop) (x0 x3 : IV) (h : Heap) : Prop := ∀ a : IAct, a 0 = x0 → a 3 = x3 → ILoop Try.prog 20 c17_RRLRLL (iBlock 0 (iThen (fun a h => F17_1 K h) (finK Try.prog Try.f17.results.toList K))) a h
noncomputable def c17_RRLRLLR : Code := cR c17_RRLRLL
noncomputable def c17_RRLRLLRR : Code := cR c17_RRLRLLR
noncomputable def F17_3g (F17_1 : (IV → Heap → Prop) → Heap → Prop) (F17_2 : (IV → Heap → Prop) → IV → IV → Heap → Prop) (K : IV → Heap → Prop) (x0 x3 : IV) (h : Heap) : Prop :=
  oD (binI Try.prog .add 3 x3 (.int .i64 1)) h fun t12_3 =>
  F17_2 K x0 t12_3 h
noncomputable def F17_3 (K : IV → Heap → Prop) (x0 x3 : IV) (h : Heap) : Prop := F17_3g @F17_1 @F17_2 K x0 x3 h
noncomputable def c17_RRLRLLRL : Code := cL c17_RRLRLLR
noncomputable def F17_4g (F17_1 : (IV → Heap → Prop) → Heap → Prop) (F17_2 : (IV → Heap → Prop) → IV → IV → Heap → Prop) (F17_3 : (IV → Heap → Prop) → IV → IV → Heap → Prop) (K : IV → Heap → Prop) (x0 x3 : IV) (h : Heap) : Prop :=
  oD (indexAddrI Try.prog 33 x0 x3 h) h fun t15_7 =>
  oD (fieldAddrI Try.prog 39 t15_7 2) h fun t16_8 =>
  oD (loadI Try.prog 22 t16_8 h) h fun t17_9 =>
  oD (lenI Try.prog 22 t17_9) h fun t18_10 =>
  oD (binI Try.prog .gtr 3 t18_10 (.int .i64 60)) h fun t19_11 =>
  bK' t19_11
    (retK Try.prog [.v (.bool false)] h K)
    (F17_3 K x0 x3 h)
noncomputable def F17_4 (K : IV → Heap → Prop) (x0 x3 : IV) (h : Heap) : Prop := F17_4g @F17_1 @F17_2 @F17_3 K x0 x3 h
noncomputable abbrev F17_5 := @F17_4
noncomputable def c17_RRLRLLL : Code := cL c17_RRLRLL
noncomputable def F17_6g (F17_1 : (IV → Heap → Prop) → Heap → Prop) (F17_2 : (IV → Heap → Prop) → IV → IV → Heap → Prop) (F17_5 : (IV → Heap → Prop) → IV → IV → Heap → Prop) (K : IV → Heap → Prop) (x0 x3 : IV) (h : Heap) : Prop :=
  oD (lenI Try.prog 33 x0) h fun t9_15 =>
  oD (binI Try.prog .lss 3 x3 t9_15) h fun t10_16 =>
  bK' t10_16
    (F17_5 K x0 x3 h)
    (F17_1 K h)
noncomputable def F17_6 (K : IV → Heap → Prop) (x0 x3 : IV) (h : Heap) : Prop := F17_6g @F17_1 @F17_2 @F17_5 K x0 x3 h
noncomputable abbrev F17_7 := @F17_6
noncomputable abbrev F17_8 := @F17_2
noncomputable def c17_RRLL : Code := cL c17_RRL
noncomputable def F17_9g (F17_1 : (IV → Heap → Prop) → Heap → Prop) (F17_8 : (IV → Heap → Prop) → IV → IV → Heap → Prop) (K : IV → Heap → Prop) (x0 : IV) (h : Heap) : Prop :=
  F17_8 K x0 (.int .i64 0) h
noncomputable def F17_9 (K : IV → Heap → Prop) (x0 : IV) (h : Heap) : Prop := F17_9g @F17_1 @F17_8 K x0 h
noncomputable abbrev F17_10 := @F17_9
noncomputable abbrev F17_11 := @F17_10
noncomputable def c17_RL : Code := cL c17_R
noncomputable def F17_12g (F17_11 : (IV → Heap → Prop) → IV → Heap → Prop) (K : IV → Heap → Prop) (x0 : IV) (h : Heap) : Prop :=
  oD (lenI Try.prog 33 x0) h fun t5_19 =>
  oD (binI Try.prog .gtr 3 t5_19 (.int .i64 60)) h fun t6_20 =>
  bK' t6_20
    (retK Try.prog [.v (.bool false)] h K)
    (F17_11 K x0 h)
noncomputable def F17_12 (K : IV → Heap → Prop) (x0 : IV) (h : Heap) : Prop := F17_12g @F17_11 K x0 h
noncomputable abbrev F17_13 := @F17_12
noncomputable def c17_L : Code := cL c17
noncomputable def F17_14g (F17_13 : (IV → Heap → Prop) → IV → Heap → Prop) (K : IV → Heap → Prop) (x0 : IV) (h : Heap) : Prop :=
  F17_13 K x0 h
noncomputable def F17_14 (K : IV → Heap → Prop) (x0 : IV) (h : Heap) : Prop := F17_14g @F17_13 K x0 h
noncomputable abbrev F17_15 := @F17_14
theorem chk17 : chkC Try.prog 20 D17 c17 = true := by kernel_rfl
theorem chk17_RRLRL : chkC Try.prog 20 D17 c17_RRLRLL = true := by kernel_rfl
theorem F17_1_ok (K : IV → Heap → Prop) (a : IAct) (h : Heap) : IC Try.prog 20 D17 c17_RRR (finK Try.prog Try.f17.results.toList K) a h = F17_1 K h := by kernel_rfl
theorem F17_1_to {K : IV → Heap → Prop} {a : IAct} {h : Heap} (p : F17_1 K h) : IC Try.prog 20 D17 c17_RRR (finK Try.prog Try.f17.results.toList K) a h := by rw [F17_1_ok]; exact p
theorem F17_3_okg (F17_1 : (IV → Heap → Prop) → Heap → Prop) (F17_2 : (IV → Heap → Prop) → IV → IV → Heap → Prop) (K : IV → Heap → Prop) (a : IAct) (h : Heap) : IC Try.prog 20 D17 c17_RRLRLLRR (iThen (fun a h => F17_2 K (a 0) (a 3) h) (iBlock 0 (iThen (fun a h => F17_1 K h) (finK Try.prog Try.f17.results.toList K)))) a h = F17_3g F17_1 F17_2 K (a 0) (a 3) h := by kernel_rfl
theorem F17_3_ok (K : IV → Heap → Prop) (a : IAct) (h : Heap) : IC Try.prog 20 D17 c17_RRLRLLRR (iThen (fun a h => F17_2 K (a 0) (a 3) h) (iBlock 0 (iThen (fun a h => F17_1 K h) (finK Try.prog Try.f17.results.toList K)))) a h = F17_3 K (a 0) (a 3) h := F17_3_okg @F17_1 @F17_2 K a h
theorem F17_3_to {K : IV → Heap → Prop} {a : IAct} {h : Heap} (p : F17_3 K (a 0) (a 3) h) : IC Try.prog 20 D17 c17_RRLRLLRR (iThen (fun a h => F17_2 K (a 0) (a 3) h) (iBlock 0 (iThen (fun a h => F17_1 K h) (finK Try.prog Try.f17.results.toList K)))) a h := by rw [F17_3_ok]; exact p
theorem F17_4_okg (F17_1 : (IV → Heap → Prop) → Heap → Prop) (F17_2 : (IV → Heap → Prop) → IV → IV → Heap → Prop) (F17_3 : (IV → Heap → Prop) → IV → IV → Heap → Prop) (K : IV → Heap → Prop) (a : IAct) (h : Heap) : IC Try.prog 20 D17 c17_RRLRLLRL (iThen (fun a h => F17_3 K (a 0) (a 3) h) (iThen (fun a h => F17_2 K (a 0) (a 3) h) (iBlock 0 (iThen (fun a h => F17_1 K h) (finK Try.prog Try.f17.results.toList K))))) a h = F17_4g F17_1 F17_2 F17_3 K (a 0) (a 3) h := by kernel_rfl
theorem F17_4_ok (K : IV → Heap → Prop) (a : IAct) (h : Heap) : IC Try.prog 20 D17 c17_RRLRLLRL (iThen (fun a h => F17_3 K (a 0) (a 3) h) (iThen (fun a h => F17_2 K (a 0) (a 3) h) (iBlock 0 (iThen (fun a h => F17_1 K h) (finK Try.prog Try.f17.results.toList K))))) a h = F17_4 K (a 0) (a 3) h := F17_4_okg @F17_1 @F17_2 @F17_3 K a h
theorem F17_4_to {K : IV → Heap → Prop} {a : IAct} {h : Heap} (p : F17_4 K (a 0) (a 3) h) : IC Try.prog 20 D17 c17_RRLRLLRL (iThen (fun a h => F17_3 K (a 0) (a 3) h) (iThen (fun a h => F17_2 K (a 0) (a 3) h) (iBlock 0 (iThen (fun a h => F17_1 K h) (finK Try.prog Try.f17.results.toList K))))) a h := by rw [F17_4_ok]; exact p
theorem F17_5_to {K : IV → Heap → Prop} {a : IAct} {h : Heap} (p : F17_4 K (a 0) (a 3) h) : IC Try.prog 20 D17 c17_RRLRLLR (iThen (fun a h => F17_2 K (a 0) (a 3) h) (iBlock 0 (iThen (fun a h => F17_1 K h) (finK Try.prog Try.f17.results.toList K)))) a h := by
  have e : c17_RRLRLLR = .seq c17_RRLRLLRL c17_RRLRLLRR := by kernel_rfl
  rw [e]; exact IC.mono c17_RRLRLLRL (iThen_mono fun a h p => F17_3_to p) (F17_4_to p)
theorem F17_6_okg (F17_1 : (IV → Heap → Prop) → Heap → Prop) (F17_2 : (IV → Heap → Prop) → IV → IV → Heap → Prop) (F17_5 : (IV → Heap → Prop) → IV → IV → Heap → Prop) (K : IV → Heap → Prop) (a : IAct) (h : Heap) : IC Try.prog 20 D17 c17_RRLRLLL (iThen (fun a h => F17_5 K (a 0) (a 3) h) (iThen (fun a h => F17_2 K (a 0) (a 3) h) (iBlock 0 (iThen (fun a h => F17_1 K h) (finK Try.prog Try.f17.results.toList K))))) a h = F17_6g F17_1 F17_2 F17_5 K (a 0) (a 3) h := by kernel_rfl
theorem F17_6_ok (K : IV → Heap → Prop) (a : IAct) (h : Heap) : IC Try.prog 20 D17 c17_RRLRLLL (iThen (fun a h => F17_5 K (a 0) (a 3) h) (iThen (fun a h => F17_2 K (a 0) (a 3) h) (iBlock 0 (iThen (fun a h => F17_1 K h) (finK Try.prog Try.f17.results.toList K))))) a h = F17_6 K (a 0) (a 3) h := F17_6_okg @F17_1 @F17_2 @F17_5 K a h
theorem F17_6_to {K : IV → Heap → Prop} {a : IAct} {h : Heap} (p : F17_6 K (a 0) (a 3) h) : IC Try.prog 20 D17 c17_RRLRLLL (iThen (fun a h => F17_5 K (a 0) (a 3) h) (iThen (fun a h => F17_2 K (a 0) (a 3) h) (iBlock 0 (iThen (fun a h => F17_1 K h) (finK Try.prog Try.f17.results.toList K))))) a h := by rw [F17_6_ok]; exact p
theorem F17_7_to {K : IV → Heap → Prop} {a : IAct} {h : Heap} (p : F17_6 K (a 0) (a 3) h) : IC Try.prog 20 D17 c17_RRLRLL (iThen (fun a h => F17_2 K (a 0) (a 3) h) (iBlock 0 (iThen (fun a h => F17_1 K h) (finK Try.prog Try.f17.results.toList K)))) a h := by
  have e : c17_RRLRLL = .seq c17_RRLRLLL c17_RRLRLLR := by kernel_rfl
  rw [e]; exact IC.mono c17_RRLRLLL (iThen_mono fun a h p => F17_5_to p) (F17_6_to p)
theorem F17_2_to {K : IV → Heap → Prop} {a : IAct} {h : Heap} (p : F17_2 K (a 0) (a 3) h) : IC Try.prog 20 D17 c17_RRLRL (iBlock 0 (iThen (fun a h => F17_1 K h) (finK Try.prog Try.f17.results.toList K))) a h := by
  have e : c17_RRLRL = .loop c17_RRLRLL := by kernel_rfl
  rw [e]; exact p a rfl rfl
theorem F17_2_round {K : IV → Heap → Prop} {x0 x3 : IV} {h : Heap} (p : F17_7 K x0 x3 h) : F17_2 K x0 x3 h := by
  intro a e0 e3
  subst e0; subst e3; exact ILoop.round Try.mixed (D := D17) chk17_RRLRL (L := fun a h => F17_2 K (a 0) (a 3) h) (fun a h p => p a rfl rfl) (F17_7_to p)
theorem F17_8_to {K : IV → Heap → Prop} {a : IAct} {h : Heap} (p : F17_2 K (a 0) (a 3) h) : IC Try.prog 20 D17 c17_RRLR (iThen (fun a h => F17_1 K h) (finK Try.prog Try.f17.results.toList K)) a h := by
  have e : c17_RRLR = .block 0 c17_RRLRL := by kernel_rfl
  rw [e]; exact F17_2_to p
theorem F17_9_okg (F17_1 : (IV → Heap → Prop) → Heap → Prop) (F17_8 : (IV → Heap → Prop) → IV → IV → Heap → Prop) (K : IV → Heap → Prop) (a : IAct) (h : Heap) : IC Try.prog 20 D17 c17_RRLL (iThen (fun a h => F17_8 K (a 0) (a 3) h) (iThen (fun a h => F17_1 K h) (finK Try.prog Try.f17.results.toList K))) a h = F17_9g F17_1 F17_8 K (a 0) h := by kernel_rfl
theorem F17_9_ok (K : IV → Heap → Prop) (a : IAct) (h : Heap) : IC Try.prog 20 D17 c17_RRLL (iThen (fun a h => F17_8 K (a 0) (a 3) h) (iThen (fun a h => F17_1 K h) (finK Try.prog Try.f17.results.toList K))) a h = F17_9 K (a 0) h := F17_9_okg @F17_1 @F17_8 K a h
theorem F17_9_to {K : IV → Heap → Prop} {a : IAct} {h : Heap} (p : F17_9 K (a 0) h) : IC Try.prog 20 D17 c17_RRLL (iThen (fun a h => F17_8 K (a 0) (a 3) h) (iThen (fun a h => F17_1 K h) (finK Try.prog Try.f17.results.toList K))) a h := by rw [F17_9_ok]; exact p
theorem F17_10_to {K : IV → Heap → Prop} {a : IAct} {h : Heap} (p : F17_9 K (a 0) h) : IC Try.prog 20 D17 c17_RRL (iThen (fun a h => F17_1 K h) (finK Try.prog Try.f17.results.toList K)) a h := by
  have e : c17_RRL = .seq c17_RRLL c17_RRLR := by kernel_rfl
  rw [e]; exact IC.mono c17_RRLL (iThen_mono fun a h p => F17_8_to p) (F17_9_to p)
theorem F17_11_to {K : IV → Heap → Prop} {a : IAct} {h : Heap} (p : F17_10 K (a 0) h) : IC Try.prog 20 D17 c17_RR (finK Try.prog Try.f17.results.toList K) a h := by
  have e : c17_RR = .seq c17_RRL c17_RRR := by kernel_rfl
  rw [e]; exact IC.mono c17_RRL (iThen_mono fun a h p => F17_1_to p) (F17_10_to p)
theorem F17_12_okg (F17_11 : (IV → Heap → Prop) → IV → Heap → Prop) (K : IV → Heap → Prop) (a : IAct) (h : Heap) : IC Try.prog 20 D17 c17_RL (iThen (fun a h => F17_11 K (a 0) h) (finK Try.prog Try.f17.results.toList K)) a h = F17_12g F17_11 K (a 0) h := by kernel_rfl
theorem F17_12_ok (K : IV → Heap → Prop) (a : IAct) (h : Heap) : IC Try.prog 20 D17 c17_RL (iThen (fun a h => F17_11 K (a 0) h) (finK Try.prog Try.f17.results.toList K)) a h = F17_12 K (a 0) h := F17_12_okg @F17_11 K a h
theorem F17_12_to {K : IV → Heap → Prop} {a : IAct} {h : Heap} (p : F17_12 K (a 0) h) : IC Try.prog 20 D17 c17_RL (iThen (fun a h => F17_11 K (a 0) h) (finK Try.prog Try.f17.results.toList K)) a h := by rw [F17_12_ok]; exact p
theorem F17_13_to {K : IV → Heap → Prop} {a : IAct} {h : Heap} (p : F17_12 K (a 0) h) : IC Try.prog 20 D17 c17_R (finK Try.prog Try.f17.results.toList K) a h := by
  have e : c17_R = .seq c17_RL c17_RR := by kernel_rfl
  rw [e]; exact IC.mono c17_RL (iThen_mono fun a h p => F17_11_to p) (F17_12_to p)
theorem F17_14_okg (F17_13 : (IV → Heap → Prop) → IV → Heap → Prop) (K : IV → Heap → Prop) (a : IAct) (h : Heap) : IC Try.prog 20 D17 c17_L (iThen (fun a h => F17_13 K (a 0) h) (finK Try.prog Try.f17.results.toList K)) a h = F17_14g F17_13 K (a 0) h := by kernel_rfl
theorem F17_14_ok (K : IV → Heap → Prop) (a : IAct) (h : Heap) : IC Try.prog 20 D17 c17_L (iThen (fun a h => F17_13 K (a 0) h) (finK Try.prog Try.f17.results.toList K)) a h = F17_14 K (a 0) h := F17_14_okg @F17_13 K a h
theorem F17_14_to {K : IV → Heap → Prop} {a : IAct} {h : Heap} (p : F17_14 K (a 0) h) : IC Try.prog 20 D17 c17_L (iThen (fun a h => F17_13 K (a 0) h) (finK Try.prog Try.f17.results.toList K)) a h := by rw [F17_14_ok]; exact p
theorem F17_15_to {K : IV → Heap → Prop} {a : IAct} {h : Heap} (p : F17_14 K (a 0) h) : IC Try.prog 20 D17 c17 (finK Try.prog Try.f17.results.toList K) a h := by
  have e : c17 = .seq c17_L c17_R := by kernel_rfl
  rw [e]; exact IC.mono c17_L (iThen_mono fun a h p => F17_13_to p) (F17_14_to p)
theorem F17 {K : IV → Heap → Prop} {x0 : IV} {h : Heap} (p : F17_15 K x0 h) : CallsI Try.prog 17 [x0] h K :=
  CallsI.ofIC Try.mixed Try.func17 rfl (Nat.le_of_ble_eq_true rfl) chk17 (F17_15_to (a := actI [x0]) p)

/-! ### function 18: cellplane/cellplanelaw07.both -/
def D18 : Nat → DI
  | 3 => ⟨[0, 1, 0, 4, 12, 28, 60, 124, 255, 511], [0, 1, 2, 3, 4, 5, 6, 7, 8, 9], []⟩
  | 19 => ⟨[0, 1, 0, 4, 12, 28, 63, 127, 255, 511, 255, 1279, 3327, 7423, 16383, 32767, 65535], [0, 2, 3, 4, 5, 1, 6, 7, 8, 10, 11, 12, 13, 9, 14, 15, 16], []⟩
  | _ => ⟨[], [], []⟩
noncomputable def c18 : Code := bodyC Try.f18
noncomputable def c18_R : Code := cR c18
noncomputable def c18_RR : Code := cR c18_R
noncomputable def c18_RRR : Code := cR c18_RR
noncomputable def c18_RRRR : Code := cR c18_RRR
noncomputable def F18_1 (K : IV → Heap → Prop) (x0 x1 : IV) (h : Heap) : Prop :=
  oP (some true) (nilI x1 h) h fun t63_3 =>
  oD (fieldAddrI Try.prog 44 t63_3 0) h fun t64_4 =>
  oD (loadI Try.prog 22 t64_4 h) h fun t65_5 =>
  CallsI Try.prog 13 [x0] h fun t61_6 h7 => ((reads (loadI Try.prog 22 t64_4 h7) t65_5 h7) ∧ True) ∧
  CallsI Try.prog 15 [t61_6, t65_5] h7 fun t66_8 h9 => (True) ∧
  oG (gW t66_8 true) (some x0) h9 fun t68_11 =>
  oG (gW t66_8 true) (some x1) h9 fun t70_12 =>
  oP (gW t66_8 true) (nilI t70_12 h9) h9 fun t71_13 =>
  oG (gW t66_8 true) (fieldAddrI Try.prog 44 t71_13 1) h9 fun t72_14 =>
  oG (gW t66_8 true) (loadI Try.prog 3 t72_14 h9) h9 fun t73_15 =>
  callS Try.prog (gW t66_8 true) 14 [t68_11] h9 fun t69_16 h17 => ((readsG (gW t66_8 true) (loadI Try.prog 3 t72_14 h17) t73_15 h17) ∧ True) ∧
  oG (gW t66_8 true) (binI Try.prog .eql 3 t69_16 t73_15) h17 fun t74_18 =>
  oP (some true) (pickI t66_8 t74_18 (.bool false) h17) h17 fun t75_19 =>
  retK Try.prog [.v t75_19] h17 K
noncomputable def c18_RRRL : Code := cL c18_RRR
noncomputable def c18_RRRLR : Code := cR c18_RRRL
noncomputable def c18_RRRLRL : Code := cL c18_RRRLR
noncomputable def c18_RRRLRLR : Code := cR c18_RRRLRL
noncomputable def F18_2g (F18_1 : (IV → Heap → Prop) → IV → IV → Heap → Prop) (K : IV → Heap → Prop) (x0 x1 x5 x7 x25 x32 : IV) (h : Heap) : Prop :=
  bK' x32
    (oD (fieldAddrI Try.prog 39 x5 2) h fun t38_22 =>
    oD (loadI Try.prog 22 t38_22 h) h fun t39_23 =>
    CallsI Try.prog 10 [x0, t39_23] h fun t40_24 h25 =>
    oD (fieldAddrI Try.prog 39 x5 2) h25 fun t42_27 =>
    oD (loadI Try.prog 22 t42_27 h25) h25 fun t43_28 =>
    CallsI Try.prog 24 [x1, t43_28] h25 fun t44_29 h30 =>
    F18_1 K x0 x1 h30)
    (oD (binI Try.prog .eql 3 x25 (.int .i64 4)) h fun t46_31 =>
    bK' t46_31
      (CallsI Try.prog 11 [x0] h fun t48_34 h35 =>
      CallsI Try.prog 25 [x1] h35 fun t50_37 h38 =>
      F18_1 K x0 x1 h38)
      (oD (binI Try.prog .eql 3 x25 (.int .i64 5)) h fun t52_39 =>
      bK' t52_39
        (CallsI Try.prog 20 [x0, x7] h fun t55_43 h44 =>
        CallsI Try.prog 26 [x1, x7] h44 fun t58_47 h48 =>
        oD (binI Try.prog .neq 41 t55_43 t58_47) h48 fun t59_49 =>
        bK' t59_49
          (retK Try.prog [.v (.bool false)] h48 K)
          (F18_1 K x0 x1 h48))
        (CallsI Try.prog 12 [x0, x7] h fun t28_53 h54 =>
        CallsI Try.prog 27 [x1, x7] h54 fun t31_57 h58 =>
        F18_1 K x0 x1 h58)))
noncomputable def F18_2 (K : IV → Heap → Prop) (x0 x1 x5 x7 x25 x32 : IV) (h : Heap) : Prop := F18_2g @F18_1 K x0 x1 x5 x7 x25 x32 h
noncomputable def c18_RRRLRLL : Code := cL c18_RRRLRL
noncomputable def F18_3g (F18_1 : (IV → Heap → Prop) → IV → IV → Heap → Prop) (F18_2 : (IV → Heap → Prop) → IV → IV → IV → IV → IV → IV → Heap → Prop) (K : IV → Heap → Prop) (x0 x1 x5 x7 x25 : IV) (h : Heap) : Prop :=
  oD (binI Try.prog .eql 3 x25 (.int .i64 0)) h fun t33_59 =>
  bK' t33_59
    (F18_2 K x0 x1 x5 x7 x25 t33_59 h)
    (oD (binI Try.prog .eql 3 x25 (.int .i64 1)) h fun t34_61 =>
    bK' t34_61
      (F18_2 K x0 x1 x5 x7 x25 t34_61 h)
      (oD (binI Try.prog .eql 3 x25 (.int .i64 2)) h fun t35_63 =>
      bK' t35_63
        (F18_2 K x0 x1 x5 x7 x25 t35_63 h)
        (oD (binI Try.prog .eql 3 x25 (.int .i64 3)) h fun t36_65 =>
        F18_2 K x0 x1 x5 x7 x25 t36_65 h)))
noncomputable def F18_3 (K : IV → Heap → Prop) (x0 x1 x5 x7 x25 : IV) (h : Heap) : Prop := F18_3g @F18_1 @F18_2 K x0 x1 x5 x7 x25 h
noncomputable abbrev F18_4 := @F18_3
noncomputable abbrev F18_5 := @F18_4
noncomputable def c18_RRRLL : Code := cL c18_RRRL
noncomputable def F18_6g (F18_1 : (IV → Heap → Prop) → IV → IV → Heap → Prop) (F18_5 : (IV → Heap → Prop) → IV → IV → IV → IV → IV → Heap → Prop) (K : IV → Heap → Prop) (x0 x1 x5 x7 : IV) (h : Heap) : Prop :=
  oD (fieldAddrI Try.prog 39 x5 0) h fun t23_67 =>
  oD (loadI Try.prog 3 t23_67 h) h fun t24_68 =>
  CallsI Try.prog 23 [t24_68, .int .i64 8] h fun t25_69 h70 =>
  F18_5 K x0 x1 x5 x7 t25_69 h70
noncomputable def F18_6 (K : IV → Heap → Prop) (x0 x1 x5 x7 : IV) (h : Heap) : Prop := F18_6g @F18_1 @F18_5 K x0 x1 x5 x7 h
noncomputable abbrev F18_7 := @F18_6
noncomputable abbrev F18_8 := @F18_7
noncomputable def c18_RRL : Code := cL c18_RR
noncomputable def F18_9g (F18_8 : (IV → Heap → Prop) → IV → IV → IV → IV → Heap → Prop) (K : IV → Heap → Prop) (x0 x1 x5 x7 : IV) (h : Heap) : Prop :=
  oD (fieldAddrI Try.prog 39 x5 0) h fun t10_71 =>
  oD (loadI Try.prog 3 t10_71 h) h fun t11_72 =>
  oD (binI Try.prog .and 3 t11_72 (.int .i64 8)) h fun t12_73 =>
  oD (binI Try.prog .neq 3 t12_73 (.int .i64 0)) h fun t13_74 =>
  bK' t13_74
    (oD (fieldAddrI Try.prog 39 x5 1) h fun t14_75 =>
    oD (loadI Try.prog 3 t14_75 h) h fun t15_76 =>
    oP (some true) (nilI x1 h) h fun t17_78 =>
    oD (fieldAddrI Try.prog 44 t17_78 0) h fun t18_79 =>
    oD (loadI Try.prog 22 t18_79 h) h fun t19_80 =>
    oD (lenI Try.prog 22 t19_80) h fun t20_81 =>
    oD (binI Try.prog .add 3 t20_81 (.int .i64 1)) h fun t21_82 =>
    CallsI Try.prog 19 [t15_76, .int .i64 (-1), t21_82] h fun t22_83 h84 => (True) ∧
    F18_8 K x0 x1 x5 t22_83 h84)
    (F18_8 K x0 x1 x5 x7 h)
noncomputable def F18_9 (K : IV → Heap → Prop) (x0 x1 x5 x7 : IV) (h : Heap) : Prop := F18_9g @F18_8 K x0 x1 x5 x7 h
noncomputable abbrev F18_10 := @F18_9
noncomputable def c18_RL : Code := cL c18_R
noncomputable def F18_11g (F18_10 : (IV → Heap → Prop) → IV → IV → IV → IV → Heap → Prop) (K : IV → Heap → Prop) (x0 x1 x5 : IV) (h : Heap) : Prop :=
  oD (fieldAddrI Try.prog 39 x5 1) h fun t8_86 =>
  oD (loadI Try.prog 3 t8_86 h) h fun t9_87 =>
  F18_10 K x0 x1 x5 t9_87 h
noncomputable def F18_11 (K : IV → Heap → Prop) (x0 x1 x5 : IV) (h : Heap) : Prop := F18_11g @F18_10 K x0 x1 x5 h
noncomputable abbrev F18_12 := @F18_11
noncomputable def c18_L : Code := cL c18
noncomputable def F18_13g (F18_12 : (IV → Heap → Prop) → IV → IV → IV → Heap → Prop) (K : IV → Heap → Prop) (x0 x1 x2 : IV) (h : Heap) : Prop :=
  oA (boxI 39 x2 h) h fun t5_89 h90 =>
  F18_12 K x0 x1 t5_89 h90
noncomputable def F18_13 (K : IV → Heap → Prop) (x0 x1 x2 : IV) (h : Heap) : Prop := F18_13g @F18_12 K x0 x1 x2 h
noncomputable abbrev F18_14 := @F18_13
theorem chk18 : chkC Try.prog 76 D18 c18 = true := by kernel_rfl
theorem F18_1_ok (K : IV → Heap → Prop) (a : IAct) (h : Heap) : IC Try.prog 76 D18 c18_RRRR (finK Try.prog Try.f18.results.toList K) a h = F18_1 K (a 0) (a 1) h := by kernel_rfl
theorem F18_1_to {K : IV → Heap → Prop} {a : IAct} {h : Heap} (p : F18_1 K (a 0) (a 1) h) : IC Try.prog 76 D18 c18_RRRR (finK Try.prog Try.f18.results.toList K) a h := by rw [F18_1_ok]; exact p
theorem F18_2_okg (F18_1 : (IV → Heap → Prop) → IV → IV → Heap → Prop) (K : IV → Heap → Prop) (a : IAct) (h : Heap) : IC Try.prog 76 D18 c18_RRRLRLR (iBlock 0 (iThen (fun a h => F18_1 K (a 0) (a 1) h) (finK Try.prog Try.f18.results.toList K))) a h = F18_2g F18_1 K (a 0) (a 1) (a 5) (a 7) (a 25) (a 32) h := by kernel_rfl
theorem F18_2_ok (K : IV → Heap → Prop) (a : IAct) (h : Heap) : IC Try.prog 76 D18 c18_RRRLRLR (iBlock 0 (iThen (fun a h => F18_1 K (a 0) (a 1) h) (finK Try.prog Try.f18.results.toList K))) a h = F18_2 K (a 0) (a 1) (a 5) (a 7) (a 25) (a 32) h := F18_2_okg @F18_1 K a h
theorem F18_2_to {K : IV → Heap → Prop} {a : IAct} {h : Heap} (p : F18_2 K (a 0) (a 1) (a 5) (a 7) (a 25) (a 32) h) : IC Try.prog 76 D18 c18_RRRLRLR (iBlock 0 (iThen (fun a h => F18_1 K (a 0) (a 1) h) (finK Try.prog Try.f18.results.toList K))) a h := by rw [F18_2_ok]; exact p
theorem F18_3_okg (F18_1 : (IV → Heap → Prop) → IV → IV → Heap → Prop) (F18_2 : (IV → Heap → Prop) → IV → IV → IV → IV → IV → IV → Heap → Prop) (K : IV → Heap → Prop) (a : IAct) (h : Heap) : IC Try.prog 76 D18 c18_RRRLRLL (iThen (fun a h => F18_2 K (a 0) (a 1) (a 5) (a 7) (a 25) (a 32) h) (iBlock 0 (iThen (fun a h => F18_1 K (a 0) (a 1) h) (finK Try.prog Try.f18.results.toList K)))) a h = F18_3g F18_1 F18_2 K (a 0) (a 1) (a 5) (a 7) (a 25) h := by kernel_rfl
theorem F18_3_ok (K : IV → Heap → Prop) (a : IAct) (h : Heap) : IC Try.prog 76 D18 c18_RRRLRLL (iThen (fun a h => F18_2 K (a 0) (a 1) (a 5) (a 7) (a 25) (a 32) h) (iBlock 0 (iThen (fun a h => F18_1 K (a 0) (a 1) h) (finK Try.prog Try.f18.results.toList K)))) a h = F18_3 K (a 0) (a 1) (a 5) (a 7) (a 25) h := F18_3_okg @F18_1 @F18_2 K a h
theorem F18_3_to {K : IV → Heap → Prop} {a : IAct} {h : Heap} (p : F18_3 K (a 0) (a 1) (a 5) (a 7) (a 25) h) : IC Try.prog 76 D18 c18_RRRLRLL (iThen (fun a h => F18_2 K (a 0) (a 1) (a 5) (a 7) (a 25) (a 32) h) (iBlock 0 (iThen (fun a h => F18_1 K (a 0) (a 1) h) (finK Try.prog Try.f18.results.toList K)))) a h := by rw [F18_3_ok]; exact p
theorem F18_4_to {K : IV → Heap → Prop} {a : IAct} {h : Heap} (p : F18_3 K (a 0) (a 1) (a 5) (a 7) (a 25) h) : IC Try.prog 76 D18 c18_RRRLRL (iBlock 0 (iThen (fun a h => F18_1 K (a 0) (a 1) h) (finK Try.prog Try.f18.results.toList K))) a h := by
  have e : c18_RRRLRL = .seq c18_RRRLRLL c18_RRRLRLR := by kernel_rfl
  rw [e]; exact IC.mono c18_RRRLRLL (iThen_mono fun a h p => F18_2_to p) (F18_3_to p)
theorem F18_5_to {K : IV → Heap → Prop} {a : IAct} {h : Heap} (p : F18_4 K (a 0) (a 1) (a 5) (a 7) (a 25) h) : IC Try.prog 76 D18 c18_RRRLR (iThen (fun a h => F18_1 K (a 0) (a 1) h) (finK Try.prog Try.f18.results.toList K)) a h := by
  have e : c18_RRRLR = .block 0 c18_RRRLRL := by kernel_rfl
  rw [e]; exact F18_4_to p
theorem F18_6_okg (F18_1 : (IV → Heap → Prop) → IV → IV → Heap → Prop) (F18_5 : (IV → Heap → Prop) → IV → IV → IV → IV → IV → Heap → Prop) (K : IV → Heap → Prop) (a : IAct) (h : Heap) : IC Try.prog 76 D18 c18_RRRLL (iThen (fun a h => F18_5 K (a 0) (a 1) (a 5) (a 7) (a 25) h) (iThen (fun a h => F18_1 K (a 0) (a 1) h) (finK Try.prog Try.f18.results.toList K))) a h = F18_6g F18_1 F18_5 K (a 0) (a 1) (a 5) (a 7) h := by kernel_rfl
theorem F18_6_ok (K : IV → Heap → Prop) (a : IAct) (h : Heap) : IC Try.prog 76 D18 c18_RRRLL (iThen (fun a h => F18_5 K (a 0) (a 1) (a 5) (a 7) (a 25) h) (iThen (fun a h => F18_1 K (a 0) (a 1) h) (finK Try.prog Try.f18.results.toList K))) a h = F18_6 K (a 0) (a 1) (a 5) (a 7) h := F18_6_okg @F18_1 @F18_5 K a h
theorem F18_6_to {K : IV → Heap → Prop} {a : IAct} {h : Heap} (p : F18_6 K (a 0) (a 1) (a 5) (a 7) h) : IC Try.prog 76 D18 c18_RRRLL (iThen (fun a h => F18_5 K (a 0) (a 1) (a 5) (a 7) (a 25) h) (iThen (fun a h => F18_1 K (a 0) (a 1) h) (finK Try.prog Try.f18.results.toList K))) a h := by rw [F18_6_ok]; exact p
theorem F18_7_to {K : IV → Heap → Prop} {a : IAct} {h : Heap} (p : F18_6 K (a 0) (a 1) (a 5) (a 7) h) : IC Try.prog 76 D18 c18_RRRL (iThen (fun a h => F18_1 K (a 0) (a 1) h) (finK Try.prog Try.f18.results.toList K)) a h := by
  have e : c18_RRRL = .seq c18_RRRLL c18_RRRLR := by kernel_rfl
  rw [e]; exact IC.mono c18_RRRLL (iThen_mono fun a h p => F18_5_to p) (F18_6_to p)
theorem F18_8_to {K : IV → Heap → Prop} {a : IAct} {h : Heap} (p : F18_7 K (a 0) (a 1) (a 5) (a 7) h) : IC Try.prog 76 D18 c18_RRR (finK Try.prog Try.f18.results.toList K) a h := by
  have e : c18_RRR = .seq c18_RRRL c18_RRRR := by kernel_rfl
  rw [e]; exact IC.mono c18_RRRL (iThen_mono fun a h p => F18_1_to p) (F18_7_to p)
theorem F18_9_okg (F18_8 : (IV → Heap → Prop) → IV → IV → IV → IV → Heap → Prop) (K : IV → Heap → Prop) (a : IAct) (h : Heap) : IC Try.prog 76 D18 c18_RRL (iThen (fun a h => F18_8 K (a 0) (a 1) (a 5) (a 7) h) (finK Try.prog Try.f18.results.toList K)) a h = F18_9g F18_8 K (a 0) (a 1) (a 5) (a 7) h := by kernel_rfl
theorem F18_9_ok (K : IV → Heap → Prop) (a : IAct) (h : Heap) : IC Try.prog 76 D18 c18_RRL (iThen (fun a h => F18_8 K (a 0) (a 1) (a 5) (a 7) h) (finK Try.prog Try.f18.results.toList K)) a h = F18_9 K (a 0) (a 1) (a 5) (a 7) h := F18_9_okg @F18_8 K a h
theorem F18_9_to {K : IV → Heap → Prop} {a : IAct} {h : Heap} (p : F18_9 K (a 0) (a 1) (a 5) (a 7) h) : IC Try.prog 76 D18 c18_RRL (iThen (fun a h => F18_8 K (a 0) (a 1) (a 5) (a 7) h) (finK Try.prog Try.f18.results.toList K)) a h := by rw [F18_9_ok]; exact p
theorem F18_10_to {K : IV → Heap → Prop} {a : IAct} {h : Heap} (p : F18_9 K (a 0) (a 1) (a 5) (a 7) h) : IC Try.prog 76 D18 c18_RR (finK Try.prog Try.f18.results.toList K) a h := by
  have e : c18_RR = .seq c18_RRL c18_RRR := by kernel_rfl
  rw [e]; exact IC.mono c18_RRL (iThen_mono fun a h p => F18_8_to p) (F18_9_to p)
theorem F18_11_okg (F18_10 : (IV → Heap → Prop) → IV → IV → IV → IV → Heap → Prop) (K : IV → Heap → Prop) (a : IAct) (h : Heap) : IC Try.prog 76 D18 c18_RL (iThen (fun a h => F18_10 K (a 0) (a 1) (a 5) (a 7) h) (finK Try.prog Try.f18.results.toList K)) a h = F18_11g F18_10 K (a 0) (a 1) (a 5) h := by kernel_rfl
theorem F18_11_ok (K : IV → Heap → Prop) (a : IAct) (h : Heap) : IC Try.prog 76 D18 c18_RL (iThen (fun a h => F18_10 K (a 0) (a 1) (a 5) (a 7) h) (finK Try.prog Try.f18.results.toList K)) a h = F18_11 K (a 0) (a 1) (a 5) h := F18_11_okg @F18_10 K a h
theorem F18_11_to {K : IV → Heap → Prop} {a : IAct} {h : Heap} (p : F18_11 K (a 0) (a 1) (a 5) h) : IC Try.prog 76 D18 c18_RL (iThen (fun a h => F18_10 K (a 0) (a 1) (a 5) (a 7) h) (finK Try.prog Try.f18.results.toList K)) a h := by rw [F18_11_ok]; exact p
theorem F18_12_to {K : IV → Heap → Prop} {a : IAct} {h : Heap} (p : F18_11 K (a 0) (a 1) (a 5) h) : IC Try.prog 76 D18 c18_R (finK Try.prog Try.f18.results.toList K) a h := by
  have e : c18_R = .seq c18_RL c18_RR := by kernel_rfl
  rw [e]; exact IC.mono c18_RL (iThen_mono fun a h p => F18_10_to p) (F18_11_to p)
theorem F18_13_okg (F18_12 : (IV → Heap → Prop) → IV → IV → IV → Heap → Prop) (K : IV → Heap → Prop) (a : IAct) (h : Heap) : IC Try.prog 76 D18 c18_L (iThen (fun a h => F18_12 K (a 0) (a 1) (a 5) h) (finK Try.prog Try.f18.results.toList K)) a h = F18_13g F18_12 K (a 0) (a 1) (a 2) h := by kernel_rfl
theorem F18_13_ok (K : IV → Heap → Prop) (a : IAct) (h : Heap) : IC Try.prog 76 D18 c18_L (iThen (fun a h => F18_12 K (a 0) (a 1) (a 5) h) (finK Try.prog Try.f18.results.toList K)) a h = F18_13 K (a 0) (a 1) (a 2) h := F18_13_okg @F18_12 K a h
theorem F18_13_to {K : IV → Heap → Prop} {a : IAct} {h : Heap} (p : F18_13 K (a 0) (a 1) (a 2) h) : IC Try.prog 76 D18 c18_L (iThen (fun a h => F18_12 K (a 0) (a 1) (a 5) h) (finK Try.prog Try.f18.results.toList K)) a h := by rw [F18_13_ok]; exact p
theorem F18_14_to {K : IV → Heap → Prop} {a : IAct} {h : Heap} (p : F18_13 K (a 0) (a 1) (a 2) h) : IC Try.prog 76 D18 c18 (finK Try.prog Try.f18.results.toList K) a h := by
  have e : c18 = .seq c18_L c18_R := by kernel_rfl
  rw [e]; exact IC.mono c18_L (iThen_mono fun a h p => F18_12_to p) (F18_13_to p)
theorem F18 {K : IV → Heap → Prop} {x0 x1 x2 : IV} {h : Heap} (p : F18_14 K x0 x1 x2 h) : CallsI Try.prog 18 [x0, x1, x2] h K :=
  CallsI.ofIC Try.mixed Try.func18 rfl (Nat.le_of_ble_eq_true rfl) chk18 (F18_14_to (a := actI [x0, x1, x2]) p)

/-! ### function 19: cellplane/cellplanemake.Between -/
def D19 : Nat → DI
  | _ => ⟨[], [], []⟩
noncomputable def c19 : Code := bodyC Try.f19
noncomputable def F19_1 (K : IV → Heap → Prop) (x0 x1 x2 : IV) (h : Heap) : Prop :=
  oD (binI Try.prog .sub 3 x2 x1) h fun t11_6 =>
  oD (binI Try.prog .add 3 t11_6 (.int .i64 1)) h fun t12_7 =>
  CallsI Try.prog 23 [x0, t12_7] h fun t13_8 h9 =>
  oD (binI Try.prog .add 3 x1 t13_8) h9 fun t14_10 =>
  retK Try.prog [.v t14_10] h9 K
theorem chk19 : chkC Try.prog 15 D19 c19 = true := by kernel_rfl
theorem F19_1_ok (K : IV → Heap → Prop) (a : IAct) (h : Heap) : IC Try.prog 15 D19 c19 (finK Try.prog Try.f19.results.toList K) a h = F19_1 K (a 0) (a 1) (a 2) h := by kernel_rfl
theorem F19_1_to {K : IV → Heap → Prop} {a : IAct} {h : Heap} (p : F19_1 K (a 0) (a 1) (a 2) h) : IC Try.prog 15 D19 c19 (finK Try.prog Try.f19.results.toList K) a h := by rw [F19_1_ok]; exact p
theorem F19 {K : IV → Heap → Prop} {x0 x1 x2 : IV} {h : Heap} (p : F19_1 K x0 x1 x2 h) : CallsI Try.prog 19 [x0, x1, x2] h K :=
  CallsI.ofIC Try.mixed Try.func19 rfl (Nat.le_of_ble_eq_true rfl) chk19 (F19_1_to (a := actI [x0, x1, x2]) p)

/-! ### function 20: (*cellplane/disk.Disk).Truncate -/
def D20 : Nat → DI
  | _ => ⟨[], [], []⟩
noncomputable def c20 : Code := bodyC Try.f20
noncomputable def c20_R : Code := cR c20
noncomputable def c20_RR : Code := cR c20_R
noncomputable def F20_1 (K : IV → Heap → Prop) (x0 x1 : IV) (h : Heap) : Prop :=
  oP (some true) (nilI x0 h) h fun t18_3 =>
  oD (fieldAddrI Try.prog 47 t18_3 0) h fun t19_4 =>
  oD (loadI Try.prog 22 t19_4 h) h fun t20_5 =>
  oD (sliceI Try.prog 22 t20_5 none (some x1) h) h fun t22_7 =>
  oP (some true) (nilI x0 h) h fun t23_8 =>
  oD (fieldAddrI Try.prog 47 t23_8 0) h fun t24_9 =>
  oS (storeI Try.prog 22 t24_9 t22_7 h) h fun h11 =>
  oP (some true) (nilI x0 h11) h11 fun t27_14 =>
  oD (fieldAddrI Try.prog 47 t27_14 1) h11 fun t28_15 =>
  oD (loadI Try.prog 3 t28_15 h11) h11 fun t29_16 =>
  oD (mmI false t29_16 [x1]) h11 fun t31_18 =>
  oP (some true) (nilI x0 h11) h11 fun t32_19 =>
  oD (fieldAddrI Try.prog 47 t32_19 1) h11 fun t33_20 =>
  oS (storeI Try.prog 3 t33_20 t31_18 h11) h11 fun h22 =>
  retK Try.prog [.v (.int .i64 0)] h22 K
noncomputable def c20_RL : Code := cL c20_R
noncomputable def F20_2g (F20_1 : (IV → Heap → Prop) → IV → IV → Heap → Prop) (K : IV → Heap → Prop) (x0 x1 : IV) (h : Heap) : Prop :=
  oD (binI Try.prog .lss 3 x1 (.int .i64 0)) h fun t6_25 =>
  oG (gW t6_25 false) (some x1) h fun t8_27 =>
  oG (gW t6_25 false) (some x0) h fun t9_28 =>
  oP (gW t6_25 false) (nilI t9_28 h) h fun t10_29 =>
  oG (gW t6_25 false) (fieldAddrI Try.prog 47 t10_29 0) h fun t11_30 =>
  oG (gW t6_25 false) (loadI Try.prog 22 t11_30 h) h fun t12_31 =>
  oG (gW t6_25 false) (lenI Try.prog 22 t12_31) h fun t13_32 =>
  oG (gW t6_25 false) (binI Try.prog .gtr 3 t8_27 t13_32) h fun t14_33 =>
  oP (some true) (pickI t6_25 (.bool true) t14_33 h) h fun t15_34 =>
  bK' t15_34
    (retK Try.prog [.v (.int .i64 1)] h K)
    (F20_1 K x0 x1 h)
noncomputable def F20_2 (K : IV → Heap → Prop) (x0 x1 : IV) (h : Heap) : Prop := F20_2g @F20_1 K x0 x1 h
noncomputable abbrev F20_3 := @F20_2
noncomputable def c20_L : Code := cL c20
noncomputable def F20_4g (F20_3 : (IV → Heap → Prop) → IV → IV → Heap → Prop) (K : IV → Heap → Prop) (x0 x1 : IV) (h : Heap) : Prop :=
  F20_3 K x0 x1 h
noncomputable def F20_4 (K : IV → Heap → Prop) (x0 x1 : IV) (h : Heap) : Prop := F20_4g @F20_3 K x0 x1 h
noncomputable abbrev F20_5 := @F20_4
theorem chk20 : chkC Try.prog 34 D20 c20 = true := by kernel_rfl
theorem F20_1_ok (K : IV → Heap → Prop) (a : IAct) (h : Heap) : IC Try.prog 34 D20 c20_RR (finK Try.prog Try.f20.results.toList K) a h = F20_1 K (a 0) (a 1) h := by kernel_rfl
theorem F20_1_to {K : IV → Heap → Prop} {a : IAct} {h : Heap} (p : F20_1 K (a 0) (a 1) h) : IC Try.prog 34 D20 c20_RR (finK Try.prog Try.f20.results.toList K) a h := by rw [F20_1_ok]; exact p
theorem F20_2_okg (F20_1 : (IV → Heap → Prop) → IV → IV → Heap → Prop) (K : IV → Heap → Prop) (a : IAct) (h : Heap) : IC Try.prog 34 D20 c20_RL (iThen (fun a h => F20_1 K (a 0) (a 1) h) (finK Try.prog Try.f20.results.toList K)) a h = F20_2g F20_1 K (a 0) (a 1) h := by kernel_rfl
theorem F20_2_ok (K : IV → Heap → Prop) (a : IAct) (h : Heap) : IC Try.prog 34 D20 c20_RL (iThen (fun a h => F20_1 K (a 0) (a 1) h) (finK Try.prog Try.f20.results.toList K)) a h = F20_2 K (a 0) (a 1) h := F20_2_okg @F20_1 K a h
theorem F20_2_to {K : IV → Heap → Prop} {a : IAct} {h : Heap} (p : F20_2 K (a 0) (a 1) h) : IC Try.prog 34 D20 c20_RL (iThen (fun a h => F20_1 K (a 0) (a 1) h) (finK Try.prog Try.f20.results.toList K)) a h := by rw [F20_2_ok]; exact p
theorem F20_3_to {K : IV → Heap → Prop} {a : IAct} {h : Heap} (p : F20_2 K (a 0) (a 1) h) : IC Try.prog 34 D20 c20_R (finK Try.prog Try.f20.results.toList K) a h := by
  have e : c20_R = .seq c20_RL c20_RR := by kernel_rfl
  rw [e]; exact IC.mono c20_RL (iThen_mono fun a h p => F20_1_to p) (F20_2_to p)
theorem F20_4_okg (F20_3 : (IV → Heap → Prop) → IV → IV → Heap → Prop) (K : IV → Heap → Prop) (a : IAct) (h : Heap) : IC Try.prog 34 D20 c20_L (iThen (fun a h => F20_3 K (a 0) (a 1) h) (finK Try.prog Try.f20.results.toList K)) a h = F20_4g F20_3 K (a 0) (a 1) h := by kernel_rfl
theorem F20_4_ok (K : IV → Heap → Prop) (a : IAct) (h : Heap) : IC Try.prog 34 D20 c20_L (iThen (fun a h => F20_3 K (a 0) (a 1) h) (finK Try.prog Try.f20.results.toList K)) a h = F20_4 K (a 0) (a 1) h := F20_4_okg @F20_3 K a h
theorem F20_4_to {K : IV → Heap → Prop} {a : IAct} {h : Heap} (p : F20_4 K (a 0) (a 1) h) : IC Try.prog 34 D20 c20_L (iThen (fun a h => F20_3 K (a 0) (a 1) h) (finK Try.prog Try.f20.results.toList K)) a h := by rw [F20_4_ok]; exact p
theorem F20_5_to {K : IV → Heap → Prop} {a : IAct} {h : Heap} (p : F20_4 K (a 0) (a 1) h) : IC Try.prog 34 D20 c20 (finK Try.prog Try.f20.results.toList K) a h := by
  have e : c20 = .seq c20_L c20_R := by kernel_rfl
  rw [e]; exact IC.mono c20_L (iThen_mono fun a h p => F20_3_to p) (F20_4_to p)
theorem F20 {K : IV → Heap → Prop} {x0 x1 : IV} {h : Heap} (p : F20_5 K x0 x1 h) : CallsI Try.prog 20 [x0, x1] h K :=
  CallsI.ofIC Try.mixed Try.func20 rfl (Nat.le_of_ble_eq_true rfl) chk20 (F20_5_to (a := actI [x0, x1]) p)

/-! ### function 21: (*cellplane/disk.Disk).Copy -/
def D21 : Nat → DI
  | 1 => ⟨[0, 1, 0, 4, 12, 28, 63, 127, 255], [0, 2, 3, 4, 5, 1, 6, 7, 8], [7]⟩
  | _ => ⟨[], [], []⟩
noncomputable def c21 : Code := bodyC Try.f21
noncomputable def F21_1 (K : IV → Heap → Prop) (x0 : IV) (h : Heap) : Prop :=
  oP (some true) (nilI x0 (h ++ [none])) (h ++ [none]) fun t6_4 =>
  oD (fieldAddrI Try.prog 47 t6_4 1) (h ++ [none]) fun t7_5 =>
  oD (loadI Try.prog 3 t7_5 (h ++ [none])) (h ++ [none]) fun t8_6 =>
  CallsI Try.prog 13 [x0] (h ++ [none]) fun t4_7 h8 => ((reads (loadI Try.prog 3 t7_5 h8) t8_6 h8) ∧ True) ∧
  oD (buildV Try.prog 47 [(0, t4_7), (1, t8_6)]) h8 fun t9_9 =>
  oK (newB 47 t9_9) fun t10_10 =>
  retK Try.prog [.v (mkV t10_10.1 (h.length))] (h8.set (h.length) (some t10_10.2)) K
theorem chk21 : chkC Try.prog 11 D21 c21 = true := by kernel_rfl
theorem F21_1_ok (K : IV → Heap → Prop) (a : IAct) (h : Heap) : IC Try.prog 11 D21 c21 (finK Try.prog Try.f21.results.toList K) a h = F21_1 K (a 0) h := by kernel_rfl
theorem F21_1_to {K : IV → Heap → Prop} {a : IAct} {h : Heap} (p : F21_1 K (a 0) h) : IC Try.prog 11 D21 c21 (finK Try.prog Try.f21.results.toList K) a h := by rw [F21_1_ok]; exact p
theorem F21 {K : IV → Heap → Prop} {x0 : IV} {h : Heap} (p : F21_1 K x0 h) : CallsI Try.prog 21 [x0] h K :=
  CallsI.ofIC Try.mixed Try.func21 rfl (Nat.le_of_ble_eq_true rfl) chk21 (F21_1_to (a := actI [x0]) p)

/-! ### function 22: (*cellplane/cellplaneref07.Disk).Copy -/
def D22 : Nat → DI
  | 1 => ⟨[0, 0, 2, 6, 14, 31, 0, 64, 192, 448, 1023, 2047, 4095], [0, 1, 2, 3, 4, 6, 7, 8, 9, 5, 10, 11, 12], [0, 11]⟩
  | _ => ⟨[], [], []⟩
noncomputable def c22 : Code := bodyC Try.f22
noncomputable def F22_1 (K : IV → Heap → Prop) (x0 : IV) (h : Heap) : Prop :=
  oK (newS Try.prog 22 0 []) fun t3_2 =>
  oP (some true) (nilI x0 (h ++ [none, none])) (h ++ [none, none]) fun t5_4 =>
  oD (fieldAddrI Try.prog 44 t5_4 0) (h ++ [none, none]) fun t6_5 =>
  oD (loadI Try.prog 22 t6_5 (h ++ [none, none])) (h ++ [none, none]) fun t7_6 =>
  oP (some true) (nilI x0 (h ++ [none, none])) (h ++ [none, none]) fun t10_8 =>
  oD (fieldAddrI Try.prog 44 t10_8 1) (h ++ [none, none]) fun t11_9 =>
  oD (loadI Try.prog 3 t11_9 (h ++ [none, none])) (h ++ [none, none]) fun t12_10 =>
  oA (appendI Try.prog 22 22 (mkV t3_2.1 (h.length)) t7_6 ((h ++ [none, none]).set (h.length) (some t3_2.2))) ((h ++ [none, none]).set (h.length) (some t3_2.2)) fun t8_11 h12 => ((reads (loadI Try.prog 3 t11_9 h12) t12_10 h12) ∧ True) ∧
  oD (buildV Try.prog 44 [(0, t8_11), (1, t12_10)]) h12 fun t13_13 =>
  oK (newB 44 t13_13) fun t14_14 =>
  retK Try.prog [.v (mkV t14_14.1 (h.length + 1))] (h12.set (h.length + 1) (some t14_14.2)) K
theorem chk22 : chkC Try.prog 15 D22 c22 = true := by kernel_rfl
theorem F22_1_ok (K : IV → Heap → Prop) (a : IAct) (h : Heap) : IC Try.prog 15 D22 c22 (finK Try.prog Try.f22.results.toList K) a h = F22_1 K (a 0) h := by kernel_rfl
theorem F22_1_to {K : IV → Heap → Prop} {a : IAct} {h : Heap} (p : F22_1 K (a 0) h) : IC Try.prog 15 D22 c22 (finK Try.prog Try.f22.results.toList K) a h := by rw [F22_1_ok]; exact p
theorem F22 {K : IV → Heap → Prop} {x0 : IV} {h : Heap} (p : F22_1 K x0 h) : CallsI Try.prog 22 [x0] h K :=
  CallsI.ofIC Try.mixed Try.func22 rfl (Nat.le_of_ble_eq_true rfl) chk22 (F22_1_to (a := actI [x0]) p)

/-! ### function 23: cellplane/cellplanemake.Mod -/
def D23 : Nat → DI
  | _ => ⟨[], [], []⟩
noncomputable def c23 : Code := bodyC Try.f23
noncomputable def F23_1 (K : IV → Heap → Prop) (x0 x1 : IV) (h : Heap) : Prop :=
  oD (binI Try.prog .rem 3 x0 x1) h fun t7_4 =>
  oD (binI Try.prog .add 3 t7_4 x1) h fun t9_6 =>
  oD (binI Try.prog .rem 3 t9_6 x1) h fun t11_8 =>
  retK Try.prog [.v t11_8] h K
theorem chk23 : chkC Try.prog 12 D23 c23 = true := by kernel_rfl
theorem F23_1_ok (K : IV → Heap → Prop) (a : IAct) (h : Heap) : IC Try.prog 12 D23 c23 (finK Try.prog Try.f23.results.toList K) a h = F23_1 K (a 0) (a 1) h := by kernel_rfl
theorem F23_1_to {K : IV → Heap → Prop} {a : IAct} {h : Heap} (p : F23_1 K (a 0) (a 1) h) : IC Try.prog 12 D23 c23 (finK Try.prog Try.f23.results.toList K) a h := by rw [F23_1_ok]; exact p
theorem F23 {K : IV → Heap → Prop} {x0 x1 : IV} {h : Heap} (p : F23_1 K x0 x1 h) : CallsI Try.prog 23 [x0, x1] h K :=
  CallsI.ofIC Try.mixed Try.func23 rfl (Nat.le_of_ble_eq_true rfl) chk23 (F23_1_to (a := actI [x0, x1]) p)

/-! ### function 24: (*cellplane/cellplaneref07.Disk).Append -/
def D24 : Nat → DI
  | _ => ⟨[], [], []⟩
noncomputable def c24 : Code := bodyC Try.f24
noncomputable def F24_1 (K : IV → Heap → Prop) (x0 x1 : IV) (h : Heap) : Prop :=
  oA (buildSliceV Try.prog 22 0 [] h) h fun t5_2 h3 =>
  oP (some true) (nilI x0 h3) h3 fun t7_5 =>
  oD (fieldAddrI Try.prog 44 t7_5 0) h3 fun t8_6 =>
  oD (loadI Try.prog 22 t8_6 h3) h3 fun t9_7 =>
  oA (appendI Try.prog 22 22 t5_2 t9_7 h3) h3 fun t10_8 h9 =>
  oA (appendI Try.prog 22 22 t10_8 x1 h9) h9 fun t12_11 h12 =>
  oP (some true) (nilI x0 h12) h12 fun t13_13 =>
  oD (fieldAddrI Try.prog 44 t13_13 0) h12 fun t14_14 =>
  oS (storeI Try.prog 22 t14_14 t12_11 h12) h12 fun h16 =>
  retK Try.prog [] h16 K
theorem chk24 : chkC Try.prog 15 D24 c24 = true := by kernel_rfl
theorem F24_1_ok (K : IV → Heap → Prop) (a : IAct) (h : Heap) : IC Try.prog 15 D24 c24 (finK Try.prog Try.f24.results.toList K) a h = F24_1 K (a 0) (a 1) h := by kernel_rfl
theorem F24_1_to {K : IV → Heap → Prop} {a : IAct} {h : Heap} (p : F24_1 K (a 0) (a 1) h) : IC Try.prog 15 D24 c24 (finK Try.prog Try.f24.results.toList K) a h := by rw [F24_1_ok]; exact p
theorem F24 {K : IV → Heap → Prop} {x0 x1 : IV} {h : Heap} (p : F24_1 K x0 x1 h) : CallsI Try.prog 24 [x0, x1] h K :=
  CallsI.ofIC Try.mixed Try.func24 rfl (Nat.le_of_ble_eq_true rfl) chk24 (F24_1_to (a := actI [x0, x1]) p)

/-! ### function 25: (*cellplane/cellplaneref07.Disk).Sync -/
def D25 : Nat → DI
  | _ => ⟨[], [], []⟩
noncomputable def c25 : Code := bodyC Try.f25
noncomputable def F25_1 (K : IV → Heap → Prop) (x0 : IV) (h : Heap) : Prop :=
  oP (some true) (nilI x0 h) h fun t4_3 =>
  oD (fieldAddrI Try.prog 44 t4_3 0) h fun t5_4 =>
  oD (loadI Try.prog 22 t5_4 h) h fun t6_5 =>
  oD (lenI Try.prog 22 t6_5) h fun t7_6 =>
  oP (some true) (nilI x0 h) h fun t8_7 =>
  oD (fieldAddrI Try.prog 44 t8_7 1) h fun t9_8 =>
  oS (storeI Try.prog 3 t9_8 t7_6 h) h fun h10 =>
  retK Try.prog [] h10 K
theorem chk25 : chkC Try.prog 10 D25 c25 = true := by kernel_rfl
theorem F25_1_ok (K : IV → Heap → Prop) (a : IAct) (h : Heap) : IC Try.prog 10 D25 c25 (finK Try.prog Try.f25.results.toList K) a h = F25_1 K (a 0) h := by kernel_rfl
theorem F25_1_to {K : IV → Heap → Prop} {a : IAct} {h : Heap} (p : F25_1 K (a 0) h) : IC Try.prog 10 D25 c25 (finK Try.prog Try.f25.results.toList K) a h := by rw [F25_1_ok]; exact p
theorem F25 {K : IV → Heap → Prop} {x0 : IV} {h : Heap} (p : F25_1 K x0 h) : CallsI Try.prog 25 [x0] h K :=
  CallsI.ofIC Try.mixed Try.func25 rfl (Nat.le_of_ble_eq_true rfl) chk25 (F25_1_to (a := actI [x0]) p)

/-! ### function 26: (*cellplane/cellplaneref07.Disk).Truncate -/
def D26 : Nat → DI
  | _ => ⟨[], [], []⟩
noncomputable def c26 : Code := bodyC Try.f26
noncomputable def c26_R : Code := cR c26
noncomputable def c26_RR : Code := cR c26_R
noncomputable def F26_1 (K : IV → Heap → Prop) (x0 x1 : IV) (h : Heap) : Prop :=
  oA (buildSliceV Try.prog 22 0 [] h) h fun t17_2 h3 =>
  oP (some true) (nilI x0 h3) h3 fun t19_5 =>
  oD (fieldAddrI Try.prog 44 t19_5 0) h3 fun t20_6 =>
  oD (loadI Try.prog 22 t20_6 h3) h3 fun t21_7 =>
  oD (sliceI Try.prog 22 t21_7 none (some x1) h3) h3 fun t23_9 =>
  oA (appendI Try.prog 22 22 t17_2 t23_9 h3) h3 fun t24_10 h11 =>
  oP (some true) (nilI x0 h11) h11 fun t25_12 =>
  oD (fieldAddrI Try.prog 44 t25_12 0) h11 fun t26_13 =>
  oS (storeI Try.prog 22 t26_13 t24_10 h11) h11 fun h15 =>
  oP (some true) (nilI x0 h15) h15 fun t29_18 =>
  oD (fieldAddrI Try.prog 44 t29_18 1) h15 fun t30_19 =>
  oD (loadI Try.prog 3 t30_19 h15) h15 fun t31_20 =>
  oD (mmI false t31_20 [x1]) h15 fun t33_22 =>
  oP (some true) (nilI x0 h15) h15 fun t34_23 =>
  oD (fieldAddrI Try.prog 44 t34_23 1) h15 fun t35_24 =>
  oS (storeI Try.prog 3 t35_24 t33_22 h15) h15 fun h26 =>
  retK Try.prog [.v (.int .i64 0)] h26 K
noncomputable def c26_RL : Code := cL c26_R
noncomputable def F26_2g (F26_1 : (IV → Heap → Prop) → IV → IV → Heap → Prop) (K : IV → Heap → Prop) (x0 x1 : IV) (h : Heap) : Prop :=
  oD (binI Try.prog .lss 3 x1 (.int .i64 0)) h fun t6_29 =>
  oG (gW t6_29 false) (some x1) h fun t8_31 =>
  oG (gW t6_29 false) (some x0) h fun t9_32 =>
  oP (gW t6_29 false) (nilI t9_32 h) h fun t10_33 =>
  oG (gW t6_29 false) (fieldAddrI Try.prog 44 t10_33 0) h fun t11_34 =>
  oG (gW t6_29 false) (loadI Try.prog 22 t11_34 h) h fun t12_35 =>
  oG (gW t6_29 false) (lenI Try.prog 22 t12_35) h fun t13_36 =>
  oG (gW t6_29 false) (binI Try.prog .gtr 3 t8_31 t13_36) h fun t14_37 =>
  oP (some true) (pickI t6_29 (.bool true) t14_37 h) h fun t15_38 =>
  bK' t15_38
    (retK Try.prog [.v (.int .i64 1)] h K)
    (F26_1 K x0 x1 h)
noncomputable def F26_2 (K : IV → Heap → Prop) (x0 x1 : IV) (h : Heap) : Prop := F26_2g @F26_1 K x0 x1 h
noncomputable abbrev F26_3 := @F26_2
noncomputable def c26_L : Code := cL c26
noncomputable def F26_4g (F26_3 : (IV → Heap → Prop) → IV → IV → Heap → Prop) (K : IV → Heap → Prop) (x0 x1 : IV) (h : Heap) : Prop :=
  F26_3 K x0 x1 h
noncomputable def F26_4 (K : IV → Heap → Prop) (x0 x1 : IV) (h : Heap) : Prop := F26_4g @F26_3 K x0 x1 h
noncomputable abbrev F26_5 := @F26_4
theorem chk26 : chkC Try.prog 36 D26 c26 = true := by kernel_rfl
theorem F26_1_ok (K : IV → Heap → Prop) (a : IAct) (h : Heap) : IC Try.prog 36 D26 c26_RR (finK Try.prog Try.f26.results.toList K) a h = F26_1 K (a 0) (a 1) h := by kernel_rfl
theorem F26_1_to {K : IV → Heap → Prop} {a : IAct} {h : Heap} (p : F26_1 K (a 0) (a 1) h) : IC Try.prog 36 D26 c26_RR (finK Try.prog Try.f26.results.toList K) a h := by rw [F26_1_ok]; exact p
theorem F26_2_okg (F26_1 : (IV → Heap → Prop) → IV → IV → Heap → Prop) (K : IV → Heap → Prop) (a : IAct) (h : Heap) : IC Try.prog 36 D26 c26_RL (iThen (fun a h => F26_1 K (a 0) (a 1) h) (finK Try.prog Try.f26.results.toList K)) a h = F26_2g F26_1 K (a 0) (a 1) h := by kernel_rfl
theorem F26_2_ok (K : IV → Heap → Prop) (a : IAct) (h : Heap) : IC Try.prog 36 D26 c26_RL (iThen (fun a h => F26_1 K (a 0) (a 1) h) (finK Try.prog Try.f26.results.toList K)) a h = F26_2 K (a 0) (a 1) h := F26_2_okg @F26_1 K a h
theorem F26_2_to {K : IV → Heap → Prop} {a : IAct} {h : Heap} (p : F26_2 K (a 0) (a 1) h) : IC Try.prog 36 D26 c26_RL (iThen (fun a h => F26_1 K (a 0) (a 1) h) (finK Try.prog Try.f26.results.toList K)) a h := by rw [F26_2_ok]; exact p
theorem F26_3_to {K : IV → Heap → Prop} {a : IAct} {h : Heap} (p : F26_2 K (a 0) (a 1) h) : IC Try.prog 36 D26 c26_R (finK Try.prog Try.f26.results.toList K) a h := by
  have e : c26_R = .seq c26_RL c26_RR := by kernel_rfl
  rw [e]; exact IC.mono c26_RL (iThen_mono fun a h p => F26_1_to p) (F26_2_to p)
theorem F26_4_okg (F26_3 : (IV → Heap → Prop) → IV → IV → Heap → Prop) (K : IV → Heap → Prop) (a : IAct) (h : Heap) : IC Try.prog 36 D26 c26_L (iThen (fun a h => F26_3 K (a 0) (a 1) h) (finK Try.prog Try.f26.results.toList K)) a h = F26_4g F26_3 K (a 0) (a 1) h := by kernel_rfl
theorem F26_4_ok (K : IV → Heap → Prop) (a : IAct) (h : Heap) : IC Try.prog 36 D26 c26_L (iThen (fun a h => F26_3 K (a 0) (a 1) h) (finK Try.prog Try.f26.results.toList K)) a h = F26_4 K (a 0) (a 1) h := F26_4_okg @F26_3 K a h
theorem F26_4_to {K : IV → Heap → Prop} {a : IAct} {h : Heap} (p : F26_4 K (a 0) (a 1) h) : IC Try.prog 36 D26 c26_L (iThen (fun a h => F26_3 K (a 0) (a 1) h) (finK Try.prog Try.f26.results.toList K)) a h := by rw [F26_4_ok]; exact p
theorem F26_5_to {K : IV → Heap → Prop} {a : IAct} {h : Heap} (p : F26_4 K (a 0) (a 1) h) : IC Try.prog 36 D26 c26 (finK Try.prog Try.f26.results.toList K) a h := by
  have e : c26 = .seq c26_L c26_R := by kernel_rfl
  rw [e]; exact IC.mono c26_L (iThen_mono fun a h p => F26_3_to p) (F26_4_to p)
theorem F26 {K : IV → Heap → Prop} {x0 x1 : IV} {h : Heap} (p : F26_5 K x0 x1 h) : CallsI Try.prog 26 [x0, x1] h K :=
  CallsI.ofIC Try.mixed Try.func26 rfl (Nat.le_of_ble_eq_true rfl) chk26 (F26_5_to (a := actI [x0, x1]) p)

/-! ### function 27: (*cellplane/cellplaneref07.Disk).Crash -/
def D27 : Nat → DI
  | 0 => ⟨[0, 1, 3, 7, 0, 16, 0, 64, 192, 448, 960, 0, 2048, 6144, 14336, 32704, 65520, 131071, 262143], [0, 1, 2, 3, 4, 5, 6, 7, 8, 9, 10, 11, 12, 13, 14, 15, 16, 17, 18], []⟩
  | _ => ⟨[], [], []⟩
noncomputable def c27 : Code := bodyC Try.f27
noncomputable def c27_R : Code := cR c27
noncomputable def F27_1 (K : IV → Heap → Prop) (x0 x4 : IV) (h : Heap) : Prop :=
  oA (buildSliceV Try.prog 22 0 [] h) h fun t24_2 h3 =>
  oP (some true) (nilI x0 h3) h3 fun t26_5 =>
  oD (fieldAddrI Try.prog 44 t26_5 0) h3 fun t27_6 =>
  oD (loadI Try.prog 22 t27_6 h3) h3 fun t28_7 =>
  oD (sliceI Try.prog 22 t28_7 none (some x4) h3) h3 fun t30_9 =>
  oA (appendI Try.prog 22 22 t24_2 t30_9 h3) h3 fun t31_10 h11 =>
  oP (some true) (nilI x0 h11) h11 fun t32_12 =>
  oD (fieldAddrI Try.prog 44 t32_12 0) h11 fun t33_13 =>
  oS (storeI Try.prog 22 t33_13 t31_10 h11) h11 fun h15 =>
  oP (some true) (nilI x0 h15) h15 fun t36_18 =>
  oD (fieldAddrI Try.prog 44 t36_18 1) h15 fun t37_19 =>
  oS (storeI Try.prog 3 t37_19 x4 h15) h15 fun h21 =>
  retK Try.prog [] h21 K
noncomputable def c27_L : Code := cL c27
noncomputable def F27_2g (F27_1 : (IV → Heap → Prop) → IV → IV → Heap → Prop) (K : IV → Heap → Prop) (x0 x1 : IV) (h : Heap) : Prop :=
  oP (some true) (nilI x0 h) h fun t6_23 =>
  oD (fieldAddrI Try.prog 44 t6_23 1) h fun t7_24 =>
  oD (loadI Try.prog 3 t7_24 h) h fun t8_25 =>
  oD (mmI true x1 [.int .i64 0]) h fun t10_27 =>
  oP (some true) (nilI x0 h) h fun t12_29 =>
  oD (fieldAddrI Try.prog 44 t12_29 0) h fun t13_30 =>
  oD (loadI Try.prog 22 t13_30 h) h fun t14_31 =>
  oD (lenI Try.prog 22 t14_31) h fun t15_32 =>
  oP (some true) (nilI x0 h) h fun t17_34 =>
  oD (fieldAddrI Try.prog 44 t17_34 1) h fun t18_35 =>
  oD (loadI Try.prog 3 t18_35 h) h fun t19_36 =>
  oD (binI Try.prog .sub 3 t15_32 t19_36) h fun t20_37 =>
  oD (mmI false t10_27 [t20_37]) h fun t21_38 =>
  oD (binI Try.prog .add 3 t8_25 t21_38) h fun t22_39 =>
  F27_1 K x0 t22_39 h
noncomputable def F27_2 (K : IV → Heap → Prop) (x0 x1 : IV) (h : Heap) : Prop := F27_2g @F27_1 K x0 x1 h
noncomputable abbrev F27_3 := @F27_2
theorem chk27 : chkC Try.prog 38 D27 c27 = true := by kernel_rfl
theorem F27_1_ok (K : IV → Heap → Prop) (a : IAct) (h : Heap) : IC Try.prog 38 D27 c27_R (finK Try.prog Try.f27.results.toList K) a h = F27_1 K (a 0) (a 4) h := by kernel_rfl
theorem F27_1_to {K : IV → Heap → Prop} {a : IAct} {h : Heap} (p : F27_1 K (a 0) (a 4) h) : IC Try.prog 38 D27 c27_R (finK Try.prog Try.f27.results.toList K) a h := by rw [F27_1_ok]; exact p
theorem F27_2_okg (F27_1 : (IV → Heap → Prop) → IV → IV → Heap → Prop) (K : IV → Heap → Prop) (a : IAct) (h : Heap) : IC Try.prog 38 D27 c27_L (iThen (fun a h => F27_1 K (a 0) (a 4) h) (finK Try.prog Try.f27.results.toList K)) a h = F27_2g F27_1 K (a 0) (a 1) h := by kernel_rfl
theorem F27_2_ok (K : IV → Heap → Prop) (a : IAct) (h : Heap) : IC Try.prog 38 D27 c27_L (iThen (fun a h => F27_1 K (a 0) (a 4) h) (finK Try.prog Try.f27.results.toList K)) a h = F27_2 K (a 0) (a 1) h := F27_2_okg @F27_1 K a h
theorem F27_2_to {K : IV → Heap → Prop} {a : IAct} {h : Heap} (p : F27_2 K (a 0) (a 1) h) : IC Try.prog 38 D27 c27_L (iThen (fun a h => F27_1 K (a 0) (a 4) h) (finK Try.prog Try.f27.results.toList K)) a h := by rw [F27_2_ok]; exact p
theorem F27_3_to {K : IV → Heap → Prop} {a : IAct} {h : Heap} (p : F27_2 K (a 0) (a 1) h) : IC Try.prog 38 D27 c27 (finK Try.prog Try.f27.results.toList K) a h := by
  have e : c27 = .seq c27_L c27_R := by kernel_rfl
  rw [e]; exact IC.mono c27_L (iThen_mono fun a h p => F27_1_to p) (F27_2_to p)
theorem F27 {K : IV → Heap → Prop} {x0 x1 : IV} {h : Heap} (p : F27_3 K x0 x1 h) : CallsI Try.prog 27 [x0, x1] h K :=
  CallsI.ofIC Try.mixed Try.func27 rfl (Nat.le_of_ble_eq_true rfl) chk27 (F27_3_to (a := actI [x0, x1]) p)

end Go.Ideal
