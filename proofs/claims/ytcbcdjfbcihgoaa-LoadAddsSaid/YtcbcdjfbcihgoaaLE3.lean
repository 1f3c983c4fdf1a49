/- Part of a proof: functions of the program over an ideal memory, and what they compute. No condition. -/
import Derived.Test.YtcbcdjfbcihgoaaLE2
set_option linter.unusedVariables false
set_option linter.unusedSimpArgs false
namespace Go.Ideal
open Go.Proofs
set_option maxRecDepth 100000
noncomputable section
variable {K : KT} {a : IAct} {h : Heap}
namespace Z15
def D : Nat → DI
  | 3 => ⟨[0, 0, 3, 0, 0, 0, 63, 127, 255], [0, 1, 3, 4, 5, 2, 6, 7, 8], []⟩
  | 7 => ⟨[0, 0, 0, 7, 15, 31, 63, 63, 255, 511, 63, 63, 3135, 7231, 16383, 63, 32831, 131071, 262143], [0, 1, 2, 3, 4, 5, 6, 7, 8, 9, 10, 11, 12, 13, 14, 15, 16, 17, 18], []⟩
  | _ => ⟨[], [], []⟩
abbrev I := ICx PP 60 D
def c0 : Code := bodyN Try.f23
def c1 : Code := cR c0
def c2 : Code := cR c1
def c3 : Code := cR c2
def c4 : Code := cR c3
def c5 : Code := cL c3
def c6 : Code := cR c5
def c7 : Code := cL c6
def c8 : Code := cL c7
def c9 : Code := cR c8
def c10 : Code := cR c9
def c11 : Code := cR c10
def c12 : Code := cL c10
def c13 : Code := cL c9
def c14 : Code := cL c8
def c15 : Code := cL c5
def c16 : Code := cL c2
def c17 : Code := cL c1
def c18 : Code := cL c0
abbrev q1 (K : KT) : QT := finK PP Try.f23.results.toList K
def j7 (K : KT) (x3 x4 x5 : IV) (h : Heap) : Prop :=
 oA (Zp PP Zy h) h fun v1 h1 =>
 oS (Z9 PP Zy v1 (.bool true) h1) h1 fun h2 =>
 oD (Z1 PP Z6 x3 h2) h2 fun v2 =>
 oD (Z1 PP Z3 x4 h2) h2 fun v3 =>
 oV (.fn Z3q [x3, x5, x4, v1]) h2 fun v4 =>
 Z5 PP Z2g [v2, v3, v4] h2 fun v5 h3 =>
 oD (Z1 PP Zy v1 h3) h3 fun v6 =>
 oV v6 h3 fun v7 =>
 Zd PP [.v v7] h3 K
abbrev q2 (j7 : G3) (K : KT) : QT := Z4 (fun a h => j7 K (a 3) (a 4) (a 5) h) (q1 K)
abbrev q3 (j7 : G3) (K : KT) : QT := Zq 0 (q2 j7 K)
def l1 (K : KT) (x3 x4 x5 x7 x8 x28 x29 x30 : IV) (h : Heap) : Prop := ∀ a : IAct, a 3 = x3 → a 4 = x4 → a 5 = x5 → a 7 = x7 → a 8 = x8 → a 28 = x28 → a 29 = x29 → a 30 = x30 → ILoop PP 60 c8 (q3 j7 K) a h
abbrev q4 (l1 : G8) (j7 : G3) (K : KT) : QT := Z4 (fun a h => l1 K (a 3) (a 4) (a 5) (a 7) (a 8) (a 28) (a 29) (a 30) h) (q3 j7 K)
def j6g (l1 : G8) (j7 : G3) (K : KT) (x3 x4 x5 x7 x8 x28 x29 x30 : IV) (h : Heap) : Prop :=
 oD (Z7 PP .add Z0 x30 (.int .i64 1)) h fun v1 =>
 oV v1 h fun v2 =>
 l1 K x3 x4 x5 x7 x8 x28 x29 v2 h
abbrev j6 : G8 := j6g l1 j7
abbrev q5 (j6 : G8) (l1 : G8) (j7 : G3) (K : KT) : QT := Z4 (fun a h => j6 K (a 3) (a 4) (a 5) (a 7) (a 8) (a 28) (a 29) (a 30) h) (q4 l1 j7 K)
def j5g (j6 : G8) (l1 : G8) (j7 : G3) (K : KT) (x3 x4 x5 x7 x8 x28 x29 x30 : IV) (h : Heap) : Prop :=
 oV x30 h fun v1 =>
 oD (Zf PP Zn x28 x30 h) h fun v2 =>
 oD (Z1 PP Zz v2 h) h fun v3 =>
 oA (Zp PP Zz h) h fun v4 h1 =>
 oV v1 h1 fun v5 =>
 oS (Z9 PP Zz v4 v3 h1) h1 fun h2 =>
 oD (Z1 PP Z6 x3 h2) h2 fun v6 =>
 oV v5 h2 fun v7 =>
 oD (Z1 PP Z0 x5 h2) h2 fun v8 =>
 Z5 PP Z25 [v6, v7, v8] h2 fun v9 h3 => oB (True) <|
 oD (unI .not v9) h3 fun v10 =>
 oV v10 h3 fun v11 =>
 oG (gW v11 true) (some x7) h3 fun v12 =>
 oG (gW v11 true) (some v5) h3 fun v13 =>
 oG (gW v11 true) (Zf PP Zk v12 v13 h3) h3 fun v14 =>
 oG (gW v11 true) (Z1 PP Z0 v14 h3) h3 fun v15 =>
 oG (gW v11 true) (some x8) h3 fun v16 =>
 oG (gW v11 true) (some v5) h3 fun v17 =>
 oG (gW v11 true) (Zf PP Zk v16 v17 h3) h3 fun v18 =>
 oG (gW v11 true) (Z1 PP Z0 v18 h3) h3 fun v19 =>
 oG (gW v11 true) (Z7 PP .add Z0 v15 v19) h3 fun v20 =>
 oG (gW v11 true) (Z2 PP Zz v4 1) h3 fun v21 =>
 oG (gW v11 true) (Z1 PP Z0 v21 h3) h3 fun v22 =>
 oG (gW v11 true) (Z7 PP .gtr Z0 v20 v22) h3 fun v23 =>
 oP sT (Ze v11 v23 (.bool false) h3) h3 fun v24 =>
 bK' v24
   (oV (.bool false) h3 fun v25 =>
   Zd PP [.v v25] h3 K)
   (j6 K x3 x4 x5 x7 x8 x28 x29 x30 h3)
abbrev j5 : G8 := j5g j6 l1 j7
abbrev q6 (j5 : G8) (l1 : G8) (j7 : G3) (K : KT) : QT := Z4 (fun a h => j5 K (a 3) (a 4) (a 5) (a 7) (a 8) (a 28) (a 29) (a 30) h) (q4 l1 j7 K)
def j4g (j5 : G8) (l1 : G8) (j7 : G3) (K : KT) (x3 x4 x5 x7 x8 x28 x29 x30 x31 : IV) (h : Heap) : Prop :=
 bK' x31
   (j5 K x3 x4 x5 x7 x8 x28 x29 x30 h)
   (j7 K x3 x4 x5 h)
abbrev j4 : G9 := j4g j5 l1 j7
abbrev q7 (j4 : G9) (l1 : G8) (j7 : G3) (K : KT) : QT := Z4 (fun a h => j4 K (a 3) (a 4) (a 5) (a 7) (a 8) (a 28) (a 29) (a 30) (a 31) h) (q4 l1 j7 K)
def b1g (j4 : G9) (l1 : G8) (j7 : G3) (K : KT) (x3 x4 x5 x7 x8 x28 x29 x30 : IV) (h : Heap) : Prop :=
 oD (Z7 PP .lss Z0 x30 x29) h fun v1 =>
 j4 K x3 x4 x5 x7 x8 x28 x29 x30 v1 h
abbrev b1 : G8 := b1g j4 l1 j7
abbrev q8 (l1 : G8) (j7 : G3) (K : KT) : QT := Z4 (fun a h => l1 K (a 3) (a 4) (a 5) (a 7) (a 8) (a 28) (a 29) (a 30) h) (q2 j7 K)
def j3g (l1 : G8) (j7 : G3) (K : KT) (x3 x4 x5 x7 x8 : IV) (h : Heap) : Prop :=
 oD (Z2 PP Z6 x3 2) h fun v1 =>
 oD (Z1 PP Zn v1 h) h fun v2 =>
 oD (lenI PP Zn v2) h fun v3 =>
 oV (.int .i64 0) h fun v4 =>
 l1 K x3 x4 x5 x7 x8 v2 v3 v4 h
abbrev j3 : G5 := j3g l1 j7
abbrev q9 (j3 : G5) (K : KT) : QT := Z4 (fun a h => j3 K (a 3) (a 4) (a 5) (a 7) (a 8) h) (q1 K)
def j2g (j3 : G5) (K : KT) (x3 x4 x5 : IV) (h : Heap) : Prop :=
 oD (Z1 PP Z6 x3 h) h fun v1 =>
 oD (Z1 PP Z3 x4 h) h fun v2 =>
 oD (Z1 PP Z6 x3 h) h fun v3 =>
 oD (Z1 PP Z3 x4 h) h fun v4 =>
 oD (Z1 PP Z0 x5 h) h fun v5 =>
 Z5 PP Z1z [v1, v2] h fun v6 h1 => oB ((Zb (Z1 PP Z0 x5 h1) v5 h1) ∧ (Zb (Z1 PP Z3 x4 h1) v4 h1) ∧ (Zb (Z1 PP Z6 x3 h1) v3 h1) ∧ True) <|
 Z5 PP Z2w [v3, v4, v5] h1 fun v7 h2 => oB (True) <|
 oV v6 h2 fun v8 =>
 oV v7 h2 fun v9 =>
 j3 K x3 x4 x5 v8 v9 h2
abbrev j2 : G3 := j2g j3
abbrev q10 (j2 : G3) (K : KT) : QT := Z4 (fun a h => j2 K (a 3) (a 4) (a 5) h) (q1 K)
def j1g (j2 : G3) (K : KT) (x3 x4 x5 : IV) (h : Heap) : Prop :=
 oD (Z1 PP Z0 x5 h) h fun v1 =>
 oD (Z7 PP .lss Z0 v1 (.int .i64 0)) h fun v2 =>
 oV v2 h fun v3 =>
 oG (gW v3 false) (Z1 PP Z0 x5 h) h fun v4 =>
 oG (gW v3 false) (Z2 PP Z6 x3 0) h fun v5 =>
 oG (gW v3 false) (Z1 PP Z0 v5 h) h fun v6 =>
 oG (gW v3 false) (Z7 PP .geq Z0 v4 v6) h fun v7 =>
 oP sT (Ze v3 (.bool true) v7 h) h fun v8 =>
 bK' v8
   (oV (.bool false) h fun v9 =>
   Zd PP [.v v9] h K)
   (j2 K x3 x4 x5 h)
abbrev j1 : G3 := j1g j2
abbrev q11 (j1 : G3) (K : KT) : QT := Z4 (fun a h => j1 K (a 3) (a 4) (a 5) h) (q1 K)
def eg (j1 : G3) (K : KT) (x0 x1 x2 : IV) (h : Heap) : Prop :=
 oA (Zi Z6 x0 h) h fun v1 h1 =>
 oA (Zi Z3 x1 h1) h1 fun v2 h2 =>
 oA (Zi Z0 x2 h2) h2 fun v3 h3 =>
 oV (.bool false) h3 fun v4 =>
 j1 K v1 v2 v3 h3
abbrev e : G3 := eg j1
theorem u4 (p : j7 K (a 3) (a 4) (a 5) h) : I c4 (q1 K) a h := ICx.to p
theorem j6_ok (l1 : G8) (j7 : G3) : I c11 (q4 l1 j7 K) a h = j6g l1 j7 K (a 3) (a 4) (a 5) (a 7) (a 8) (a 28) (a 29) (a 30) h := by kernel_rfl
theorem u11 (p : j6 K (a 3) (a 4) (a 5) (a 7) (a 8) (a 28) (a 29) (a 30) h) : I c11 (q4 l1 j7 K) a h := ICx.to p (j6_ok l1 j7)
theorem j5_ok (j6 : G8) (l1 : G8) (j7 : G3) : I c12 (q5 j6 l1 j7 K) a h = j5g j6 l1 j7 K (a 3) (a 4) (a 5) (a 7) (a 8) (a 28) (a 29) (a 30) h := by kernel_rfl
theorem u12 (p : j5 K (a 3) (a 4) (a 5) (a 7) (a 8) (a 28) (a 29) (a 30) h) : I c12 (q5 j6 l1 j7 K) a h := ICx.to p (j5_ok j6 l1 j7)
theorem u10 (p : j5 K (a 3) (a 4) (a 5) (a 7) (a 8) (a 28) (a 29) (a 30) h) : I c10 (q4 l1 j7 K) a h := ICx.sq (fun _ _ => u11) (u12 p)
theorem j4_ok (j5 : G8) (l1 : G8) (j7 : G3) : I c13 (q6 j5 l1 j7 K) a h = j4g j5 l1 j7 K (a 3) (a 4) (a 5) (a 7) (a 8) (a 28) (a 29) (a 30) (a 31) h := by kernel_rfl
theorem u13 (p : j4 K (a 3) (a 4) (a 5) (a 7) (a 8) (a 28) (a 29) (a 30) (a 31) h) : I c13 (q6 j5 l1 j7 K) a h := ICx.to p (j4_ok j5 l1 j7)
theorem u9 (p : j4 K (a 3) (a 4) (a 5) (a 7) (a 8) (a 28) (a 29) (a 30) (a 31) h) : I c9 (q4 l1 j7 K) a h := ICx.sq (fun _ _ => u10) (u13 p)
theorem b1_ok (j4 : G9) (l1 : G8) (j7 : G3) : I c14 (q7 j4 l1 j7 K) a h = b1g j4 l1 j7 K (a 3) (a 4) (a 5) (a 7) (a 8) (a 28) (a 29) (a 30) h := by kernel_rfl
theorem u14 (p : b1 K (a 3) (a 4) (a 5) (a 7) (a 8) (a 28) (a 29) (a 30) h) : I c14 (q7 j4 l1 j7 K) a h := ICx.to p (b1_ok j4 l1 j7)
theorem u8 (p : b1 K (a 3) (a 4) (a 5) (a 7) (a 8) (a 28) (a 29) (a 30) h) : I c8 (q4 l1 j7 K) a h := ICx.sq (fun _ _ => u9) (u14 p)
theorem u7 (p : l1 K (a 3) (a 4) (a 5) (a 7) (a 8) (a 28) (a 29) (a 30) h) : I c7 (q3 j7 K) a h := ICx.lp (p a rfl rfl rfl rfl rfl rfl rfl rfl)
theorem l1_round {x3 x4 x5 x7 x8 x28 x29 x30 : IV} (p : b1 K x3 x4 x5 x7 x8 x28 x29 x30 h) : l1 K x3 x4 x5 x7 x8 x28 x29 x30 h := by
  intro a e3 e4 e5 e7 e8 e28 e29 e30
  subst e3; subst e4; subst e5; subst e7; subst e8; subst e28; subst e29; subst e30; exact ICx.round Try.mixed (D := D) (L := fun a h => l1 K (a 3) (a 4) (a 5) (a 7) (a 8) (a 28) (a 29) (a 30) h) (fun a h p => p a rfl rfl rfl rfl rfl rfl rfl rfl) (u8 p)
theorem u6 (p : l1 K (a 3) (a 4) (a 5) (a 7) (a 8) (a 28) (a 29) (a 30) h) : I c6 (q2 j7 K) a h := ICx.blk (u7 p)
theorem j3_ok (l1 : G8) (j7 : G3) : I c15 (q8 l1 j7 K) a h = j3g l1 j7 K (a 3) (a 4) (a 5) (a 7) (a 8) h := by kernel_rfl
theorem u15 (p : j3 K (a 3) (a 4) (a 5) (a 7) (a 8) h) : I c15 (q8 l1 j7 K) a h := ICx.to p (j3_ok l1 j7)
theorem u5 (p : j3 K (a 3) (a 4) (a 5) (a 7) (a 8) h) : I c5 (q2 j7 K) a h := ICx.sq (fun _ _ => u6) (u15 p)
theorem u3 (p : j3 K (a 3) (a 4) (a 5) (a 7) (a 8) h) : I c3 (q1 K) a h := ICx.sq (fun _ _ => u4) (u5 p)
theorem j2_ok (j3 : G5) : I c16 (q9 j3 K) a h = j2g j3 K (a 3) (a 4) (a 5) h := by kernel_rfl
theorem u16 (p : j2 K (a 3) (a 4) (a 5) h) : I c16 (q9 j3 K) a h := ICx.to p (j2_ok j3)
theorem u2 (p : j2 K (a 3) (a 4) (a 5) h) : I c2 (q1 K) a h := ICx.sq (fun _ _ => u3) (u16 p)
theorem j1_ok (j2 : G3) : I c17 (q10 j2 K) a h = j1g j2 K (a 3) (a 4) (a 5) h := by kernel_rfl
theorem u17 (p : j1 K (a 3) (a 4) (a 5) h) : I c17 (q10 j2 K) a h := ICx.to p (j1_ok j2)
theorem u1 (p : j1 K (a 3) (a 4) (a 5) h) : I c1 (q1 K) a h := ICx.sq (fun _ _ => u2) (u17 p)
theorem e_ok (j1 : G3) : I c18 (q11 j1 K) a h = eg j1 K (a 0) (a 1) (a 2) h := by kernel_rfl
theorem u18 (p : e K (a 0) (a 1) (a 2) h) : I c18 (q11 j1 K) a h := ICx.to p (e_ok j1)
theorem u0 (p : e K (a 0) (a 1) (a 2) h) : I c0 (q1 K) a h := ICx.sq (fun _ _ => u1) (u18 p)
theorem call {x0 x1 x2 : IV} (p : e K x0 x1 x2 h) : Z5 PP Z23 [x0, x1, x2] h K :=
  ICx.fn Try.mixed Try.func23 rfl (Nat.le_of_ble_eq_true rfl) (u0 (a := actI [x0, x1, x2]) p)
end Z15
namespace ZP
def D : Nat → DI
  | 3 => ⟨[0, 0, 3, 0, 0, 0, 63, 127, 255], [0, 1, 3, 4, 5, 2, 6, 7, 8], []⟩
  | 7 => ⟨[0, 0, 3, 0, 15, 31, 63, 63, 255, 511, 63, 63, 3135, 7231, 16383, 63, 32831, 63, 229439, 491583, 1015871, 2097151, 4194303], [0, 1, 3, 2, 4, 5, 6, 7, 8, 9, 10, 11, 12, 13, 14, 15, 16, 17, 18, 19, 20, 21, 22], []⟩
  | _ => ⟨[], [], []⟩
abbrev I := ICx PP 108 D
def c0 : Code := bodyN Try.f24
def c1 : Code := cR c0
def c2 : Code := cR c1
def c3 : Code := cR c2
def c4 : Code := cR c3
def c5 : Code := cR c4
def c6 : Code := cL c4
def c7 : Code := cR c6
def c8 : Code := cL c7
def c9 : Code := cL c8
def c10 : Code := cR c9
def c11 : Code := cR c10
def c12 : Code := cL c10
def c13 : Code := cL c12
def c14 : Code := cR c13
def c15 : Code := cR c14
def c16 : Code := cR c15
def c17 : Code := cR c16
def c18 : Code := cL c16
def c19 : Code := cL c15
def c20 : Code := cL c14
def c21 : Code := cL c13
def c22 : Code := cL c9
def c23 : Code := cL c6
def c24 : Code := cL c3
def c25 : Code := cR c24
def c26 : Code := cL c25
def c27 : Code := cL c26
def c28 : Code := cR c27
def c29 : Code := cR c28
def c30 : Code := cL c28
def c31 : Code := cL c27
def c32 : Code := cL c24
def c33 : Code := cL c2
def c34 : Code := cL c1
def c35 : Code := cL c0
abbrev q1 (K : KT) : QT := finK PP Try.f24.results.toList K
def j13 (K : KT) (h : Heap) : Prop :=
 oV (.bool true) h fun v1 =>
 Zd PP [.v v1] h K
abbrev q2 (j13 : G0) (K : KT) : QT := Z4 (fun a h => j13 K h) (q1 K)
abbrev q3 (j13 : G0) (K : KT) : QT := Zq 2 (q2 j13 K)
def l2 (K : KT) (x2 x3 x4 x10 : IV) (h : Heap) : Prop := ∀ a : IAct, a 2 = x2 → a 3 = x3 → a 4 = x4 → a 10 = x10 → ILoop PP 108 c9 (q3 j13 K) a h
abbrev q4 (l2 : G4) (j13 : G0) (K : KT) : QT := Z4 (fun a h => l2 K (a 2) (a 3) (a 4) (a 10) h) (q3 j13 K)
def j12g (l2 : G4) (j13 : G0) (K : KT) (x2 x3 x4 x10 : IV) (h : Heap) : Prop :=
 oV x10 h fun v1 =>
 oD (Z7 PP .add Z0 v1 (.int .i64 1)) h fun v2 =>
 oV v2 h fun v3 =>
 l2 K x2 x3 x4 v3 h
abbrev j12 : G4 := j12g l2 j13
abbrev q5 (j12 : G4) (l2 : G4) (j13 : G0) (K : KT) : QT := Z4 (fun a h => j12 K (a 2) (a 3) (a 4) (a 10) h) (q4 l2 j13 K)
abbrev q6 (j12 : G4) (l2 : G4) (j13 : G0) (K : KT) : QT := Zq 3 (q5 j12 l2 j13 K)
def j11g (j12 : G4) (l2 : G4) (j13 : G0) (K : KT) (x2 x3 x4 x10 x11 : IV) (h : Heap) : Prop :=
 oD (Z2 PP Z3 x4 3) h fun v1 =>
 oD (Z1 PP Zl v1 h) h fun v2 =>
 oD (Z2 PP Za x11 3) h fun v3 =>
 oD (Z1 PP Z0 v3 h) h fun v4 =>
 oD (Zf PP Zl v2 v4 h) h fun v5 =>
 oD (Z1 PP Zj v5 h) h fun v6 =>
 oA (Zp PP Zj h) h fun v7 h1 =>
 oS (Z9 PP Zj v7 v6 h1) h1 fun h2 =>
 oD (Z2 PP Zj v7 0) h2 fun v8 =>
 oD (Z1 PP Z0 v8 h2) h2 fun v9 =>
 oD (Z7 PP .neq Z0 v9 (.int .i64 1)) h2 fun v10 =>
 oV v10 h2 fun v11 =>
 oG (gW v11 false) (Z2 PP Zj v7 1) h2 fun v12 =>
 oG (gW v11 false) (Z1 PP Z0 v12 h2) h2 fun v13 =>
 oG (gW v11 false) (Z2 PP Zj v7 2) h2 fun v14 =>
 oG (gW v11 false) (Z1 PP Z0 v14 h2) h2 fun v15 =>
 oG (gW v11 false) (Z7 PP .neq Z0 v13 v15) h2 fun v16 =>
 oP sT (Ze v11 (.bool true) v16 h2) h2 fun v17 =>
 bK' v17
   (oV (.bool false) h2 fun v18 =>
   Zd PP [.v v18] h2 K)
   (j12 K x2 x3 x4 x10 h2)
abbrev j11 : G5 := j11g j12 l2 j13
abbrev q7 (j11 : G5) (j12 : G4) (l2 : G4) (j13 : G0) (K : KT) : QT := Z4 (fun a h => j11 K (a 2) (a 3) (a 4) (a 10) (a 11) h) (q6 j12 l2 j13 K)
def j10g (j11 : G5) (j12 : G4) (l2 : G4) (j13 : G0) (K : KT) (x2 x3 x4 x10 x11 x12 : IV) (h : Heap) : Prop :=
 oV x12 h fun v1 =>
 oD (Z7 PP .lss Z0 v1 (.int .i64 0)) h fun v2 =>
 oV v2 h fun v3 =>
 oG (gW v3 false) (some x12) h fun v4 =>
 oG (gW v3 false) (some x2) h fun v5 =>
 oG (gW v3 false) (Z7 PP .eql Z0 v4 v5) h fun v6 =>
 oP sT (Ze v3 (.bool true) v6 h) h fun v7 =>
 oV v7 h fun v8 =>
 oG (gW v8 false) (Z2 PP Z3 x4 5) h fun v9 =>
 oG (gW v8 false) (Z1 PP Z0 v9 h) h fun v10 =>
 oG (gW v8 false) (some x12) h fun v11 =>
 Zm PP (gW v8 false) Z1S [v10, v11] h fun v12 h1 =>
 oP sT (Ze v8 (.bool true) v12 h1) h1 fun v13 =>
 bK' v13
   (oV (.bool false) h1 fun v14 =>
   Zd PP [.v v14] h1 K)
   (j11 K x2 x3 x4 x10 x11 h1)
abbrev j10 : G6 := j10g j11 j12 l2 j13
abbrev q8 (j10 : G6) (j12 : G4) (l2 : G4) (j13 : G0) (K : KT) : QT := Z4 (fun a h => j10 K (a 2) (a 3) (a 4) (a 10) (a 11) (a 12) h) (q6 j12 l2 j13 K)
def j9g (j10 : G6) (j12 : G4) (l2 : G4) (j13 : G0) (K : KT) (x2 x3 x4 x10 x11 : IV) (h : Heap) : Prop :=
 oD (Z1 PP Z6 x3 h) h fun v1 =>
 oD (Z2 PP Za x11 3) h fun v2 =>
 oD (Z1 PP Z0 v2 h) h fun v3 =>
 Z5 PP Z1l [v1, v3] h fun v4 h1 =>
 oV v4 h1 fun v5 =>
 j10 K x2 x3 x4 x10 x11 v5 h1
abbrev j9 : G5 := j9g j10 j12 l2 j13
abbrev q9 (j9 : G5) (j12 : G4) (l2 : G4) (j13 : G0) (K : KT) : QT := Z4 (fun a h => j9 K (a 2) (a 3) (a 4) (a 10) (a 11) h) (q6 j12 l2 j13 K)
def j8g (j9 : G5) (j12 : G4) (l2 : G4) (j13 : G0) (K : KT) (x2 x3 x4 x10 x11 : IV) (h : Heap) : Prop :=
 oD (Z1 PP Z6 x3 h) h fun v1 =>
 oD (Z1 PP Za x11 h) h fun v2 =>
 oV x2 h fun v3 =>
 Z5 PP Z2W [v1, v2, v3] h fun v4 h1 =>
 oD (unI .not v4) h1 fun v5 =>
 bK' v5
   (j12 K x2 x3 x4 x10 h1)
   (j9 K x2 x3 x4 x10 x11 h1)
abbrev j8 : G5 := j8g j9 j12 l2 j13
abbrev q10 (j8 : G5) (j12 : G4) (l2 : G4) (j13 : G0) (K : KT) : QT := Z4 (fun a h => j8 K (a 2) (a 3) (a 4) (a 10) (a 11) h) (q6 j12 l2 j13 K)
def j7g (j8 : G5) (j12 : G4) (l2 : G4) (j13 : G0) (K : KT) (x2 x3 x4 x10 : IV) (h : Heap) : Prop :=
 oD (Z2 PP Z3 x4 2) h fun v1 =>
 oD (Z1 PP Zh v1 h) h fun v2 =>
 oV x10 h fun v3 =>
 oD (Zf PP Zh v2 v3 h) h fun v4 =>
 oD (Z1 PP Za v4 h) h fun v5 =>
 oA (Zp PP Za h) h fun v6 h1 =>
 oS (Z9 PP Za v6 v5 h1) h1 fun h2 =>
 j8 K x2 x3 x4 x10 v6 h2
abbrev j7 : G4 := j7g j8 j12 l2 j13
abbrev q11 (j7 : G4) (l2 : G4) (j13 : G0) (K : KT) : QT := Z4 (fun a h => j7 K (a 2) (a 3) (a 4) (a 10) h) (q4 l2 j13 K)
def b2g (j7 : G4) (l2 : G4) (j13 : G0) (K : KT) (x2 x3 x4 x10 : IV) (h : Heap) : Prop :=
 oV x10 h fun v1 =>
 oD (Z2 PP Z3 x4 2) h fun v2 =>
 oD (Z1 PP Zh v2 h) h fun v3 =>
 oD (lenI PP Zh v3) h fun v4 =>
 oD (Z7 PP .lss Z0 v1 v4) h fun v5 =>
 bK' v5
   (j7 K x2 x3 x4 x10 h)
   (j13 K h)
abbrev b2 : G4 := b2g j7 l2 j13
abbrev q12 (l2 : G4) (j13 : G0) (K : KT) : QT := Z4 (fun a h => l2 K (a 2) (a 3) (a 4) (a 10) h) (q2 j13 K)
def j6g (l2 : G4) (j13 : G0) (K : KT) (x2 x3 x4 : IV) (h : Heap) : Prop :=
 oV (.int .i64 0) h fun v1 =>
 l2 K x2 x3 x4 v1 h
abbrev j6 : G3 := j6g l2 j13
abbrev q13 (j6 : G3) (K : KT) : QT := Z4 (fun a h => j6 K (a 2) (a 3) (a 4) h) (q1 K)
abbrev q14 (j6 : G3) (K : KT) : QT := Zq 0 (q13 j6 K)
def l1 (K : KT) (x2 x3 x4 x7 x8 x9 : IV) (h : Heap) : Prop := ∀ a : IAct, a 2 = x2 → a 3 = x3 → a 4 = x4 → a 7 = x7 → a 8 = x8 → a 9 = x9 → ILoop PP 108 c27 (q14 j6 K) a h
abbrev q15 (l1 : G6) (j6 : G3) (K : KT) : QT := Z4 (fun a h => l1 K (a 2) (a 3) (a 4) (a 7) (a 8) (a 9) h) (q14 j6 K)
def j5g (l1 : G6) (j6 : G3) (K : KT) (x2 x3 x4 x7 x8 x9 : IV) (h : Heap) : Prop :=
 oV x9 h fun v1 =>
 oD (Z7 PP .add Z0 v1 (.int .i64 1)) h fun v2 =>
 oV v2 h fun v3 =>
 l1 K x2 x3 x4 x7 x8 v3 h
abbrev j5 : G6 := j5g l1 j6
abbrev q16 (j5 : G6) (l1 : G6) (j6 : G3) (K : KT) : QT := Z4 (fun a h => j5 K (a 2) (a 3) (a 4) (a 7) (a 8) (a 9) h) (q15 l1 j6 K)
def j4g (j5 : G6) (l1 : G6) (j6 : G3) (K : KT) (x2 x3 x4 x7 x8 x9 : IV) (h : Heap) : Prop :=
 oD (Z1 PP Z6 x3 h) h fun v1 =>
 oV x9 h fun v2 =>
 oV x2 h fun v3 =>
 Z5 PP Z1l [v1, v2] h fun v4 h1 => oB (True) <|
 oD (Z7 PP .neq Z0 v4 v3) h1 fun v5 =>
 oV v5 h1 fun v6 =>
 oG (gW v6 true) (some x7) h1 fun v7 =>
 oG (gW v6 true) (some x9) h1 fun v8 =>
 oG (gW v6 true) (Zf PP Zk v7 v8 h1) h1 fun v9 =>
 oG (gW v6 true) (Z1 PP Z0 v9 h1) h1 fun v10 =>
 oG (gW v6 true) (some x8) h1 fun v11 =>
 oG (gW v6 true) (some x9) h1 fun v12 =>
 oG (gW v6 true) (Zf PP Zk v11 v12 h1) h1 fun v13 =>
 oG (gW v6 true) (Z1 PP Z0 v13 h1) h1 fun v14 =>
 oG (gW v6 true) (Z7 PP .add Z0 v10 v14) h1 fun v15 =>
 oG (gW v6 true) (Z2 PP Z6 x3 2) h1 fun v16 =>
 oG (gW v6 true) (Z1 PP Zn v16 h1) h1 fun v17 =>
 oG (gW v6 true) (some x9) h1 fun v18 =>
 oG (gW v6 true) (Zf PP Zn v17 v18 h1) h1 fun v19 =>
 oG (gW v6 true) (Z2 PP Zz v19 1) h1 fun v20 =>
 oG (gW v6 true) (Z1 PP Z0 v20 h1) h1 fun v21 =>
 oG (gW v6 true) (Z7 PP .gtr Z0 v15 v21) h1 fun v22 =>
 oP sT (Ze v6 v22 (.bool false) h1) h1 fun v23 =>
 bK' v23
   (oV (.bool false) h1 fun v24 =>
   Zd PP [.v v24] h1 K)
   (j5 K x2 x3 x4 x7 x8 x9 h1)
abbrev j4 : G6 := j4g j5 l1 j6
abbrev q17 (j4 : G6) (l1 : G6) (j6 : G3) (K : KT) : QT := Z4 (fun a h => j4 K (a 2) (a 3) (a 4) (a 7) (a 8) (a 9) h) (q15 l1 j6 K)
def b1g (j4 : G6) (l1 : G6) (j6 : G3) (K : KT) (x2 x3 x4 x7 x8 x9 : IV) (h : Heap) : Prop :=
 oV x9 h fun v1 =>
 oV x7 h fun v2 =>
 oD (lenI PP Zk v2) h fun v3 =>
 oD (Z7 PP .lss Z0 v1 v3) h fun v4 =>
 bK' v4
   (j4 K x2 x3 x4 x7 x8 x9 h)
   (j6 K x2 x3 x4 h)
abbrev b1 : G6 := b1g j4 l1 j6
abbrev q18 (l1 : G6) (j6 : G3) (K : KT) : QT := Z4 (fun a h => l1 K (a 2) (a 3) (a 4) (a 7) (a 8) (a 9) h) (q13 j6 K)
def j3g (l1 : G6) (j6 : G3) (K : KT) (x2 x3 x4 x7 x8 : IV) (h : Heap) : Prop :=
 oV (.int .i64 0) h fun v1 =>
 l1 K x2 x3 x4 x7 x8 v1 h
abbrev j3 : G5 := j3g l1 j6
abbrev q19 (j3 : G5) (K : KT) : QT := Z4 (fun a h => j3 K (a 2) (a 3) (a 4) (a 7) (a 8) h) (q1 K)
def j2g (j3 : G5) (K : KT) (x2 x3 x4 : IV) (h : Heap) : Prop :=
 oD (Z1 PP Z6 x3 h) h fun v1 =>
 oD (Z1 PP Z3 x4 h) h fun v2 =>
 oD (Z1 PP Z6 x3 h) h fun v3 =>
 oD (Z1 PP Z3 x4 h) h fun v4 =>
 oV x2 h fun v5 =>
 Z5 PP Z2e [v1, v2] h fun v6 h1 => oB ((Zb (Z1 PP Z3 x4 h1) v4 h1) ∧ (Zb (Z1 PP Z6 x3 h1) v3 h1) ∧ True) <|
 Z5 PP Z2x [v3, v4, v5] h1 fun v7 h2 => oB (True) <|
 oV v6 h2 fun v8 =>
 oV v7 h2 fun v9 =>
 j3 K x2 x3 x4 v8 v9 h2
abbrev j2 : G3 := j2g j3
abbrev q20 (j2 : G3) (K : KT) : QT := Z4 (fun a h => j2 K (a 2) (a 3) (a 4) h) (q1 K)
def j1g (j2 : G3) (K : KT) (x2 x3 x4 : IV) (h : Heap) : Prop :=
 oV x2 h fun v1 =>
 oD (Z7 PP .lss Z0 v1 (.int .i64 0)) h fun v2 =>
 oV v2 h fun v3 =>
 oG (gW v3 false) (some x2) h fun v4 =>
 oG (gW v3 false) (Z2 PP Z6 x3 0) h fun v5 =>
 oG (gW v3 false) (Z1 PP Z0 v5 h) h fun v6 =>
 oG (gW v3 false) (Z7 PP .geq Z0 v4 v6) h fun v7 =>
 oP sT (Ze v3 (.bool true) v7 h) h fun v8 =>
 bK' v8
   (oV (.bool false) h fun v9 =>
   Zd PP [.v v9] h K)
   (j2 K x2 x3 x4 h)
abbrev j1 : G3 := j1g j2
abbrev q21 (j1 : G3) (K : KT) : QT := Z4 (fun a h => j1 K (a 2) (a 3) (a 4) h) (q1 K)
def eg (j1 : G3) (K : KT) (x0 x1 x2 : IV) (h : Heap) : Prop :=
 oA (Zi Z6 x0 h) h fun v1 h1 =>
 oA (Zi Z3 x1 h1) h1 fun v2 h2 =>
 oV (.bool false) h2 fun v3 =>
 j1 K x2 v1 v2 h2
abbrev e : G3 := eg j1
theorem u5 (p : j13 K h) : I c5 (q1 K) a h := ICx.to p
theorem j12_ok (l2 : G4) (j13 : G0) : I c11 (q4 l2 j13 K) a h = j12g l2 j13 K (a 2) (a 3) (a 4) (a 10) h := by kernel_rfl
theorem u11 (p : j12 K (a 2) (a 3) (a 4) (a 10) h) : I c11 (q4 l2 j13 K) a h := ICx.to p (j12_ok l2 j13)
theorem j11_ok (j12 : G4) (l2 : G4) (j13 : G0) : I c17 (q6 j12 l2 j13 K) a h = j11g j12 l2 j13 K (a 2) (a 3) (a 4) (a 10) (a 11) h := by kernel_rfl
theorem u17 (p : j11 K (a 2) (a 3) (a 4) (a 10) (a 11) h) : I c17 (q6 j12 l2 j13 K) a h := ICx.to p (j11_ok j12 l2 j13)
theorem j10_ok (j11 : G5) (j12 : G4) (l2 : G4) (j13 : G0) : I c18 (q7 j11 j12 l2 j13 K) a h = j10g j11 j12 l2 j13 K (a 2) (a 3) (a 4) (a 10) (a 11) (a 12) h := by kernel_rfl
theorem u18 (p : j10 K (a 2) (a 3) (a 4) (a 10) (a 11) (a 12) h) : I c18 (q7 j11 j12 l2 j13 K) a h := ICx.to p (j10_ok j11 j12 l2 j13)
theorem u16 (p : j10 K (a 2) (a 3) (a 4) (a 10) (a 11) (a 12) h) : I c16 (q6 j12 l2 j13 K) a h := ICx.sq (fun _ _ => u17) (u18 p)
theorem j9_ok (j10 : G6) (j12 : G4) (l2 : G4) (j13 : G0) : I c19 (q8 j10 j12 l2 j13 K) a h = j9g j10 j12 l2 j13 K (a 2) (a 3) (a 4) (a 10) (a 11) h := by kernel_rfl
theorem u19 (p : j9 K (a 2) (a 3) (a 4) (a 10) (a 11) h) : I c19 (q8 j10 j12 l2 j13 K) a h := ICx.to p (j9_ok j10 j12 l2 j13)
theorem u15 (p : j9 K (a 2) (a 3) (a 4) (a 10) (a 11) h) : I c15 (q6 j12 l2 j13 K) a h := ICx.sq (fun _ _ => u16) (u19 p)
theorem j8_ok (j9 : G5) (j12 : G4) (l2 : G4) (j13 : G0) : I c20 (q9 j9 j12 l2 j13 K) a h = j8g j9 j12 l2 j13 K (a 2) (a 3) (a 4) (a 10) (a 11) h := by kernel_rfl
theorem u20 (p : j8 K (a 2) (a 3) (a 4) (a 10) (a 11) h) : I c20 (q9 j9 j12 l2 j13 K) a h := ICx.to p (j8_ok j9 j12 l2 j13)
theorem u14 (p : j8 K (a 2) (a 3) (a 4) (a 10) (a 11) h) : I c14 (q6 j12 l2 j13 K) a h := ICx.sq (fun _ _ => u15) (u20 p)
theorem j7_ok (j8 : G5) (j12 : G4) (l2 : G4) (j13 : G0) : I c21 (q10 j8 j12 l2 j13 K) a h = j7g j8 j12 l2 j13 K (a 2) (a 3) (a 4) (a 10) h := by kernel_rfl
theorem u21 (p : j7 K (a 2) (a 3) (a 4) (a 10) h) : I c21 (q10 j8 j12 l2 j13 K) a h := ICx.to p (j7_ok j8 j12 l2 j13)
theorem u13 (p : j7 K (a 2) (a 3) (a 4) (a 10) h) : I c13 (q6 j12 l2 j13 K) a h := ICx.sq (fun _ _ => u14) (u21 p)
theorem u12 (p : j7 K (a 2) (a 3) (a 4) (a 10) h) : I c12 (q5 j12 l2 j13 K) a h := ICx.blk (u13 p)
theorem u10 (p : j7 K (a 2) (a 3) (a 4) (a 10) h) : I c10 (q4 l2 j13 K) a h := ICx.sq (fun _ _ => u11) (u12 p)
theorem b2_ok (j7 : G4) (l2 : G4) (j13 : G0) : I c22 (q11 j7 l2 j13 K) a h = b2g j7 l2 j13 K (a 2) (a 3) (a 4) (a 10) h := by kernel_rfl
theorem u22 (p : b2 K (a 2) (a 3) (a 4) (a 10) h) : I c22 (q11 j7 l2 j13 K) a h := ICx.to p (b2_ok j7 l2 j13)
theorem u9 (p : b2 K (a 2) (a 3) (a 4) (a 10) h) : I c9 (q4 l2 j13 K) a h := ICx.sq (fun _ _ => u10) (u22 p)
theorem u8 (p : l2 K (a 2) (a 3) (a 4) (a 10) h) : I c8 (q3 j13 K) a h := ICx.lp (p a rfl rfl rfl rfl)
theorem l2_round {x2 x3 x4 x10 : IV} (p : b2 K x2 x3 x4 x10 h) : l2 K x2 x3 x4 x10 h := by
  intro a e2 e3 e4 e10
  subst e2; subst e3; subst e4; subst e10; exact ICx.round Try.mixed (D := D) (L := fun a h => l2 K (a 2) (a 3) (a 4) (a 10) h) (fun a h p => p a rfl rfl rfl rfl) (u9 p)
theorem u7 (p : l2 K (a 2) (a 3) (a 4) (a 10) h) : I c7 (q2 j13 K) a h := ICx.blk (u8 p)
theorem j6_ok (l2 : G4) (j13 : G0) : I c23 (q12 l2 j13 K) a h = j6g l2 j13 K (a 2) (a 3) (a 4) h := by kernel_rfl
theorem u23 (p : j6 K (a 2) (a 3) (a 4) h) : I c23 (q12 l2 j13 K) a h := ICx.to p (j6_ok l2 j13)
theorem u6 (p : j6 K (a 2) (a 3) (a 4) h) : I c6 (q2 j13 K) a h := ICx.sq (fun _ _ => u7) (u23 p)
theorem u4 (p : j6 K (a 2) (a 3) (a 4) h) : I c4 (q1 K) a h := ICx.sq (fun _ _ => u5) (u6 p)
theorem j5_ok (l1 : G6) (j6 : G3) : I c29 (q15 l1 j6 K) a h = j5g l1 j6 K (a 2) (a 3) (a 4) (a 7) (a 8) (a 9) h := by kernel_rfl
theorem u29 (p : j5 K (a 2) (a 3) (a 4) (a 7) (a 8) (a 9) h) : I c29 (q15 l1 j6 K) a h := ICx.to p (j5_ok l1 j6)
theorem j4_ok (j5 : G6) (l1 : G6) (j6 : G3) : I c30 (q16 j5 l1 j6 K) a h = j4g j5 l1 j6 K (a 2) (a 3) (a 4) (a 7) (a 8) (a 9) h := by kernel_rfl
theorem u30 (p : j4 K (a 2) (a 3) (a 4) (a 7) (a 8) (a 9) h) : I c30 (q16 j5 l1 j6 K) a h := ICx.to p (j4_ok j5 l1 j6)
theorem u28 (p : j4 K (a 2) (a 3) (a 4) (a 7) (a 8) (a 9) h) : I c28 (q15 l1 j6 K) a h := ICx.sq (fun _ _ => u29) (u30 p)
theorem b1_ok (j4 : G6) (l1 : G6) (j6 : G3) : I c31 (q17 j4 l1 j6 K) a h = b1g j4 l1 j6 K (a 2) (a 3) (a 4) (a 7) (a 8) (a 9) h := by kernel_rfl
theorem u31 (p : b1 K (a 2) (a 3) (a 4) (a 7) (a 8) (a 9) h) : I c31 (q17 j4 l1 j6 K) a h := ICx.to p (b1_ok j4 l1 j6)
theorem u27 (p : b1 K (a 2) (a 3) (a 4) (a 7) (a 8) (a 9) h) : I c27 (q15 l1 j6 K) a h := ICx.sq (fun _ _ => u28) (u31 p)
theorem u26 (p : l1 K (a 2) (a 3) (a 4) (a 7) (a 8) (a 9) h) : I c26 (q14 j6 K) a h := ICx.lp (p a rfl rfl rfl rfl rfl rfl)
theorem l1_round {x2 x3 x4 x7 x8 x9 : IV} (p : b1 K x2 x3 x4 x7 x8 x9 h) : l1 K x2 x3 x4 x7 x8 x9 h := by
  intro a e2 e3 e4 e7 e8 e9
  subst e2; subst e3; subst e4; subst e7; subst e8; subst e9; exact ICx.round Try.mixed (D := D) (L := fun a h => l1 K (a 2) (a 3) (a 4) (a 7) (a 8) (a 9) h) (fun a h p => p a rfl rfl rfl rfl rfl rfl) (u27 p)
theorem u25 (p : l1 K (a 2) (a 3) (a 4) (a 7) (a 8) (a 9) h) : I c25 (q13 j6 K) a h := ICx.blk (u26 p)
theorem j3_ok (l1 : G6) (j6 : G3) : I c32 (q18 l1 j6 K) a h = j3g l1 j6 K (a 2) (a 3) (a 4) (a 7) (a 8) h := by kernel_rfl
theorem u32 (p : j3 K (a 2) (a 3) (a 4) (a 7) (a 8) h) : I c32 (q18 l1 j6 K) a h := ICx.to p (j3_ok l1 j6)
theorem u24 (p : j3 K (a 2) (a 3) (a 4) (a 7) (a 8) h) : I c24 (q13 j6 K) a h := ICx.sq (fun _ _ => u25) (u32 p)
theorem u3 (p : j3 K (a 2) (a 3) (a 4) (a 7) (a 8) h) : I c3 (q1 K) a h := ICx.sq (fun _ _ => u4) (u24 p)
theorem j2_ok (j3 : G5) : I c33 (q19 j3 K) a h = j2g j3 K (a 2) (a 3) (a 4) h := by kernel_rfl
theorem u33 (p : j2 K (a 2) (a 3) (a 4) h) : I c33 (q19 j3 K) a h := ICx.to p (j2_ok j3)
theorem u2 (p : j2 K (a 2) (a 3) (a 4) h) : I c2 (q1 K) a h := ICx.sq (fun _ _ => u3) (u33 p)
theorem j1_ok (j2 : G3) : I c34 (q20 j2 K) a h = j1g j2 K (a 2) (a 3) (a 4) h := by kernel_rfl
theorem u34 (p : j1 K (a 2) (a 3) (a 4) h) : I c34 (q20 j2 K) a h := ICx.to p (j1_ok j2)
theorem u1 (p : j1 K (a 2) (a 3) (a 4) h) : I c1 (q1 K) a h := ICx.sq (fun _ _ => u2) (u34 p)
theorem e_ok (j1 : G3) : I c35 (q21 j1 K) a h = eg j1 K (a 0) (a 1) (a 2) h := by kernel_rfl
theorem u35 (p : e K (a 0) (a 1) (a 2) h) : I c35 (q21 j1 K) a h := ICx.to p (e_ok j1)
theorem u0 (p : e K (a 0) (a 1) (a 2) h) : I c0 (q1 K) a h := ICx.sq (fun _ _ => u1) (u35 p)
theorem call {x0 x1 x2 : IV} (p : e K x0 x1 x2 h) : Z5 PP Z2U [x0, x1, x2] h K :=
  ICx.fn Try.mixed Try.func24 rfl (Nat.le_of_ble_eq_true rfl) (u0 (a := actI [x0, x1, x2]) p)
end ZP
namespace Z4x
def D : Nat → DI
  | _ => ⟨[], [], []⟩
abbrev I := ICx PP 17 D
def c0 : Code := bodyN Try.f25
abbrev q1 (K : KT) : QT := finK PP Try.f25.results.toList K
def e (K : KT) (x0 x1 x2 : IV) (h : Heap) : Prop :=
 oA (Zi Z6 x0 h) h fun v1 h1 =>
 oA (Zi Z3 x1 h1) h1 fun v2 h2 =>
 oA (Zi Z0 x2 h2) h2 fun v3 h3 =>
 oV (.snil) h3 fun v4 =>
 oD (Z2 PP Z6 v1 2) h3 fun v5 =>
 oD (Z1 PP Zn v5 h3) h3 fun v6 =>
 oD (lenI PP Zn v6) h3 fun v7 =>
 oA (Z12 PP ZF v7 v7 h3) h3 fun v8 h4 =>
 oA (Zp PP ZF h4) h4 fun v9 h5 =>
 oS (Z9 PP ZF v9 v8 h5) h5 fun h6 =>
 oD (Z1 PP Z6 v1 h6) h6 fun v10 =>
 oD (Z1 PP Z3 v2 h6) h6 fun v11 =>
 oV (.fn Z3s [v3, v9]) h6 fun v12 =>
 Z5 PP Z2g [v10, v11, v12] h6 fun v13 h7 =>
 oD (Z1 PP ZF v9 h7) h7 fun v14 =>
 oV v14 h7 fun v15 =>
 Zd PP [.v v15] h7 K
theorem u0 (p : e K (a 0) (a 1) (a 2) h) : I c0 (q1 K) a h := ICx.to p
theorem call {x0 x1 x2 : IV} (p : e K x0 x1 x2 h) : Z5 PP Z24 [x0, x1, x2] h K :=
  ICx.fn Try.mixed Try.func25 rfl (Nat.le_of_ble_eq_true rfl) (u0 (a := actI [x0, x1, x2]) p)
end Z4x
namespace Z1p
def D : Nat → DI
  | 7 => ⟨[0, 0, 2, 0, 8, 0, 56, 120, 248, 511], [0, 1, 2, 3, 4, 5, 6, 7, 8, 9], []⟩
  | _ => ⟨[], [], []⟩
abbrev I := ICx PP 48 D
def c0 : Code := bodyN Try.f26
def c1 : Code := cR c0
def c2 : Code := cR c1
def c3 : Code := cR c2
def c4 : Code := cL c2
def c5 : Code := cR c4
def c6 : Code := cL c5
def c7 : Code := cL c6
def c8 : Code := cR c7
def c9 : Code := cR c8
def c10 : Code := cL c8
def c11 : Code := cL c7
def c12 : Code := cL c4
def c13 : Code := cL c1
def c14 : Code := cL c0
abbrev q1 (K : KT) : QT := finK PP Try.f26.results.toList K
def j5 (K : KT) (x7 : IV) (h : Heap) : Prop :=
 oV x7 h fun v1 =>
 oV v1 h fun v2 =>
 Zd PP [.v v2] h K
abbrev q2 (j5 : G1) (K : KT) : QT := Z4 (fun a h => j5 K (a 7) h) (q1 K)
abbrev q3 (j5 : G1) (K : KT) : QT := Zq 0 (q2 j5 K)
def l1 (K : KT) (x2 x3 x4 x7 x8 : IV) (h : Heap) : Prop := ∀ a : IAct, a 2 = x2 → a 3 = x3 → a 4 = x4 → a 7 = x7 → a 8 = x8 → ILoop PP 48 c7 (q3 j5 K) a h
abbrev q4 (l1 : G5) (j5 : G1) (K : KT) : QT := Z4 (fun a h => l1 K (a 2) (a 3) (a 4) (a 7) (a 8) h) (q3 j5 K)
def j4g (l1 : G5) (j5 : G1) (K : KT) (x2 x3 x4 x7 x8 : IV) (h : Heap) : Prop :=
 oV x8 h fun v1 =>
 oD (Z7 PP .add Z0 v1 (.int .i64 1)) h fun v2 =>
 oV v2 h fun v3 =>
 l1 K x2 x3 x4 x7 v3 h
abbrev j4 : G5 := j4g l1 j5
abbrev q5 (j4 : G5) (l1 : G5) (j5 : G1) (K : KT) : QT := Z4 (fun a h => j4 K (a 2) (a 3) (a 4) (a 7) (a 8) h) (q4 l1 j5 K)
def j3g (j4 : G5) (l1 : G5) (j5 : G1) (K : KT) (x2 x3 x4 x7 x8 : IV) (h : Heap) : Prop :=
 oD (Z2 PP Z3 x4 2) h fun v1 =>
 oD (Z1 PP Zh v1 h) h fun v2 =>
 oV x8 h fun v3 =>
 oD (Zf PP Zh v2 v3 h) h fun v4 =>
 oD (Z2 PP Za v4 7) h fun v5 =>
 oD (Z1 PP Zu v5 h) h fun v6 =>
 oA (Zp PP Zu h) h fun v7 h1 =>
 oS (Z9 PP Zu v7 v6 h1) h1 fun h2 =>
 oD (Z2 PP Zu v7 3) h2 fun v8 =>
 oD (Z1 PP Z0 v8 h2) h2 fun v9 =>
 oV x2 h2 fun v10 =>
 oD (Z7 PP .leq Z0 v9 v10) h2 fun v11 =>
 oV v11 h2 fun v12 =>
 oG (gW v12 true) (some x2) h2 fun v13 =>
 oG (gW v12 true) (Z2 PP Zu v7 4) h2 fun v14 =>
 oG (gW v12 true) (Z1 PP Z0 v14 h2) h2 fun v15 =>
 oG (gW v12 true) (Z7 PP .lss Z0 v13 v15) h2 fun v16 =>
 oP sT (Ze v12 v16 (.bool false) h2) h2 fun v17 =>
 bK' v17
   (oV x7 h2 fun v18 =>
   oD (Z2 PP Zu v7 0) h2 fun v19 =>
   oD (Z1 PP Z0 v19 h2) h2 fun v20 =>
   oD (Z2 PP Z6 x3 3) h2 fun v21 =>
   oD (Z1 PP Zw v21 h2) h2 fun v22 =>
   oV x8 h2 fun v23 =>
   oD (Zf PP Zw v22 v23 h2) h2 fun v24 =>
   oD (Z2 PP Zs v24 0) h2 fun v25 =>
   oD (Z1 PP Z0 v25 h2) h2 fun v26 =>
   Z5 PP Z1R [v18, v20, v26] h2 fun v27 h3 => oB (True) <|
   j4 K x2 x3 x4 x7 x8 h3)
   (j4 K x2 x3 x4 x7 x8 h2)
abbrev j3 : G5 := j3g j4 l1 j5
abbrev q6 (j3 : G5) (l1 : G5) (j5 : G1) (K : KT) : QT := Z4 (fun a h => j3 K (a 2) (a 3) (a 4) (a 7) (a 8) h) (q4 l1 j5 K)
def b1g (j3 : G5) (l1 : G5) (j5 : G1) (K : KT) (x2 x3 x4 x7 x8 : IV) (h : Heap) : Prop :=
 oV x8 h fun v1 =>
 oD (Z2 PP Z3 x4 2) h fun v2 =>
 oD (Z1 PP Zh v2 h) h fun v3 =>
 oD (lenI PP Zh v3) h fun v4 =>
 oD (Z7 PP .lss Z0 v1 v4) h fun v5 =>
 bK' v5
   (j3 K x2 x3 x4 x7 x8 h)
   (j5 K x7 h)
abbrev b1 : G5 := b1g j3 l1 j5
abbrev q7 (l1 : G5) (j5 : G1) (K : KT) : QT := Z4 (fun a h => l1 K (a 2) (a 3) (a 4) (a 7) (a 8) h) (q2 j5 K)
def j2g (l1 : G5) (j5 : G1) (K : KT) (x2 x3 x4 x7 : IV) (h : Heap) : Prop :=
 oV (.int .i64 0) h fun v1 =>
 l1 K x2 x3 x4 x7 v1 h
abbrev j2 : G4 := j2g l1 j5
abbrev q8 (j2 : G4) (K : KT) : QT := Z4 (fun a h => j2 K (a 2) (a 3) (a 4) (a 7) h) (q1 K)
def j1g (j2 : G4) (K : KT) (x2 x3 x4 : IV) (h : Heap) : Prop :=
 oD (Z2 PP Z6 x3 2) h fun v1 =>
 oD (Z1 PP Zn v1 h) h fun v2 =>
 oD (lenI PP Zn v2) h fun v3 =>
 oA (Z12 PP Zk v3 v3 h) h fun v4 h1 =>
 oV v4 h1 fun v5 =>
 j2 K x2 x3 x4 v5 h1
abbrev j1 : G3 := j1g j2
abbrev q9 (j1 : G3) (K : KT) : QT := Z4 (fun a h => j1 K (a 2) (a 3) (a 4) h) (q1 K)
def eg (j1 : G3) (K : KT) (x0 x1 x2 : IV) (h : Heap) : Prop :=
 oA (Zi Z6 x0 h) h fun v1 h1 =>
 oA (Zi Z3 x1 h1) h1 fun v2 h2 =>
 oV (.snil) h2 fun v3 =>
 j1 K x2 v1 v2 h2
abbrev e : G3 := eg j1
theorem u3 (p : j5 K (a 7) h) : I c3 (q1 K) a h := ICx.to p
theorem j4_ok (l1 : G5) (j5 : G1) : I c9 (q4 l1 j5 K) a h = j4g l1 j5 K (a 2) (a 3) (a 4) (a 7) (a 8) h := by kernel_rfl
theorem u9 (p : j4 K (a 2) (a 3) (a 4) (a 7) (a 8) h) : I c9 (q4 l1 j5 K) a h := ICx.to p (j4_ok l1 j5)
theorem j3_ok (j4 : G5) (l1 : G5) (j5 : G1) : I c10 (q5 j4 l1 j5 K) a h = j3g j4 l1 j5 K (a 2) (a 3) (a 4) (a 7) (a 8) h := by kernel_rfl
theorem u10 (p : j3 K (a 2) (a 3) (a 4) (a 7) (a 8) h) : I c10 (q5 j4 l1 j5 K) a h := ICx.to p (j3_ok j4 l1 j5)
theorem u8 (p : j3 K (a 2) (a 3) (a 4) (a 7) (a 8) h) : I c8 (q4 l1 j5 K) a h := ICx.sq (fun _ _ => u9) (u10 p)
theorem b1_ok (j3 : G5) (l1 : G5) (j5 : G1) : I c11 (q6 j3 l1 j5 K) a h = b1g j3 l1 j5 K (a 2) (a 3) (a 4) (a 7) (a 8) h := by kernel_rfl
theorem u11 (p : b1 K (a 2) (a 3) (a 4) (a 7) (a 8) h) : I c11 (q6 j3 l1 j5 K) a h := ICx.to p (b1_ok j3 l1 j5)
theorem u7 (p : b1 K (a 2) (a 3) (a 4) (a 7) (a 8) h) : I c7 (q4 l1 j5 K) a h := ICx.sq (fun _ _ => u8) (u11 p)
theorem u6 (p : l1 K (a 2) (a 3) (a 4) (a 7) (a 8) h) : I c6 (q3 j5 K) a h := ICx.lp (p a rfl rfl rfl rfl rfl)
theorem l1_round {x2 x3 x4 x7 x8 : IV} (p : b1 K x2 x3 x4 x7 x8 h) : l1 K x2 x3 x4 x7 x8 h := by
  intro a e2 e3 e4 e7 e8
  subst e2; subst e3; subst e4; subst e7; subst e8; exact ICx.round Try.mixed (D := D) (L := fun a h => l1 K (a 2) (a 3) (a 4) (a 7) (a 8) h) (fun a h p => p a rfl rfl rfl rfl rfl) (u7 p)
theorem u5 (p : l1 K (a 2) (a 3) (a 4) (a 7) (a 8) h) : I c5 (q2 j5 K) a h := ICx.blk (u6 p)
theorem j2_ok (l1 : G5) (j5 : G1) : I c12 (q7 l1 j5 K) a h = j2g l1 j5 K (a 2) (a 3) (a 4) (a 7) h := by kernel_rfl
theorem u12 (p : j2 K (a 2) (a 3) (a 4) (a 7) h) : I c12 (q7 l1 j5 K) a h := ICx.to p (j2_ok l1 j5)
theorem u4 (p : j2 K (a 2) (a 3) (a 4) (a 7) h) : I c4 (q2 j5 K) a h := ICx.sq (fun _ _ => u5) (u12 p)
theorem u2 (p : j2 K (a 2) (a 3) (a 4) (a 7) h) : I c2 (q1 K) a h := ICx.sq (fun _ _ => u3) (u4 p)
theorem j1_ok (j2 : G4) : I c13 (q8 j2 K) a h = j1g j2 K (a 2) (a 3) (a 4) h := by kernel_rfl
theorem u13 (p : j1 K (a 2) (a 3) (a 4) h) : I c13 (q8 j2 K) a h := ICx.to p (j1_ok j2)
theorem u1 (p : j1 K (a 2) (a 3) (a 4) h) : I c1 (q1 K) a h := ICx.sq (fun _ _ => u2) (u13 p)
theorem e_ok (j1 : G3) : I c14 (q9 j1 K) a h = eg j1 K (a 0) (a 1) (a 2) h := by kernel_rfl
theorem u14 (p : e K (a 0) (a 1) (a 2) h) : I c14 (q9 j1 K) a h := ICx.to p (e_ok j1)
theorem u0 (p : e K (a 0) (a 1) (a 2) h) : I c0 (q1 K) a h := ICx.sq (fun _ _ => u1) (u14 p)
theorem call {x0 x1 x2 : IV} (p : e K x0 x1 x2 h) : Z5 PP Z2V [x0, x1, x2] h K :=
  ICx.fn Try.mixed Try.func26 rfl (Nat.le_of_ble_eq_true rfl) (u0 (a := actI [x0, x1, x2]) p)
end Z1p
namespace Z2j
def D : Nat → DI
  | _ => ⟨[], [], []⟩
abbrev I := ICx PP 17 D
def c0 : Code := bodyN Try.f27
def c1 : Code := cR c0
def c2 : Code := cR c1
def c3 : Code := cR c2
def c4 : Code := cL c2
def c5 : Code := cL c1
def c6 : Code := cL c0
abbrev q1 (K : KT) : QT := finK PP Try.f27.results.toList K
def j3 (K : KT) (x2 x5 : IV) (h : Heap) : Prop :=
 oD (Z2 PP Z6 x2 1) h fun v1 =>
 oD (Z1 PP ZK v1 h) h fun v2 =>
 oV x5 h fun v3 =>
 oD (Zf PP ZK v2 v3 h) h fun v4 =>
 oD (Z2 PP ZR v4 0) h fun v5 =>
 oD (Z1 PP Z0 v5 h) h fun v6 =>
 oV v6 h fun v7 =>
 Zd PP [.v v7] h K
abbrev q2 (j3 : G2) (K : KT) : QT := Z4 (fun a h => j3 K (a 2) (a 5) h) (q1 K)
def j2g (j3 : G2) (K : KT) (x2 x5 : IV) (h : Heap) : Prop :=
 oV x5 h fun v1 =>
 oD (Z7 PP .lss Z0 v1 (.int .i64 0)) h fun v2 =>
 bK' v2
   (oV (.int .i64 (-1)) h fun v3 =>
   Zd PP [.v v3] h K)
   (j3 K x2 x5 h)
abbrev j2 : G2 := j2g j3
abbrev q3 (j2 : G2) (K : KT) : QT := Z4 (fun a h => j2 K (a 2) (a 5) h) (q1 K)
def j1g (j2 : G2) (K : KT) (x1 x2 : IV) (h : Heap) : Prop :=
 oD (Z1 PP Z6 x2 h) h fun v1 =>
 oV x1 h fun v2 =>
 Z5 PP Z3t [v1, v2] h fun v3 h1 =>
 oV v3 h1 fun v4 =>
 j2 K x2 v4 h1
abbrev j1 : G2 := j1g j2
abbrev q4 (j1 : G2) (K : KT) : QT := Z4 (fun a h => j1 K (a 1) (a 2) h) (q1 K)
def eg (j1 : G2) (K : KT) (x0 x1 : IV) (h : Heap) : Prop :=
 oA (Zi Z6 x0 h) h fun v1 h1 =>
 oV (.int .i64 0) h1 fun v2 =>
 j1 K x1 v1 h1
abbrev e : G2 := eg j1
theorem u3 (p : j3 K (a 2) (a 5) h) : I c3 (q1 K) a h := ICx.to p
theorem j2_ok (j3 : G2) : I c4 (q2 j3 K) a h = j2g j3 K (a 2) (a 5) h := by kernel_rfl
theorem u4 (p : j2 K (a 2) (a 5) h) : I c4 (q2 j3 K) a h := ICx.to p (j2_ok j3)
theorem u2 (p : j2 K (a 2) (a 5) h) : I c2 (q1 K) a h := ICx.sq (fun _ _ => u3) (u4 p)
theorem j1_ok (j2 : G2) : I c5 (q3 j2 K) a h = j1g j2 K (a 1) (a 2) h := by kernel_rfl
theorem u5 (p : j1 K (a 1) (a 2) h) : I c5 (q3 j2 K) a h := ICx.to p (j1_ok j2)
theorem u1 (p : j1 K (a 1) (a 2) h) : I c1 (q1 K) a h := ICx.sq (fun _ _ => u2) (u5 p)
theorem e_ok (j1 : G2) : I c6 (q4 j1 K) a h = eg j1 K (a 0) (a 1) h := by kernel_rfl
theorem u6 (p : e K (a 0) (a 1) h) : I c6 (q4 j1 K) a h := ICx.to p (e_ok j1)
theorem u0 (p : e K (a 0) (a 1) h) : I c0 (q1 K) a h := ICx.sq (fun _ _ => u1) (u6 p)
theorem call {x0 x1 : IV} (p : e K x0 x1 h) : Z5 PP Z1l [x0, x1] h K :=
  ICx.fn Try.mixed Try.func27 rfl (Nat.le_of_ble_eq_true rfl) (u0 (a := actI [x0, x1]) p)
end Z2j
namespace Zr
def D : Nat → DI
  | 6 => ⟨[0, 1, 0, 0, 8, 28, 60, 124, 255, 511, 1023], [0, 1, 2, 3, 4, 5, 6, 7, 8, 9, 10], [7]⟩
  | 10 => ⟨[0, 1, 0, 0, 8, 24, 60, 0, 128, 384, 1020, 2044, 4095, 8191, 16383], [0, 1, 2, 3, 4, 5, 6, 7, 8, 9, 10, 11, 12, 13, 14], [11]⟩
  | 15 => ⟨[0, 0, 0, 4, 14, 0, 62, 0, 254, 0, 512, 1536, 3584, 7680, 0, 16894, 0, 115198, 262143, 0, 1048575], [0, 1, 2, 3, 5, 7, 9, 10, 11, 12, 13, 14, 16, 19, 4, 6, 8, 15, 17, 18, 20], [19]⟩
  | 24 => ⟨[0, 1, 0, 0, 0, 16, 56, 124, 252, 511, 1023, 2047], [0, 1, 2, 3, 4, 5, 6, 7, 8, 9, 10, 11], [8]⟩
  | 28 => ⟨[0, 1, 0, 0, 8, 24, 60, 124, 255, 511, 1023], [0, 1, 2, 3, 4, 5, 6, 7, 8, 9, 10], [7]⟩
  | 32 => ⟨[0, 1, 0, 0, 8, 24, 60, 124, 255, 511, 1023], [0, 1, 2, 3, 4, 5, 6, 7, 8, 9, 10], [7]⟩
  | _ => ⟨[], [], []⟩
abbrev I := ICx PP 182 D
def c0 : Code := bodyN Try.f28
def c1 : Code := cR c0
def c2 : Code := cR c1
def c3 : Code := cR c2
def c4 : Code := cR c3
def c5 : Code := cR c4
def c6 : Code := cR c5
def c7 : Code := cR c6
def c8 : Code := cR c7
def c9 : Code := cR c8
def c10 : Code := cR c9
def c11 : Code := cL c9
def c12 : Code := cR c11
def c13 : Code := cL c12
def c14 : Code := cL c13
def c15 : Code := cR c14
def c16 : Code := cR c15
def c17 : Code := cL c15
def c18 : Code := cL c14
def c19 : Code := cL c11
def c20 : Code := cL c8
def c21 : Code := cR c20
def c22 : Code := cL c21
def c23 : Code := cL c22
def c24 : Code := cR c23
def c25 : Code := cR c24
def c26 : Code := cL c24
def c27 : Code := cL c23
def c28 : Code := cL c20
def c29 : Code := cL c7
def c30 : Code := cR c29
def c31 : Code := cL c30
def c32 : Code := cL c31
def c33 : Code := cR c32
def c34 : Code := cR c33
def c35 : Code := cL c33
def c36 : Code := cL c32
def c37 : Code := cL c29
def c38 : Code := cL c6
def c39 : Code := cL c5
def c40 : Code := cR c39
def c41 : Code := cL c40
def c42 : Code := cL c41
def c43 : Code := cR c42
def c44 : Code := cR c43
def c45 : Code := cL c43
def c46 : Code := cL c45
def c47 : Code := cR c46
def c48 : Code := cR c47
def c49 : Code := cR c48
def c50 : Code := cL c48
def c51 : Code := cL c47
def c52 : Code := cL c46
def c53 : Code := cL c42
def c54 : Code := cL c39
def c55 : Code := cL c4
def c56 : Code := cR c55
def c57 : Code := cL c56
def c58 : Code := cL c57
def c59 : Code := cR c58
def c60 : Code := cR c59
def c61 : Code := cL c59
def c62 : Code := cL c58
def c63 : Code := cL c55
def c64 : Code := cL c3
def c65 : Code := cR c64
def c66 : Code := cL c65
def c67 : Code := cL c66
def c68 : Code := cR c67
def c69 : Code := cR c68
def c70 : Code := cL c68
def c71 : Code := cL c67
def c72 : Code := cL c64
def c73 : Code := cL c2
def c74 : Code := cL c1
def c75 : Code := cL c0
abbrev q1 (K : KT) : QT := finK PP Try.f28.results.toList K
def j25 (K : KT) (x2 x4 : IV) (h : Heap) : Prop :=
 oD (Z1 PP Z6 x4 h) h fun v1 =>
 oS (Z9 PP Z6 x2 v1 h) h fun h1 =>
 Zd PP [.c x2 Z6] h1 K
abbrev q2 (j25 : G2) (K : KT) : QT := Z4 (fun a h => j25 K (a 2) (a 4) h) (q1 K)
abbrev q3 (j25 : G2) (K : KT) : QT := Zq 10 (q2 j25 K)
def l6 (K : KT) (x2 x3 x4 x13 : IV) (h : Heap) : Prop := ∀ a : IAct, a 2 = x2 → a 3 = x3 → a 4 = x4 → a 13 = x13 → ILoop PP 182 c14 (q3 j25 K) a h
abbrev q4 (l6 : G4) (j25 : G2) (K : KT) : QT := Z4 (fun a h => l6 K (a 2) (a 3) (a 4) (a 13) h) (q3 j25 K)
def j24g (l6 : G4) (j25 : G2) (K : KT) (x2 x3 x4 x13 : IV) (h : Heap) : Prop :=
 oV x13 h fun v1 =>
 oD (Z7 PP .sub Z0 v1 (.int .i64 1)) h fun v2 =>
 oV v2 h fun v3 =>
 l6 K x2 x3 x4 v3 h
abbrev j24 : G4 := j24g l6 j25
abbrev q5 (j24 : G4) (l6 : G4) (j25 : G2) (K : KT) : QT := Z4 (fun a h => j24 K (a 2) (a 3) (a 4) (a 13) h) (q4 l6 j25 K)
def j23g (j24 : G4) (l6 : G4) (j25 : G2) (K : KT) (x2 x3 x4 x13 : IV) (h : Heap) : Prop :=
 oD (Z2 PP Z6 x4 6) (h ++ [none]) fun v1 =>
 oD (Z1 PP Zk v1 (h ++ [none])) (h ++ [none]) fun v2 =>
 oV x3 (h ++ [none]) fun v3 =>
 oD (Z2 PP Z6 x4 1) (h ++ [none]) fun v4 =>
 oD (Z1 PP ZK v4 (h ++ [none])) (h ++ [none]) fun v5 =>
 oD (lenI PP ZK v5) (h ++ [none]) fun v6 =>
 Z5 PP ZL [v3, v6] (h ++ [none]) fun v7 h1 => oB ((Zb (Z1 PP Zk v1 h1) v2 h1) ∧ True) <|
 oK (newS PP Zk 1 [(0, v7)]) fun v8 =>
 oA (ZJ PP Zk Zk v2 (mkV v8.1 (h.length)) (h1.set (h.length) (some v8.2))) (h1.set (h.length) (some v8.2)) fun v9 h2 => oB (True) <|
 oD (Z2 PP Z6 x4 6) h2 fun v10 =>
 oS (Z9 PP Zk v10 v9 h2) h2 fun h3 => oB (True) <|
 j24 K x2 x3 x4 x13 h3
abbrev j23 : G4 := j23g j24 l6 j25
abbrev q6 (j23 : G4) (l6 : G4) (j25 : G2) (K : KT) : QT := Z4 (fun a h => j23 K (a 2) (a 3) (a 4) (a 13) h) (q4 l6 j25 K)
def b6g (j23 : G4) (l6 : G4) (j25 : G2) (K : KT) (x2 x3 x4 x13 : IV) (h : Heap) : Prop :=
 oV x13 h fun v1 =>
 oD (Z7 PP .gtr Z0 v1 (.int .i64 0)) h fun v2 =>
 bK' v2
   (j23 K x2 x3 x4 x13 h)
   (j25 K x2 x4 h)
abbrev b6 : G4 := b6g j23 l6 j25
abbrev q7 (l6 : G4) (j25 : G2) (K : KT) : QT := Z4 (fun a h => l6 K (a 2) (a 3) (a 4) (a 13) h) (q2 j25 K)
def j22g (l6 : G4) (j25 : G2) (K : KT) (x2 x3 x4 : IV) (h : Heap) : Prop :=
 oV x3 h fun v1 =>
 Z5 PP Z1A [v1, .int .i64 1, .int .i64 4] h fun v2 h1 =>
 oV v2 h1 fun v3 =>
 l6 K x2 x3 x4 v3 h1
abbrev j22 : G3 := j22g l6 j25
abbrev q8 (j22 : G3) (K : KT) : QT := Z4 (fun a h => j22 K (a 2) (a 3) (a 4) h) (q1 K)
abbrev q9 (j22 : G3) (K : KT) : QT := Zq 8 (q8 j22 K)
def l5 (K : KT) (x2 x3 x4 x12 : IV) (h : Heap) : Prop := ∀ a : IAct, a 2 = x2 → a 3 = x3 → a 4 = x4 → a 12 = x12 → ILoop PP 182 c23 (q9 j22 K) a h
abbrev q10 (l5 : G4) (j22 : G3) (K : KT) : QT := Z4 (fun a h => l5 K (a 2) (a 3) (a 4) (a 12) h) (q9 j22 K)
def j21g (l5 : G4) (j22 : G3) (K : KT) (x2 x3 x4 x12 : IV) (h : Heap) : Prop :=
 oV x12 h fun v1 =>
 oD (Z7 PP .sub Z0 v1 (.int .i64 1)) h fun v2 =>
 oV v2 h fun v3 =>
 l5 K x2 x3 x4 v3 h
abbrev j21 : G4 := j21g l5 j22
abbrev q11 (j21 : G4) (l5 : G4) (j22 : G3) (K : KT) : QT := Z4 (fun a h => j21 K (a 2) (a 3) (a 4) (a 12) h) (q10 l5 j22 K)
def j20g (j21 : G4) (l5 : G4) (j22 : G3) (K : KT) (x2 x3 x4 x12 : IV) (h : Heap) : Prop :=
 oD (Z2 PP Z6 x4 5) (h ++ [none]) fun v1 =>
 oD (Z1 PP Zk v1 (h ++ [none])) (h ++ [none]) fun v2 =>
 oV x3 (h ++ [none]) fun v3 =>
 oD (Z2 PP Z6 x4 1) (h ++ [none]) fun v4 =>
 oD (Z1 PP ZK v4 (h ++ [none])) (h ++ [none]) fun v5 =>
 oD (lenI PP ZK v5) (h ++ [none]) fun v6 =>
 Z5 PP ZL [v3, v6] (h ++ [none]) fun v7 h1 => oB ((Zb (Z1 PP Zk v1 h1) v2 h1) ∧ True) <|
 oK (newS PP Zk 1 [(0, v7)]) fun v8 =>
 oA (ZJ PP Zk Zk v2 (mkV v8.1 (h.length)) (h1.set (h.length) (some v8.2))) (h1.set (h.length) (some v8.2)) fun v9 h2 => oB (True) <|
 oD (Z2 PP Z6 x4 5) h2 fun v10 =>
 oS (Z9 PP Zk v10 v9 h2) h2 fun h3 => oB (True) <|
 j21 K x2 x3 x4 x12 h3
abbrev j20 : G4 := j20g j21 l5 j22
abbrev q12 (j20 : G4) (l5 : G4) (j22 : G3) (K : KT) : QT := Z4 (fun a h => j20 K (a 2) (a 3) (a 4) (a 12) h) (q10 l5 j22 K)
def b5g (j20 : G4) (l5 : G4) (j22 : G3) (K : KT) (x2 x3 x4 x12 : IV) (h : Heap) : Prop :=
 oV x12 h fun v1 =>
 oD (Z7 PP .gtr Z0 v1 (.int .i64 0)) h fun v2 =>
 bK' v2
   (j20 K x2 x3 x4 x12 h)
   (j22 K x2 x3 x4 h)
abbrev b5 : G4 := b5g j20 l5 j22
abbrev q13 (l5 : G4) (j22 : G3) (K : KT) : QT := Z4 (fun a h => l5 K (a 2) (a 3) (a 4) (a 12) h) (q8 j22 K)
def j19g (l5 : G4) (j22 : G3) (K : KT) (x2 x3 x4 : IV) (h : Heap) : Prop :=
 oV x3 h fun v1 =>
 Z5 PP ZL [v1, .int .i64 2] h fun v2 h1 =>
 oD (Z7 PP .mul Z0 (.int .i64 2) v2) h1 fun v3 =>
 oD (Z7 PP .add Z0 v3 (.int .i64 1)) h1 fun v4 =>
 oV v4 h1 fun v5 =>
 l5 K x2 x3 x4 v5 h1
abbrev j19 : G3 := j19g l5 j22
abbrev q14 (j19 : G3) (K : KT) : QT := Z4 (fun a h => j19 K (a 2) (a 3) (a 4) h) (q1 K)
abbrev q15 (j19 : G3) (K : KT) : QT := Zq 6 (q14 j19 K)
def l4 (K : KT) (x2 x3 x4 x10 : IV) (h : Heap) : Prop := ∀ a : IAct, a 2 = x2 → a 3 = x3 → a 4 = x4 → a 10 = x10 → ILoop PP 182 c32 (q15 j19 K) a h
abbrev q16 (l4 : G4) (j19 : G3) (K : KT) : QT := Z4 (fun a h => l4 K (a 2) (a 3) (a 4) (a 10) h) (q15 j19 K)
def j18g (l4 : G4) (j19 : G3) (K : KT) (x2 x3 x4 x10 : IV) (h : Heap) : Prop :=
 oV x10 h fun v1 =>
 oD (Z7 PP .sub Z0 v1 (.int .i64 1)) h fun v2 =>
 oV v2 h fun v3 =>
 l4 K x2 x3 x4 v3 h
abbrev j18 : G4 := j18g l4 j19
abbrev q17 (j18 : G4) (l4 : G4) (j19 : G3) (K : KT) : QT := Z4 (fun a h => j18 K (a 2) (a 3) (a 4) (a 10) h) (q16 l4 j19 K)
def j17g (j18 : G4) (l4 : G4) (j19 : G3) (K : KT) (x2 x3 x4 x10 : IV) (h : Heap) : Prop :=
 oV x3 h fun v1 =>
 Z5 PP ZL [v1, .int .i64 2] h fun v2 h1 =>
 oV v2 h1 fun v3 =>
 oD (Z2 PP Z6 x4 4) (h1 ++ [none]) fun v4 =>
 oD (Z1 PP ZI v4 (h1 ++ [none])) (h1 ++ [none]) fun v5 =>
 oV v3 (h1 ++ [none]) fun v6 =>
 oV v3 (h1 ++ [none]) fun v7 =>
 oV x3 (h1 ++ [none]) fun v8 =>
 Z5 PP ZL [v8, .int .i64 3] (h1 ++ [none]) fun v9 h2 => oB ((Zb (Z1 PP ZI v4 h2) v5 h2) ∧ True) <|
 oD (Z7 PP .add Z0 v7 v9) h2 fun v10 =>
 oD (Zo PP ZD [(0, v6), (1, v10)]) h2 fun v11 =>
 oK (newS PP ZI 1 [(0, v11)]) fun v12 =>
 oA (ZJ PP ZI ZI v5 (mkV v12.1 (h1.length)) (h2.set (h1.length) (some v12.2))) (h2.set (h1.length) (some v12.2)) fun v13 h3 => oB (True) <|
 oD (Z2 PP Z6 x4 4) h3 fun v14 =>
 oS (Z9 PP ZI v14 v13 h3) h3 fun h4 => oB (True) <|
 j18 K x2 x3 x4 x10 h4
abbrev j17 : G4 := j17g j18 l4 j19
abbrev q18 (j17 : G4) (l4 : G4) (j19 : G3) (K : KT) : QT := Z4 (fun a h => j17 K (a 2) (a 3) (a 4) (a 10) h) (q16 l4 j19 K)
def b4g (j17 : G4) (l4 : G4) (j19 : G3) (K : KT) (x2 x3 x4 x10 : IV) (h : Heap) : Prop :=
 oV x10 h fun v1 =>
 oD (Z7 PP .gtr Z0 v1 (.int .i64 0)) h fun v2 =>
 bK' v2
   (j17 K x2 x3 x4 x10 h)
   (j19 K x2 x3 x4 h)
abbrev b4 : G4 := b4g j17 l4 j19
abbrev q19 (l4 : G4) (j19 : G3) (K : KT) : QT := Z4 (fun a h => l4 K (a 2) (a 3) (a 4) (a 10) h) (q14 j19 K)
def j16g (l4 : G4) (j19 : G3) (K : KT) (x2 x3 x4 : IV) (h : Heap) : Prop :=
 oV x3 h fun v1 =>
 Z5 PP ZL [v1, .int .i64 3] h fun v2 h1 =>
 oV v2 h1 fun v3 =>
 l4 K x2 x3 x4 v3 h1
abbrev j16 : G3 := j16g l4 j19
abbrev q20 (j16 : G3) (K : KT) : QT := Z4 (fun a h => j16 K (a 2) (a 3) (a 4) h) (q1 K)
def j15g (j16 : G3) (K : KT) (x2 x3 x4 : IV) (h : Heap) : Prop :=
 oV x3 h fun v1 =>
 Z5 PP ZL [v1, .int .i64 3] h fun v2 h1 =>
 oD (Zo PP ZD [(1, v2)]) h1 fun v3 =>
 oA (ZA PP ZI 1 [(0, v3)] h1) h1 fun v4 h2 =>
 oD (Z2 PP Z6 x4 4) h2 fun v5 =>
 oS (Z9 PP ZI v5 v4 h2) h2 fun h3 =>
 j16 K x2 x3 x4 h3
abbrev j15 : G3 := j15g j16
abbrev q21 (j15 : G3) (K : KT) : QT := Z4 (fun a h => j15 K (a 2) (a 3) (a 4) h) (q1 K)
abbrev q22 (j15 : G3) (K : KT) : QT := Zq 4 (q21 j15 K)
def l3 (K : KT) (x2 x3 x4 x7 : IV) (h : Heap) : Prop := ∀ a : IAct, a 2 = x2 → a 3 = x3 → a 4 = x4 → a 7 = x7 → ILoop PP 182 c42 (q22 j15 K) a h
abbrev q23 (l3 : G4) (j15 : G3) (K : KT) : QT := Z4 (fun a h => l3 K (a 2) (a 3) (a 4) (a 7) h) (q22 j15 K)
def j14g (l3 : G4) (j15 : G3) (K : KT) (x2 x3 x4 x7 : IV) (h : Heap) : Prop :=
 oV x7 h fun v1 =>
 oD (Z7 PP .sub Z0 v1 (.int .i64 1)) h fun v2 =>
 oV v2 h fun v3 =>
 l3 K x2 x3 x4 v3 h
abbrev j14 : G4 := j14g l3 j15
abbrev q24 (j14 : G4) (l3 : G4) (j15 : G3) (K : KT) : QT := Z4 (fun a h => j14 K (a 2) (a 3) (a 4) (a 7) h) (q23 l3 j15 K)
abbrev q25 (j14 : G4) (l3 : G4) (j15 : G3) (K : KT) : QT := Zq 5 (q24 j14 l3 j15 K)
def j13g (j14 : G4) (l3 : G4) (j15 : G3) (K : KT) (x2 x3 x4 x7 x9 : IV) (h : Heap) : Prop :=
 oD (Z2 PP Z6 x4 3) h fun v1 =>
 oD (Z1 PP Zw v1 h) h fun v2 =>
 oD (Z1 PP Zs x9 h) h fun v3 =>
 oA (ZA PP Zw 1 [(0, v3)] h) h fun v4 h1 =>
 oA (ZJ PP Zw Zw v2 v4 h1) h1 fun v5 h2 =>
 oD (Z2 PP Z6 x4 3) h2 fun v6 =>
 oS (Z9 PP Zw v6 v5 h2) h2 fun h3 =>
 j14 K x2 x3 x4 x7 h3
abbrev j13 : G5 := j13g j14 l3 j15
abbrev q26 (j13 : G5) (j14 : G4) (l3 : G4) (j15 : G3) (K : KT) : QT := Z4 (fun a h => j13 K (a 2) (a 3) (a 4) (a 7) (a 9) h) (q25 j14 l3 j15 K)
def j12g (j13 : G5) (j14 : G4) (l3 : G4) (j15 : G3) (K : KT) (x2 x3 x4 x7 x9 : IV) (h : Heap) : Prop :=
 oV x3 h fun v1 =>
 Z5 PP Z1m [v1, .int .i64 4] h fun v2 h1 =>
 bK' v2
   (oV x3 h1 fun v3 =>
   oD (Z2 PP Z6 x4 0) h1 fun v4 =>
   oD (Z1 PP Z0 v4 h1) h1 fun v5 =>
   oD (convI PP Z0 Z1B v5 h1) h1 fun v6 =>
   oD (Z7 PP .shl Z0 (.int .i64 1) v6) h1 fun v7 =>
   oD (Z7 PP .sub Z0 v7 (.int .i64 1)) h1 fun v8 =>
   Z5 PP Z1A [v3, .int .i64 1, v8] h1 fun v9 h2 =>
   oD (Z2 PP Zs x9 4) h2 fun v10 =>
   oS (Z9 PP Z0 v10 v9 h2) h2 fun h3 =>
   j13 K x2 x3 x4 x7 x9 h3)
   (j13 K x2 x3 x4 x7 x9 h1)
abbrev j12 : G5 := j12g j13 j14 l3 j15
abbrev q27 (j12 : G5) (j14 : G4) (l3 : G4) (j15 : G3) (K : KT) : QT := Z4 (fun a h => j12 K (a 2) (a 3) (a 4) (a 7) (a 9) h) (q25 j14 l3 j15 K)
def j11g (j12 : G5) (j14 : G4) (l3 : G4) (j15 : G3) (K : KT) (x2 x3 x4 x7 x8 : IV) (h : Heap) : Prop :=
 oV x8 (h ++ [none]) fun v1 =>
 oV x3 (h ++ [none]) fun v2 =>
 oV x8 (h ++ [none]) fun v3 =>
 oD (Z7 PP .add Z0 v3 (.int .i64 1)) (h ++ [none]) fun v4 =>
 oV x3 (h ++ [none]) fun v5 =>
 oV x3 (h ++ [none]) fun v6 =>
 oD (Z2 PP Z6 x4 0) (h ++ [none]) fun v7 =>
 oD (Z1 PP Z0 v7 (h ++ [none])) (h ++ [none]) fun v8 =>
 oD (convI PP Z0 Z1B v8 (h ++ [none])) (h ++ [none]) fun v9 =>
 oD (Z7 PP .shl Z0 (.int .i64 1) v9) (h ++ [none]) fun v10 =>
 oD (Z7 PP .sub Z0 v10 (.int .i64 1)) (h ++ [none]) fun v11 =>
 oV x3 (h ++ [none]) fun v12 =>
 oV x3 (h ++ [none]) fun v13 =>
 oK (newA PP Zs) fun v14 =>
 Z5 PP ZL [v2, v4] (h ++ [none]) fun v15 h1 => oB ((Zb (convI PP Z0 Z1B v8 h1) v9 h1) ∧ (Zb (Z1 PP Z0 v7 h1) v8 h1) ∧ True) <|
 Z5 PP ZL [v5, .int .i64 4] h1 fun v16 h2 => oB ((Zb (convI PP Z0 Z1B v8 h2) v9 h2) ∧ (Zb (Z1 PP Z0 v7 h2) v8 h2) ∧ True) <|
 Z5 PP Z1A [v6, .int .i64 (-1), .int .i64 3] h2 fun v17 h3 => oB ((Zb (convI PP Z0 Z1B v8 h3) v9 h3) ∧ (Zb (Z1 PP Z0 v7 h3) v8 h3) ∧ True) <|
 Z5 PP ZL [v12, .int .i64 3] h3 fun v18 h4 => oB ((Zb (convI PP Z0 Z1B v8 h4) v9 h4) ∧ (Zb (Z1 PP Z0 v7 h4) v8 h4) ∧ True) <|
 Z5 PP Z1m [v13, .int .i64 4] h4 fun v19 h5 => oB ((Zb (convI PP Z0 Z1B v8 h5) v9 h5) ∧ (Zb (Z1 PP Z0 v7 h5) v8 h5) ∧ True) <|
 oD (Zo PP Zs [(0, v1), (1, v15), (2, v16), (3, v17), (4, v11), (5, v18), (6, v19)]) h5 fun v20 =>
 oS (Z9 PP Zs (mkV v14.1 (h.length)) v20 (h5.set (h.length) (some v14.2))) (h5.set (h.length) (some v14.2)) fun h6 => oB (True) <|
 j12 K x2 x3 x4 x7 (mkV v14.1 (h.length)) h6
abbrev j11 : G5 := j11g j12 j14 l3 j15
abbrev q28 (j11 : G5) (j14 : G4) (l3 : G4) (j15 : G3) (K : KT) : QT := Z4 (fun a h => j11 K (a 2) (a 3) (a 4) (a 7) (a 8) h) (q25 j14 l3 j15 K)
def j10g (j11 : G5) (j14 : G4) (l3 : G4) (j15 : G3) (K : KT) (x2 x3 x4 x7 : IV) (h : Heap) : Prop :=
 oV x3 h fun v1 =>
 Z5 PP Z1A [v1, .int .i64 1, .int .i64 12] h fun v2 h1 =>
 oV v2 h1 fun v3 =>
 j11 K x2 x3 x4 x7 v3 h1
abbrev j10 : G4 := j10g j11 j14 l3 j15
abbrev q29 (j10 : G4) (l3 : G4) (j15 : G3) (K : KT) : QT := Z4 (fun a h => j10 K (a 2) (a 3) (a 4) (a 7) h) (q23 l3 j15 K)
def b3g (j10 : G4) (l3 : G4) (j15 : G3) (K : KT) (x2 x3 x4 x7 : IV) (h : Heap) : Prop :=
 oV x7 h fun v1 =>
 oD (Z7 PP .gtr Z0 v1 (.int .i64 0)) h fun v2 =>
 bK' v2
   (j10 K x2 x3 x4 x7 h)
   (j15 K x2 x3 x4 h)
abbrev b3 : G4 := b3g j10 l3 j15
abbrev q30 (l3 : G4) (j15 : G3) (K : KT) : QT := Z4 (fun a h => l3 K (a 2) (a 3) (a 4) (a 7) h) (q21 j15 K)
def j9g (l3 : G4) (j15 : G3) (K : KT) (x2 x3 x4 : IV) (h : Heap) : Prop :=
 oV x3 h fun v1 =>
 Z5 PP ZL [v1, .int .i64 6] h fun v2 h1 =>
 oV v2 h1 fun v3 =>
 l3 K x2 x3 x4 v3 h1
abbrev j9 : G3 := j9g l3 j15
abbrev q31 (j9 : G3) (K : KT) : QT := Z4 (fun a h => j9 K (a 2) (a 3) (a 4) h) (q1 K)
abbrev q32 (j9 : G3) (K : KT) : QT := Zq 2 (q31 j9 K)
def l2 (K : KT) (x2 x3 x4 x6 : IV) (h : Heap) : Prop := ∀ a : IAct, a 2 = x2 → a 3 = x3 → a 4 = x4 → a 6 = x6 → ILoop PP 182 c58 (q32 j9 K) a h
abbrev q33 (l2 : G4) (j9 : G3) (K : KT) : QT := Z4 (fun a h => l2 K (a 2) (a 3) (a 4) (a 6) h) (q32 j9 K)
def j8g (l2 : G4) (j9 : G3) (K : KT) (x2 x3 x4 x6 : IV) (h : Heap) : Prop :=
 oV x6 h fun v1 =>
 oD (Z7 PP .add Z0 v1 (.int .i64 1)) h fun v2 =>
 oV v2 h fun v3 =>
 l2 K x2 x3 x4 v3 h
abbrev j8 : G4 := j8g l2 j9
abbrev q34 (j8 : G4) (l2 : G4) (j9 : G3) (K : KT) : QT := Z4 (fun a h => j8 K (a 2) (a 3) (a 4) (a 6) h) (q33 l2 j9 K)
def j7g (j8 : G4) (l2 : G4) (j9 : G3) (K : KT) (x2 x3 x4 x6 : IV) (h : Heap) : Prop :=
 oD (Z2 PP Z6 x4 2) (h ++ [none]) fun v1 =>
 oD (Z1 PP Zn v1 (h ++ [none])) (h ++ [none]) fun v2 =>
 oV x6 (h ++ [none]) fun v3 =>
 oD (Z2 PP Z6 x4 1) (h ++ [none]) fun v4 =>
 oD (Z1 PP ZK v4 (h ++ [none])) (h ++ [none]) fun v5 =>
 oD (lenI PP ZK v5) (h ++ [none]) fun v6 =>
 oD (Z7 PP .rem Z0 v3 v6) (h ++ [none]) fun v7 =>
 oV x3 (h ++ [none]) fun v8 =>
 Z5 PP Z1A [v8, .int .i64 1, .int .i64 4] (h ++ [none]) fun v9 h1 => oB ((Zb (Z1 PP ZK v4 h1) v5 h1) ∧ (Zb (Z1 PP Zn v1 h1) v2 h1) ∧ True) <|
 oD (Z7 PP .mul Z0 v9 (.int .i64 10)) h1 fun v10 =>
 oD (Zo PP Zz [(0, v7), (1, v10)]) h1 fun v11 =>
 oK (newS PP Zn 1 [(0, v11)]) fun v12 =>
 oA (ZJ PP Zn Zn v2 (mkV v12.1 (h.length)) (h1.set (h.length) (some v12.2))) (h1.set (h.length) (some v12.2)) fun v13 h2 => oB (True) <|
 oD (Z2 PP Z6 x4 2) h2 fun v14 =>
 oS (Z9 PP Zn v14 v13 h2) h2 fun h3 => oB (True) <|
 j8 K x2 x3 x4 x6 h3
abbrev j7 : G4 := j7g j8 l2 j9
abbrev q35 (j7 : G4) (l2 : G4) (j9 : G3) (K : KT) : QT := Z4 (fun a h => j7 K (a 2) (a 3) (a 4) (a 6) h) (q33 l2 j9 K)
def b2g (j7 : G4) (l2 : G4) (j9 : G3) (K : KT) (x2 x3 x4 x6 : IV) (h : Heap) : Prop :=
 oV x6 h fun v1 =>
 oD (Z2 PP Z6 x4 1) h fun v2 =>
 oD (Z1 PP ZK v2 h) h fun v3 =>
 oD (lenI PP ZK v3) h fun v4 =>
 oD (Z7 PP .lss Z0 v1 v4) h fun v5 =>
 oV v5 h fun v6 =>
 oG (gW v6 false) (some x3) h fun v7 =>
 Zm PP (gW v6 false) Z1m [v7, .int .i64 2] h fun v8 h1 =>
 oG (gW v6 false) (some v8) h1 fun v9 =>
 oG (gW v9 true) (some x6) h1 fun v10 =>
 oG (gW v9 true) (Z7 PP .lss Z0 v10 (.int .i64 7)) h1 fun v11 =>
 oP (gW v6 false) (Ze v9 v11 (.bool false) h1) h1 fun v12 =>
 oP sT (Ze v6 (.bool true) v12 h1) h1 fun v13 =>
 bK' v13
   (j7 K x2 x3 x4 x6 h1)
   (j9 K x2 x3 x4 h1)
abbrev b2 : G4 := b2g j7 l2 j9
abbrev q36 (l2 : G4) (j9 : G3) (K : KT) : QT := Z4 (fun a h => l2 K (a 2) (a 3) (a 4) (a 6) h) (q31 j9 K)
def j6g (l2 : G4) (j9 : G3) (K : KT) (x2 x3 x4 : IV) (h : Heap) : Prop :=
 oV (.int .i64 0) h fun v1 =>
 l2 K x2 x3 x4 v1 h
abbrev j6 : G3 := j6g l2 j9
abbrev q37 (j6 : G3) (K : KT) : QT := Z4 (fun a h => j6 K (a 2) (a 3) (a 4) h) (q1 K)
abbrev q38 (j6 : G3) (K : KT) : QT := Zq 0 (q37 j6 K)
def l1 (K : KT) (x2 x3 x4 x5 : IV) (h : Heap) : Prop := ∀ a : IAct, a 2 = x2 → a 3 = x3 → a 4 = x4 → a 5 = x5 → ILoop PP 182 c67 (q38 j6 K) a h
abbrev q39 (l1 : G4) (j6 : G3) (K : KT) : QT := Z4 (fun a h => l1 K (a 2) (a 3) (a 4) (a 5) h) (q38 j6 K)
def j5g (l1 : G4) (j6 : G3) (K : KT) (x2 x3 x4 x5 : IV) (h : Heap) : Prop :=
 oV x5 h fun v1 =>
 oD (Z7 PP .add Z0 v1 (.int .i64 1)) h fun v2 =>
 oV v2 h fun v3 =>
 l1 K x2 x3 x4 v3 h
abbrev j5 : G4 := j5g l1 j6
abbrev q40 (j5 : G4) (l1 : G4) (j6 : G3) (K : KT) : QT := Z4 (fun a h => j5 K (a 2) (a 3) (a 4) (a 5) h) (q39 l1 j6 K)
def j4g (j5 : G4) (l1 : G4) (j6 : G3) (K : KT) (x2 x3 x4 x5 : IV) (h : Heap) : Prop :=
 oD (Z2 PP Z6 x4 1) (h ++ [none]) fun v1 =>
 oD (Z1 PP ZK v1 (h ++ [none])) (h ++ [none]) fun v2 =>
 oV x5 (h ++ [none]) fun v3 =>
 oD (Z2 PP Z6 x4 0) (h ++ [none]) fun v4 =>
 oD (Z1 PP Z0 v4 (h ++ [none])) (h ++ [none]) fun v5 =>
 oD (Z7 PP .rem Z0 v3 v5) (h ++ [none]) fun v6 =>
 oD (Zo PP ZR [(0, v6)]) (h ++ [none]) fun v7 =>
 oK (newS PP ZK 1 [(0, v7)]) fun v8 =>
 oA (ZJ PP ZK ZK v2 (mkV v8.1 (h.length)) ((h ++ [none]).set (h.length) (some v8.2))) ((h ++ [none]).set (h.length) (some v8.2)) fun v9 h1 => oB (True) <|
 oD (Z2 PP Z6 x4 1) h1 fun v10 =>
 oS (Z9 PP ZK v10 v9 h1) h1 fun h2 => oB (True) <|
 j5 K x2 x3 x4 x5 h2
abbrev j4 : G4 := j4g j5 l1 j6
abbrev q41 (j4 : G4) (l1 : G4) (j6 : G3) (K : KT) : QT := Z4 (fun a h => j4 K (a 2) (a 3) (a 4) (a 5) h) (q39 l1 j6 K)
def b1g (j4 : G4) (l1 : G4) (j6 : G3) (K : KT) (x2 x3 x4 x5 : IV) (h : Heap) : Prop :=
 oV x5 h fun v1 =>
 oD (Z2 PP Z6 x4 0) h fun v2 =>
 oD (Z1 PP Z0 v2 h) h fun v3 =>
 oD (Z7 PP .lss Z0 v1 v3) h fun v4 =>
 oV v4 h fun v5 =>
 oG (gW v5 false) (some x3) h fun v6 =>
 Zm PP (gW v5 false) Z1m [v6, .int .i64 3] h fun v7 h1 =>
 oG (gW v5 false) (some v7) h1 fun v8 =>
 oG (gW v8 true) (some x5) h1 fun v9 =>
 oG (gW v8 true) (Z7 PP .lss Z0 v9 (.int .i64 6)) h1 fun v10 =>
 oP (gW v5 false) (Ze v8 v10 (.bool false) h1) h1 fun v11 =>
 oP sT (Ze v5 (.bool true) v11 h1) h1 fun v12 =>
 bK' v12
   (j4 K x2 x3 x4 x5 h1)
   (j6 K x2 x3 x4 h1)
abbrev b1 : G4 := b1g j4 l1 j6
abbrev q42 (l1 : G4) (j6 : G3) (K : KT) : QT := Z4 (fun a h => l1 K (a 2) (a 3) (a 4) (a 5) h) (q37 j6 K)
def j3g (l1 : G4) (j6 : G3) (K : KT) (x2 x3 x4 : IV) (h : Heap) : Prop :=
 oV (.int .i64 0) h fun v1 =>
 l1 K x2 x3 x4 v1 h
abbrev j3 : G3 := j3g l1 j6
abbrev q43 (j3 : G3) (K : KT) : QT := Z4 (fun a h => j3 K (a 2) (a 3) (a 4) h) (q1 K)
def j2g (j3 : G3) (K : KT) (x2 x3 : IV) (h : Heap) : Prop :=
 oV x3 h fun v1 =>
 Z5 PP ZL [v1, .int .i64 5] h fun v2 h1 =>
 oD (Z7 PP .add Z0 v2 (.int .i64 1)) h1 fun v3 =>
 Z5 PP Z1v [v3, .int .i64 1, .int .i64 3] h1 fun v4 h2 =>
 oV x3 h2 fun v5 =>
 Z5 PP Z1A [v5, .int .i64 1, .int .i64 3] h2 fun v6 h3 =>
 oV x3 h3 fun v7 =>
 Z5 PP Z1A [v7, .int .i64 2, .int .i64 12] h3 fun v8 h4 =>
 oV x3 h4 fun v9 =>
 Z5 PP ZL [v9, .int .i64 9] h4 fun v10 h5 =>
 oD (Zo PP Z6 [(0, v4), (7, v6), (8, v8), (9, v10)]) h5 fun v11 =>
 oA (Zp PP Z6 h5) h5 fun v12 h6 =>
 oS (Z9 PP Z6 v12 v11 h6) h6 fun h7 =>
 j3 K x2 x3 v12 h7
abbrev j2 : G2 := j2g j3
abbrev q44 (j2 : G2) (K : KT) : QT := Z4 (fun a h => j2 K (a 2) (a 3) h) (q1 K)
def j1g (j2 : G2) (K : KT) (x0 x2 : IV) (h : Heap) : Prop :=
 oV x0 h fun v1 =>
 Z5 PP Z2X [v1] h fun v2 h1 =>
 oV v2 h1 fun v3 =>
 j2 K x2 v3 h1
abbrev j1 : G2 := j1g j2
abbrev q45 (j1 : G2) (K : KT) : QT := Z4 (fun a h => j1 K (a 0) (a 2) h) (q1 K)
def eg (j1 : G2) (K : KT) (x0 : IV) (h : Heap) : Prop :=
 oA (Zp PP Z6 h) h fun v1 h1 =>
 j1 K x0 v1 h1
abbrev e : G1 := eg j1
theorem u10 (p : j25 K (a 2) (a 4) h) : I c10 (q1 K) a h := ICx.to p
theorem j24_ok (l6 : G4) (j25 : G2) : I c16 (q4 l6 j25 K) a h = j24g l6 j25 K (a 2) (a 3) (a 4) (a 13) h := by kernel_rfl
theorem u16 (p : j24 K (a 2) (a 3) (a 4) (a 13) h) : I c16 (q4 l6 j25 K) a h := ICx.to p (j24_ok l6 j25)
theorem j23_ok (j24 : G4) (l6 : G4) (j25 : G2) : I c17 (q5 j24 l6 j25 K) a h = j23g j24 l6 j25 K (a 2) (a 3) (a 4) (a 13) h := by kernel_rfl
theorem u17 (p : j23 K (a 2) (a 3) (a 4) (a 13) h) : I c17 (q5 j24 l6 j25 K) a h := ICx.to p (j23_ok j24 l6 j25)
theorem u15 (p : j23 K (a 2) (a 3) (a 4) (a 13) h) : I c15 (q4 l6 j25 K) a h := ICx.sq (fun _ _ => u16) (u17 p)
theorem b6_ok (j23 : G4) (l6 : G4) (j25 : G2) : I c18 (q6 j23 l6 j25 K) a h = b6g j23 l6 j25 K (a 2) (a 3) (a 4) (a 13) h := by kernel_rfl
theorem u18 (p : b6 K (a 2) (a 3) (a 4) (a 13) h) : I c18 (q6 j23 l6 j25 K) a h := ICx.to p (b6_ok j23 l6 j25)
theorem u14 (p : b6 K (a 2) (a 3) (a 4) (a 13) h) : I c14 (q4 l6 j25 K) a h := ICx.sq (fun _ _ => u15) (u18 p)
theorem u13 (p : l6 K (a 2) (a 3) (a 4) (a 13) h) : I c13 (q3 j25 K) a h := ICx.lp (p a rfl rfl rfl rfl)
theorem l6_round {x2 x3 x4 x13 : IV} (p : b6 K x2 x3 x4 x13 h) : l6 K x2 x3 x4 x13 h := by
  intro a e2 e3 e4 e13
  subst e2; subst e3; subst e4; subst e13; exact ICx.round Try.mixed (D := D) (L := fun a h => l6 K (a 2) (a 3) (a 4) (a 13) h) (fun a h p => p a rfl rfl rfl rfl) (u14 p)
theorem u12 (p : l6 K (a 2) (a 3) (a 4) (a 13) h) : I c12 (q2 j25 K) a h := ICx.blk (u13 p)
theorem j22_ok (l6 : G4) (j25 : G2) : I c19 (q7 l6 j25 K) a h = j22g l6 j25 K (a 2) (a 3) (a 4) h := by kernel_rfl
theorem u19 (p : j22 K (a 2) (a 3) (a 4) h) : I c19 (q7 l6 j25 K) a h := ICx.to p (j22_ok l6 j25)
theorem u11 (p : j22 K (a 2) (a 3) (a 4) h) : I c11 (q2 j25 K) a h := ICx.sq (fun _ _ => u12) (u19 p)
theorem u9 (p : j22 K (a 2) (a 3) (a 4) h) : I c9 (q1 K) a h := ICx.sq (fun _ _ => u10) (u11 p)
theorem j21_ok (l5 : G4) (j22 : G3) : I c25 (q10 l5 j22 K) a h = j21g l5 j22 K (a 2) (a 3) (a 4) (a 12) h := by kernel_rfl
theorem u25 (p : j21 K (a 2) (a 3) (a 4) (a 12) h) : I c25 (q10 l5 j22 K) a h := ICx.to p (j21_ok l5 j22)
theorem j20_ok (j21 : G4) (l5 : G4) (j22 : G3) : I c26 (q11 j21 l5 j22 K) a h = j20g j21 l5 j22 K (a 2) (a 3) (a 4) (a 12) h := by kernel_rfl
theorem u26 (p : j20 K (a 2) (a 3) (a 4) (a 12) h) : I c26 (q11 j21 l5 j22 K) a h := ICx.to p (j20_ok j21 l5 j22)
theorem u24 (p : j20 K (a 2) (a 3) (a 4) (a 12) h) : I c24 (q10 l5 j22 K) a h := ICx.sq (fun _ _ => u25) (u26 p)
theorem b5_ok (j20 : G4) (l5 : G4) (j22 : G3) : I c27 (q12 j20 l5 j22 K) a h = b5g j20 l5 j22 K (a 2) (a 3) (a 4) (a 12) h := by kernel_rfl
theorem u27 (p : b5 K (a 2) (a 3) (a 4) (a 12) h) : I c27 (q12 j20 l5 j22 K) a h := ICx.to p (b5_ok j20 l5 j22)
theorem u23 (p : b5 K (a 2) (a 3) (a 4) (a 12) h) : I c23 (q10 l5 j22 K) a h := ICx.sq (fun _ _ => u24) (u27 p)
theorem u22 (p : l5 K (a 2) (a 3) (a 4) (a 12) h) : I c22 (q9 j22 K) a h := ICx.lp (p a rfl rfl rfl rfl)
theorem l5_round {x2 x3 x4 x12 : IV} (p : b5 K x2 x3 x4 x12 h) : l5 K x2 x3 x4 x12 h := by
  intro a e2 e3 e4 e12
  subst e2; subst e3; subst e4; subst e12; exact ICx.round Try.mixed (D := D) (L := fun a h => l5 K (a 2) (a 3) (a 4) (a 12) h) (fun a h p => p a rfl rfl rfl rfl) (u23 p)
theorem u21 (p : l5 K (a 2) (a 3) (a 4) (a 12) h) : I c21 (q8 j22 K) a h := ICx.blk (u22 p)
theorem j19_ok (l5 : G4) (j22 : G3) : I c28 (q13 l5 j22 K) a h = j19g l5 j22 K (a 2) (a 3) (a 4) h := by kernel_rfl
theorem u28 (p : j19 K (a 2) (a 3) (a 4) h) : I c28 (q13 l5 j22 K) a h := ICx.to p (j19_ok l5 j22)
theorem u20 (p : j19 K (a 2) (a 3) (a 4) h) : I c20 (q8 j22 K) a h := ICx.sq (fun _ _ => u21) (u28 p)
theorem u8 (p : j19 K (a 2) (a 3) (a 4) h) : I c8 (q1 K) a h := ICx.sq (fun _ _ => u9) (u20 p)
theorem j18_ok (l4 : G4) (j19 : G3) : I c34 (q16 l4 j19 K) a h = j18g l4 j19 K (a 2) (a 3) (a 4) (a 10) h := by kernel_rfl
theorem u34 (p : j18 K (a 2) (a 3) (a 4) (a 10) h) : I c34 (q16 l4 j19 K) a h := ICx.to p (j18_ok l4 j19)
theorem j17_ok (j18 : G4) (l4 : G4) (j19 : G3) : I c35 (q17 j18 l4 j19 K) a h = j17g j18 l4 j19 K (a 2) (a 3) (a 4) (a 10) h := by kernel_rfl
theorem u35 (p : j17 K (a 2) (a 3) (a 4) (a 10) h) : I c35 (q17 j18 l4 j19 K) a h := ICx.to p (j17_ok j18 l4 j19)
theorem u33 (p : j17 K (a 2) (a 3) (a 4) (a 10) h) : I c33 (q16 l4 j19 K) a h := ICx.sq (fun _ _ => u34) (u35 p)
theorem b4_ok (j17 : G4) (l4 : G4) (j19 : G3) : I c36 (q18 j17 l4 j19 K) a h = b4g j17 l4 j19 K (a 2) (a 3) (a 4) (a 10) h := by kernel_rfl
theorem u36 (p : b4 K (a 2) (a 3) (a 4) (a 10) h) : I c36 (q18 j17 l4 j19 K) a h := ICx.to p (b4_ok j17 l4 j19)
theorem u32 (p : b4 K (a 2) (a 3) (a 4) (a 10) h) : I c32 (q16 l4 j19 K) a h := ICx.sq (fun _ _ => u33) (u36 p)
theorem u31 (p : l4 K (a 2) (a 3) (a 4) (a 10) h) : I c31 (q15 j19 K) a h := ICx.lp (p a rfl rfl rfl rfl)
theorem l4_round {x2 x3 x4 x10 : IV} (p : b4 K x2 x3 x4 x10 h) : l4 K x2 x3 x4 x10 h := by
  intro a e2 e3 e4 e10
  subst e2; subst e3; subst e4; subst e10; exact ICx.round Try.mixed (D := D) (L := fun a h => l4 K (a 2) (a 3) (a 4) (a 10) h) (fun a h p => p a rfl rfl rfl rfl) (u32 p)
theorem u30 (p : l4 K (a 2) (a 3) (a 4) (a 10) h) : I c30 (q14 j19 K) a h := ICx.blk (u31 p)
theorem j16_ok (l4 : G4) (j19 : G3) : I c37 (q19 l4 j19 K) a h = j16g l4 j19 K (a 2) (a 3) (a 4) h := by kernel_rfl
theorem u37 (p : j16 K (a 2) (a 3) (a 4) h) : I c37 (q19 l4 j19 K) a h := ICx.to p (j16_ok l4 j19)
theorem u29 (p : j16 K (a 2) (a 3) (a 4) h) : I c29 (q14 j19 K) a h := ICx.sq (fun _ _ => u30) (u37 p)
theorem u7 (p : j16 K (a 2) (a 3) (a 4) h) : I c7 (q1 K) a h := ICx.sq (fun _ _ => u8) (u29 p)
theorem j15_ok (j16 : G3) : I c38 (q20 j16 K) a h = j15g j16 K (a 2) (a 3) (a 4) h := by kernel_rfl
theorem u38 (p : j15 K (a 2) (a 3) (a 4) h) : I c38 (q20 j16 K) a h := ICx.to p (j15_ok j16)
theorem u6 (p : j15 K (a 2) (a 3) (a 4) h) : I c6 (q1 K) a h := ICx.sq (fun _ _ => u7) (u38 p)
theorem j14_ok (l3 : G4) (j15 : G3) : I c44 (q23 l3 j15 K) a h = j14g l3 j15 K (a 2) (a 3) (a 4) (a 7) h := by kernel_rfl
theorem u44 (p : j14 K (a 2) (a 3) (a 4) (a 7) h) : I c44 (q23 l3 j15 K) a h := ICx.to p (j14_ok l3 j15)
theorem j13_ok (j14 : G4) (l3 : G4) (j15 : G3) : I c49 (q25 j14 l3 j15 K) a h = j13g j14 l3 j15 K (a 2) (a 3) (a 4) (a 7) (a 9) h := by kernel_rfl
theorem u49 (p : j13 K (a 2) (a 3) (a 4) (a 7) (a 9) h) : I c49 (q25 j14 l3 j15 K) a h := ICx.to p (j13_ok j14 l3 j15)
theorem j12_ok (j13 : G5) (j14 : G4) (l3 : G4) (j15 : G3) : I c50 (q26 j13 j14 l3 j15 K) a h = j12g j13 j14 l3 j15 K (a 2) (a 3) (a 4) (a 7) (a 9) h := by kernel_rfl
theorem u50 (p : j12 K (a 2) (a 3) (a 4) (a 7) (a 9) h) : I c50 (q26 j13 j14 l3 j15 K) a h := ICx.to p (j12_ok j13 j14 l3 j15)
theorem u48 (p : j12 K (a 2) (a 3) (a 4) (a 7) (a 9) h) : I c48 (q25 j14 l3 j15 K) a h := ICx.sq (fun _ _ => u49) (u50 p)
theorem j11_ok (j12 : G5) (j14 : G4) (l3 : G4) (j15 : G3) : I c51 (q27 j12 j14 l3 j15 K) a h = j11g j12 j14 l3 j15 K (a 2) (a 3) (a 4) (a 7) (a 8) h := by kernel_rfl
theorem u51 (p : j11 K (a 2) (a 3) (a 4) (a 7) (a 8) h) : I c51 (q27 j12 j14 l3 j15 K) a h := ICx.to p (j11_ok j12 j14 l3 j15)
theorem u47 (p : j11 K (a 2) (a 3) (a 4) (a 7) (a 8) h) : I c47 (q25 j14 l3 j15 K) a h := ICx.sq (fun _ _ => u48) (u51 p)
theorem j10_ok (j11 : G5) (j14 : G4) (l3 : G4) (j15 : G3) : I c52 (q28 j11 j14 l3 j15 K) a h = j10g j11 j14 l3 j15 K (a 2) (a 3) (a 4) (a 7) h := by kernel_rfl
theorem u52 (p : j10 K (a 2) (a 3) (a 4) (a 7) h) : I c52 (q28 j11 j14 l3 j15 K) a h := ICx.to p (j10_ok j11 j14 l3 j15)
theorem u46 (p : j10 K (a 2) (a 3) (a 4) (a 7) h) : I c46 (q25 j14 l3 j15 K) a h := ICx.sq (fun _ _ => u47) (u52 p)
theorem u45 (p : j10 K (a 2) (a 3) (a 4) (a 7) h) : I c45 (q24 j14 l3 j15 K) a h := ICx.blk (u46 p)
theorem u43 (p : j10 K (a 2) (a 3) (a 4) (a 7) h) : I c43 (q23 l3 j15 K) a h := ICx.sq (fun _ _ => u44) (u45 p)
theorem b3_ok (j10 : G4) (l3 : G4) (j15 : G3) : I c53 (q29 j10 l3 j15 K) a h = b3g j10 l3 j15 K (a 2) (a 3) (a 4) (a 7) h := by kernel_rfl
theorem u53 (p : b3 K (a 2) (a 3) (a 4) (a 7) h) : I c53 (q29 j10 l3 j15 K) a h := ICx.to p (b3_ok j10 l3 j15)
theorem u42 (p : b3 K (a 2) (a 3) (a 4) (a 7) h) : I c42 (q23 l3 j15 K) a h := ICx.sq (fun _ _ => u43) (u53 p)
theorem u41 (p : l3 K (a 2) (a 3) (a 4) (a 7) h) : I c41 (q22 j15 K) a h := ICx.lp (p a rfl rfl rfl rfl)
theorem l3_round {x2 x3 x4 x7 : IV} (p : b3 K x2 x3 x4 x7 h) : l3 K x2 x3 x4 x7 h := by
  intro a e2 e3 e4 e7
  subst e2; subst e3; subst e4; subst e7; exact ICx.round Try.mixed (D := D) (L := fun a h => l3 K (a 2) (a 3) (a 4) (a 7) h) (fun a h p => p a rfl rfl rfl rfl) (u42 p)
theorem u40 (p : l3 K (a 2) (a 3) (a 4) (a 7) h) : I c40 (q21 j15 K) a h := ICx.blk (u41 p)
theorem j9_ok (l3 : G4) (j15 : G3) : I c54 (q30 l3 j15 K) a h = j9g l3 j15 K (a 2) (a 3) (a 4) h := by kernel_rfl
theorem u54 (p : j9 K (a 2) (a 3) (a 4) h) : I c54 (q30 l3 j15 K) a h := ICx.to p (j9_ok l3 j15)
theorem u39 (p : j9 K (a 2) (a 3) (a 4) h) : I c39 (q21 j15 K) a h := ICx.sq (fun _ _ => u40) (u54 p)
theorem u5 (p : j9 K (a 2) (a 3) (a 4) h) : I c5 (q1 K) a h := ICx.sq (fun _ _ => u6) (u39 p)
theorem j8_ok (l2 : G4) (j9 : G3) : I c60 (q33 l2 j9 K) a h = j8g l2 j9 K (a 2) (a 3) (a 4) (a 6) h := by kernel_rfl
theorem u60 (p : j8 K (a 2) (a 3) (a 4) (a 6) h) : I c60 (q33 l2 j9 K) a h := ICx.to p (j8_ok l2 j9)
theorem j7_ok (j8 : G4) (l2 : G4) (j9 : G3) : I c61 (q34 j8 l2 j9 K) a h = j7g j8 l2 j9 K (a 2) (a 3) (a 4) (a 6) h := by kernel_rfl
theorem u61 (p : j7 K (a 2) (a 3) (a 4) (a 6) h) : I c61 (q34 j8 l2 j9 K) a h := ICx.to p (j7_ok j8 l2 j9)
theorem u59 (p : j7 K (a 2) (a 3) (a 4) (a 6) h) : I c59 (q33 l2 j9 K) a h := ICx.sq (fun _ _ => u60) (u61 p)
theorem b2_ok (j7 : G4) (l2 : G4) (j9 : G3) : I c62 (q35 j7 l2 j9 K) a h = b2g j7 l2 j9 K (a 2) (a 3) (a 4) (a 6) h := by kernel_rfl
theorem u62 (p : b2 K (a 2) (a 3) (a 4) (a 6) h) : I c62 (q35 j7 l2 j9 K) a h := ICx.to p (b2_ok j7 l2 j9)
theorem u58 (p : b2 K (a 2) (a 3) (a 4) (a 6) h) : I c58 (q33 l2 j9 K) a h := ICx.sq (fun _ _ => u59) (u62 p)
theorem u57 (p : l2 K (a 2) (a 3) (a 4) (a 6) h) : I c57 (q32 j9 K) a h := ICx.lp (p a rfl rfl rfl rfl)
theorem l2_round {x2 x3 x4 x6 : IV} (p : b2 K x2 x3 x4 x6 h) : l2 K x2 x3 x4 x6 h := by
  intro a e2 e3 e4 e6
  subst e2; subst e3; subst e4; subst e6; exact ICx.round Try.mixed (D := D) (L := fun a h => l2 K (a 2) (a 3) (a 4) (a 6) h) (fun a h p => p a rfl rfl rfl rfl) (u58 p)
theorem u56 (p : l2 K (a 2) (a 3) (a 4) (a 6) h) : I c56 (q31 j9 K) a h := ICx.blk (u57 p)
theorem j6_ok (l2 : G4) (j9 : G3) : I c63 (q36 l2 j9 K) a h = j6g l2 j9 K (a 2) (a 3) (a 4) h := by kernel_rfl
theorem u63 (p : j6 K (a 2) (a 3) (a 4) h) : I c63 (q36 l2 j9 K) a h := ICx.to p (j6_ok l2 j9)
theorem u55 (p : j6 K (a 2) (a 3) (a 4) h) : I c55 (q31 j9 K) a h := ICx.sq (fun _ _ => u56) (u63 p)
theorem u4 (p : j6 K (a 2) (a 3) (a 4) h) : I c4 (q1 K) a h := ICx.sq (fun _ _ => u5) (u55 p)
theorem j5_ok (l1 : G4) (j6 : G3) : I c69 (q39 l1 j6 K) a h = j5g l1 j6 K (a 2) (a 3) (a 4) (a 5) h := by kernel_rfl
theorem u69 (p : j5 K (a 2) (a 3) (a 4) (a 5) h) : I c69 (q39 l1 j6 K) a h := ICx.to p (j5_ok l1 j6)
theorem j4_ok (j5 : G4) (l1 : G4) (j6 : G3) : I c70 (q40 j5 l1 j6 K) a h = j4g j5 l1 j6 K (a 2) (a 3) (a 4) (a 5) h := by kernel_rfl
theorem u70 (p : j4 K (a 2) (a 3) (a 4) (a 5) h) : I c70 (q40 j5 l1 j6 K) a h := ICx.to p (j4_ok j5 l1 j6)
theorem u68 (p : j4 K (a 2) (a 3) (a 4) (a 5) h) : I c68 (q39 l1 j6 K) a h := ICx.sq (fun _ _ => u69) (u70 p)
theorem b1_ok (j4 : G4) (l1 : G4) (j6 : G3) : I c71 (q41 j4 l1 j6 K) a h = b1g j4 l1 j6 K (a 2) (a 3) (a 4) (a 5) h := by kernel_rfl
theorem u71 (p : b1 K (a 2) (a 3) (a 4) (a 5) h) : I c71 (q41 j4 l1 j6 K) a h := ICx.to p (b1_ok j4 l1 j6)
theorem u67 (p : b1 K (a 2) (a 3) (a 4) (a 5) h) : I c67 (q39 l1 j6 K) a h := ICx.sq (fun _ _ => u68) (u71 p)
theorem u66 (p : l1 K (a 2) (a 3) (a 4) (a 5) h) : I c66 (q38 j6 K) a h := ICx.lp (p a rfl rfl rfl rfl)
theorem l1_round {x2 x3 x4 x5 : IV} (p : b1 K x2 x3 x4 x5 h) : l1 K x2 x3 x4 x5 h := by
  intro a e2 e3 e4 e5
  subst e2; subst e3; subst e4; subst e5; exact ICx.round Try.mixed (D := D) (L := fun a h => l1 K (a 2) (a 3) (a 4) (a 5) h) (fun a h p => p a rfl rfl rfl rfl) (u67 p)
theorem u65 (p : l1 K (a 2) (a 3) (a 4) (a 5) h) : I c65 (q37 j6 K) a h := ICx.blk (u66 p)
theorem j3_ok (l1 : G4) (j6 : G3) : I c72 (q42 l1 j6 K) a h = j3g l1 j6 K (a 2) (a 3) (a 4) h := by kernel_rfl
theorem u72 (p : j3 K (a 2) (a 3) (a 4) h) : I c72 (q42 l1 j6 K) a h := ICx.to p (j3_ok l1 j6)
theorem u64 (p : j3 K (a 2) (a 3) (a 4) h) : I c64 (q37 j6 K) a h := ICx.sq (fun _ _ => u65) (u72 p)
theorem u3 (p : j3 K (a 2) (a 3) (a 4) h) : I c3 (q1 K) a h := ICx.sq (fun _ _ => u4) (u64 p)
theorem j2_ok (j3 : G3) : I c73 (q43 j3 K) a h = j2g j3 K (a 2) (a 3) h := by kernel_rfl
theorem u73 (p : j2 K (a 2) (a 3) h) : I c73 (q43 j3 K) a h := ICx.to p (j2_ok j3)
theorem u2 (p : j2 K (a 2) (a 3) h) : I c2 (q1 K) a h := ICx.sq (fun _ _ => u3) (u73 p)
theorem j1_ok (j2 : G2) : I c74 (q44 j2 K) a h = j1g j2 K (a 0) (a 2) h := by kernel_rfl
theorem u74 (p : j1 K (a 0) (a 2) h) : I c74 (q44 j2 K) a h := ICx.to p (j1_ok j2)
theorem u1 (p : j1 K (a 0) (a 2) h) : I c1 (q1 K) a h := ICx.sq (fun _ _ => u2) (u74 p)
theorem e_ok (j1 : G2) : I c75 (q45 j1 K) a h = eg j1 K (a 0) h := by kernel_rfl
theorem u75 (p : e K (a 0) h) : I c75 (q45 j1 K) a h := ICx.to p (e_ok j1)
theorem u0 (p : e K (a 0) h) : I c0 (q1 K) a h := ICx.sq (fun _ _ => u1) (u75 p)
theorem call {x0 : IV} (p : e K x0 h) : Z5 PP Z3m [x0] h K :=
  ICx.fn Try.mixed Try.func28 rfl (Nat.le_of_ble_eq_true rfl) (u0 (a := actI [x0]) p)
end Zr
namespace Z41
def D : Nat → DI
  | 1 => ⟨[0, 0, 0, 0, 14, 31, 63, 127, 127, 127, 0, 1279, 3583, 8191], [0, 1, 2, 3, 10, 4, 5, 6, 7, 8, 9, 11, 12, 13], [10]⟩
  | _ => ⟨[], [], []⟩
abbrev I := ICx PP 21 D
def c0 : Code := bodyN Try.f29
abbrev q1 (K : KT) : QT := finK PP Try.f29.results.toList K
def e (K : KT) (x0 x1 x2 : IV) (h : Heap) : Prop :=
 oA (Zi Z6 x1 h) h fun v1 h1 =>
 oA (Zp PP Z3 h1) h1 fun v2 h2 =>
 oD (Z1 PP Z6 v1 (h2 ++ [none])) (h2 ++ [none]) fun v3 =>
 oV x0 (h2 ++ [none]) fun v4 =>
 oD (Z1 PP Z6 v1 (h2 ++ [none])) (h2 ++ [none]) fun v5 =>
 oV x2 (h2 ++ [none]) fun v6 =>
 oK (newA PP Z3) fun v7 =>
 Z5 PP Z3v [v4, v5, v6] (h2 ++ [none]) fun v8 h3 => oB ((Zb (Z1 PP Z6 v1 h3) v3 h3) ∧ True) <|
 Z5 PP Z3u [v3, v8] h3 fun v9 h4 => oB (True) <|
 oV v9 h4 fun v10 =>
 oD (Zg v10 0) h4 fun v11 =>
 oD (Zg v10 1) h4 fun v12 =>
 oD (Zg v10 2) h4 fun v13 =>
 oS (Z9 PP Z3 (mkV v7.1 (h2.length)) v11 (h4.set (h2.length) (some v7.2))) (h4.set (h2.length) (some v7.2)) fun h5 => oB (True) <|
 oV v12 h5 fun v14 =>
 oV v13 h5 fun v15 =>
 oD (Z1 PP Z3 (mkV v7.1 (h2.length)) h5) h5 fun v16 =>
 oS (Z9 PP Z3 v2 v16 h5) h5 fun h6 =>
 Zd PP [.c v2 Z3] h6 K
theorem u0 (p : e K (a 0) (a 1) (a 2) h) : I c0 (q1 K) a h := ICx.to p
theorem call {x0 x1 x2 : IV} (p : e K x0 x1 x2 h) : Z5 PP Z3n [x0, x1, x2] h K :=
  ICx.fn Try.mixed Try.func29 rfl (Nat.le_of_ble_eq_true rfl) (u0 (a := actI [x0, x1, x2]) p)
end Z41
end
end Go.Ideal
namespace Go.Ideal
open Go.Proofs
set_option maxRecDepth 100000
noncomputable section
variable {K : KT} {a : IAct} {h : Heap}
namespace Z1w
def D : Nat → DI
  | 4 => ⟨[0, 0, 0, 4, 0, 28, 60, 127], [0, 1, 2, 3, 4, 5, 6, 7], []⟩
  | _ => ⟨[], [], []⟩
abbrev I := ICx PP 33 D
def c0 : Code := bodyN Try.f30
def c1 : Code := cR c0
def c2 : Code := cR c1
def c3 : Code := cL c2
def c4 : Code := cL c3
def c5 : Code := cR c4
def c6 : Code := cR c5
def c7 : Code := cR c6
def c8 : Code := cL c6
def c9 : Code := cL c5
def c10 : Code := cL c4
def c11 : Code := cL c1
def c12 : Code := cL c0
abbrev q1 (K : KT) : QT := finK PP Try.f30.results.toList K
abbrev q2 (K : KT) : QT := Zq 0 (q1 K)
def l1 (K : KT) (x2 x3 x17 x18 x19 : IV) (h : Heap) : Prop := ∀ a : IAct, a 2 = x2 → a 3 = x3 → a 17 = x17 → a 18 = x18 → a 19 = x19 → ILoop PP 33 c4 (q2 K) a h
abbrev q3 (l1 : G5) (K : KT) : QT := Z4 (fun a h => l1 K (a 2) (a 3) (a 17) (a 18) (a 19) h) (q2 K)
def j4g (l1 : G5) (K : KT) (x2 x3 x17 x18 x19 : IV) (h : Heap) : Prop :=
 oD (Z7 PP .add Z0 x19 (.int .i64 1)) h fun v1 =>
 oV v1 h fun v2 =>
 l1 K x2 x3 x17 x18 v2 h
abbrev j4 : G5 := j4g l1
abbrev q4 (j4 : G5) (l1 : G5) (K : KT) : QT := Z4 (fun a h => j4 K (a 2) (a 3) (a 17) (a 18) (a 19) h) (q3 l1 K)
def j3g (j4 : G5) (l1 : G5) (K : KT) (x2 x3 x17 x18 x19 : IV) (h : Heap) : Prop :=
 oV x19 h fun v1 =>
 oD (Zf PP Zh x17 x19 h) h fun v2 =>
 oD (Z1 PP Za v2 h) h fun v3 =>
 oA (Zp PP Za h) h fun v4 h1 =>
 oV v1 h1 fun v5 =>
 oS (Z9 PP Za v4 v3 h1) h1 fun h2 =>
 oV x2 h2 fun v6 =>
 oD (Z1 PP Za v4 h2) h2 fun v7 =>
 oD (Z2 PP Z6 x3 3) h2 fun v8 =>
 oD (Z1 PP Zw v8 h2) h2 fun v9 =>
 oV v5 h2 fun v10 =>
 oD (Zf PP Zw v9 v10 h2) h2 fun v11 =>
 oD (Z1 PP Zs v11 h2) h2 fun v12 =>
 callK PP sT v6 [v7, v12] h2 fun v13 h3 => oB (True) <|
 j4 K x2 x3 x17 x18 x19 h3
abbrev j3 : G5 := j3g j4 l1
abbrev q5 (j3 : G5) (l1 : G5) (K : KT) : QT := Z4 (fun a h => j3 K (a 2) (a 3) (a 17) (a 18) (a 19) h) (q3 l1 K)
def j2g (j3 : G5) (l1 : G5) (K : KT) (x2 x3 x17 x18 x19 x20 : IV) (h : Heap) : Prop :=
 bK' x20
   (j3 K x2 x3 x17 x18 x19 h)
   (Zd PP [] h K)
abbrev j2 : G6 := j2g j3 l1
abbrev q6 (j2 : G6) (l1 : G5) (K : KT) : QT := Z4 (fun a h => j2 K (a 2) (a 3) (a 17) (a 18) (a 19) (a 20) h) (q3 l1 K)
def b1g (j2 : G6) (l1 : G5) (K : KT) (x2 x3 x17 x18 x19 : IV) (h : Heap) : Prop :=
 oD (Z7 PP .lss Z0 x19 x18) h fun v1 =>
 j2 K x2 x3 x17 x18 x19 v1 h
abbrev b1 : G5 := b1g j2 l1
abbrev q7 (l1 : G5) (K : KT) : QT := Z4 (fun a h => l1 K (a 2) (a 3) (a 17) (a 18) (a 19) h) (q1 K)
def j1g (l1 : G5) (K : KT) (x2 x3 x4 : IV) (h : Heap) : Prop :=
 oD (Z2 PP Z3 x4 2) h fun v1 =>
 oD (Z1 PP Zh v1 h) h fun v2 =>
 oD (Z2 PP Z3 x4 2) h fun v3 =>
 oD (Z1 PP Zh v3 h) h fun v4 =>
 oD (lenI PP Zh v4) h fun v5 =>
 oD (Z2 PP Z6 x3 3) h fun v6 =>
 oD (Z1 PP Zw v6 h) h fun v7 =>
 oD (lenI PP Zw v7) h fun v8 =>
 oD (mmI false v5 [v8]) h fun v9 =>
 oD (sliceI PP Zh v2 none (some v9) h) h fun v10 =>
 oD (lenI PP Zh v10) h fun v11 =>
 oV (.int .i64 0) h fun v12 =>
 l1 K x2 x3 v10 v11 v12 h
abbrev j1 : G3 := j1g l1
abbrev q8 (j1 : G3) (K : KT) : QT := Z4 (fun a h => j1 K (a 2) (a 3) (a 4) h) (q1 K)
def eg (j1 : G3) (K : KT) (x0 x1 x2 : IV) (h : Heap) : Prop :=
 oA (Zi Z6 x0 h) h fun v1 h1 =>
 oA (Zi Z3 x1 h1) h1 fun v2 h2 =>
 j1 K x2 v1 v2 h2
abbrev e : G3 := eg j1
theorem j4_ok (l1 : G5) : I c7 (q3 l1 K) a h = j4g l1 K (a 2) (a 3) (a 17) (a 18) (a 19) h := by kernel_rfl
theorem u7 (p : j4 K (a 2) (a 3) (a 17) (a 18) (a 19) h) : I c7 (q3 l1 K) a h := ICx.to p (j4_ok l1)
theorem j3_ok (j4 : G5) (l1 : G5) : I c8 (q4 j4 l1 K) a h = j3g j4 l1 K (a 2) (a 3) (a 17) (a 18) (a 19) h := by kernel_rfl
theorem u8 (p : j3 K (a 2) (a 3) (a 17) (a 18) (a 19) h) : I c8 (q4 j4 l1 K) a h := ICx.to p (j3_ok j4 l1)
theorem u6 (p : j3 K (a 2) (a 3) (a 17) (a 18) (a 19) h) : I c6 (q3 l1 K) a h := ICx.sq (fun _ _ => u7) (u8 p)
theorem j2_ok (j3 : G5) (l1 : G5) : I c9 (q5 j3 l1 K) a h = j2g j3 l1 K (a 2) (a 3) (a 17) (a 18) (a 19) (a 20) h := by kernel_rfl
theorem u9 (p : j2 K (a 2) (a 3) (a 17) (a 18) (a 19) (a 20) h) : I c9 (q5 j3 l1 K) a h := ICx.to p (j2_ok j3 l1)
theorem u5 (p : j2 K (a 2) (a 3) (a 17) (a 18) (a 19) (a 20) h) : I c5 (q3 l1 K) a h := ICx.sq (fun _ _ => u6) (u9 p)
theorem b1_ok (j2 : G6) (l1 : G5) : I c10 (q6 j2 l1 K) a h = b1g j2 l1 K (a 2) (a 3) (a 17) (a 18) (a 19) h := by kernel_rfl
theorem u10 (p : b1 K (a 2) (a 3) (a 17) (a 18) (a 19) h) : I c10 (q6 j2 l1 K) a h := ICx.to p (b1_ok j2 l1)
theorem u4 (p : b1 K (a 2) (a 3) (a 17) (a 18) (a 19) h) : I c4 (q3 l1 K) a h := ICx.sq (fun _ _ => u5) (u10 p)
theorem u3 (p : l1 K (a 2) (a 3) (a 17) (a 18) (a 19) h) : I c3 (q2 K) a h := ICx.lp (p a rfl rfl rfl rfl rfl)
theorem l1_round {x2 x3 x17 x18 x19 : IV} (p : b1 K x2 x3 x17 x18 x19 h) : l1 K x2 x3 x17 x18 x19 h := by
  intro a e2 e3 e17 e18 e19
  subst e2; subst e3; subst e17; subst e18; subst e19; exact ICx.round Try.mixed (D := D) (L := fun a h => l1 K (a 2) (a 3) (a 17) (a 18) (a 19) h) (fun a h p => p a rfl rfl rfl rfl rfl) (u4 p)
theorem u2 (p : l1 K (a 2) (a 3) (a 17) (a 18) (a 19) h) : I c2 (q1 K) a h := ICx.blk (u3 p)
theorem j1_ok (l1 : G5) : I c11 (q7 l1 K) a h = j1g l1 K (a 2) (a 3) (a 4) h := by kernel_rfl
theorem u11 (p : j1 K (a 2) (a 3) (a 4) h) : I c11 (q7 l1 K) a h := ICx.to p (j1_ok l1)
theorem u1 (p : j1 K (a 2) (a 3) (a 4) h) : I c1 (q1 K) a h := ICx.sq (fun _ _ => u2) (u11 p)
theorem e_ok (j1 : G3) : I c12 (q8 j1 K) a h = eg j1 K (a 0) (a 1) (a 2) h := by kernel_rfl
theorem u12 (p : e K (a 0) (a 1) (a 2) h) : I c12 (q8 j1 K) a h := ICx.to p (e_ok j1)
theorem u0 (p : e K (a 0) (a 1) (a 2) h) : I c0 (q1 K) a h := ICx.sq (fun _ _ => u1) (u12 p)
theorem call {x0 x1 x2 : IV} (p : e K x0 x1 x2 h) : Z5 PP Z2g [x0, x1, x2] h K :=
  ICx.fn Try.mixed Try.func30 rfl (Nat.le_of_ble_eq_true rfl) (u0 (a := actI [x0, x1, x2]) p)
end Z1w
namespace Z2k
def D : Nat → DI
  | _ => ⟨[], [], []⟩
abbrev I := ICx PP 33 D
def c0 : Code := bodyN Try.f31
def c1 : Code := cR c0
def c2 : Code := cR c1
def c3 : Code := cL c1
def c4 : Code := cL c0
abbrev q1 (K : KT) : QT := finK PP Try.f31.results.toList K
def j2 (K : KT) (x2 x3 x4 : IV) (h : Heap) : Prop :=
 oD (Z2 PP Za x3 0) h fun v1 =>
 oD (Z1 PP Zy v1 h) h fun v2 =>
 bK' v2
   (oD (Z1 PP ZF x2 h) h fun v3 =>
   oD (Z2 PP Za x3 3) h fun v4 =>
   oD (Z1 PP Z0 v4 h) h fun v5 =>
   oD (Z2 PP Zs x4 1) h fun v6 =>
   oD (Z1 PP Z0 v6 h) h fun v7 =>
   Z5 PP Z1Q [v3, v5, v7] h fun v8 h1 =>
   oD (Z1 PP ZF x2 h1) h1 fun v9 =>
   oD (Z2 PP Za x3 4) h1 fun v10 =>
   oD (Z1 PP Z0 v10 h1) h1 fun v11 =>
   oD (Z2 PP Zs x4 1) h1 fun v12 =>
   oD (Z1 PP Z0 v12 h1) h1 fun v13 =>
   Z5 PP Z1Q [v9, v11, v13] h1 fun v14 h2 =>
   Zd PP [] h2 K)
   (Zd PP [] h K)
abbrev q2 (j2 : G3) (K : KT) : QT := Z4 (fun a h => j2 K (a 2) (a 3) (a 4) h) (q1 K)
def j1g (j2 : G3) (K : KT) (x2 x3 x4 : IV) (h : Heap) : Prop :=
 oD (Z1 PP Za x3 h) h fun v1 =>
 Z5 PP Z2y [v1] h fun v2 h1 =>
 bK' v2
   (oD (Z1 PP ZF x2 h1) h1 fun v3 =>
   oD (Z2 PP Za x3 2) h1 fun v4 =>
   oD (Z1 PP Z0 v4 h1) h1 fun v5 =>
   oD (Z2 PP Zs x4 0) h1 fun v6 =>
   oD (Z1 PP Z0 v6 h1) h1 fun v7 =>
   Z5 PP Z1Q [v3, v5, v7] h1 fun v8 h2 =>
   oD (Z1 PP ZF x2 h2) h2 fun v9 =>
   oD (Z2 PP Za x3 5) h2 fun v10 =>
   oD (Z1 PP Z0 v10 h2) h2 fun v11 =>
   oD (Z2 PP Zs x4 0) h2 fun v12 =>
   oD (Z1 PP Z0 v12 h2) h2 fun v13 =>
   Z5 PP Z1Q [v9, v11, v13] h2 fun v14 h3 =>
   j2 K x2 x3 x4 h3)
   (j2 K x2 x3 x4 h1)
abbrev j1 : G3 := j1g j2
abbrev q3 (j1 : G3) (K : KT) : QT := Z4 (fun a h => j1 K (a 2) (a 3) (a 4) h) (q1 K)
def eg (j1 : G3) (K : KT) (x0 x1 x2 : IV) (h : Heap) : Prop :=
 oA (Zi Za x0 h) h fun v1 h1 =>
 oA (Zi Zs x1 h1) h1 fun v2 h2 =>
 j1 K x2 v1 v2 h2
abbrev e : G3 := eg j1
theorem u2 (p : j2 K (a 2) (a 3) (a 4) h) : I c2 (q1 K) a h := ICx.to p
theorem j1_ok (j2 : G3) : I c3 (q2 j2 K) a h = j1g j2 K (a 2) (a 3) (a 4) h := by kernel_rfl
theorem u3 (p : j1 K (a 2) (a 3) (a 4) h) : I c3 (q2 j2 K) a h := ICx.to p (j1_ok j2)
theorem u1 (p : j1 K (a 2) (a 3) (a 4) h) : I c1 (q1 K) a h := ICx.sq (fun _ _ => u2) (u3 p)
theorem e_ok (j1 : G3) : I c4 (q3 j1 K) a h = eg j1 K (a 0) (a 1) (a 2) h := by kernel_rfl
theorem u4 (p : e K (a 0) (a 1) (a 2) h) : I c4 (q3 j1 K) a h := ICx.to p (e_ok j1)
theorem u0 (p : e K (a 0) (a 1) (a 2) h) : I c0 (q1 K) a h := ICx.sq (fun _ _ => u1) (u4 p)
theorem call {x0 x1 x2 : IV} (p : e K x0 x1 x2 h) : Z5 PP Z3o [x0, x1, x2] h K :=
  ICx.fn Try.mixed Try.func31 rfl (Nat.le_of_ble_eq_true rfl) (u0 (a := actI [x0, x1, x2]) p)
end Z2k
namespace Z4y
def D : Nat → DI
  | _ => ⟨[], [], []⟩
abbrev I := ICx PP 10 D
def c0 : Code := bodyN Try.f32
abbrev q1 (K : KT) : QT := finK PP Try.f32.results.toList K
def e (K : KT) (x0 : IV) (h : Heap) : Prop :=
 oA (Zi Za x0 h) h fun v1 h1 =>
 oV (.bool false) h1 fun v2 =>
 oD (Z2 PP Za v1 0) h1 fun v3 =>
 oD (Z1 PP Zy v3 h1) h1 fun v4 =>
 oV v4 h1 fun v5 =>
 oG (gW v5 true) (Z2 PP Za v1 1) h1 fun v6 =>
 oG (gW v5 true) (Z1 PP Zy v6 h1) h1 fun v7 =>
 oG (gW v5 true) (unI .not v7) h1 fun v8 =>
 oP sT (Ze v5 v8 (.bool false) h1) h1 fun v9 =>
 oV v9 h1 fun v10 =>
 Zd PP [.v v10] h1 K
theorem u0 (p : e K (a 0) h) : I c0 (q1 K) a h := ICx.to p
theorem call {x0 : IV} (p : e K x0 h) : Z5 PP Z2y [x0] h K :=
  ICx.fn Try.mixed Try.func32 rfl (Nat.le_of_ble_eq_true rfl) (u0 (a := actI [x0]) p)
end Z4y
namespace Z36
def D : Nat → DI
  | _ => ⟨[], [], []⟩
abbrev I := ICx PP 21 D
def c0 : Code := bodyN Try.f33
abbrev q1 (K : KT) : QT := finK PP Try.f33.results.toList K
def e (K : KT) (x0 x1 x2 : IV) (h : Heap) : Prop :=
 oV x1 h fun v1 =>
 oD (Z7 PP .geq Z0 v1 (.int .i64 0)) h fun v2 =>
 oV v2 h fun v3 =>
 oG (gW v3 true) (some x1) h fun v4 =>
 oG (gW v3 true) (some x0) h fun v5 =>
 oG (gW v3 true) (lenI PP ZF v5) h fun v6 =>
 oG (gW v3 true) (Z7 PP .lss Z0 v4 v6) h fun v7 =>
 oP sT (Ze v3 v7 (.bool false) h) h fun v8 =>
 bK' v8
   (oV x0 h fun v9 =>
   oV x1 h fun v10 =>
   oD (Zf PP ZF v9 v10 h) h fun v11 =>
   oD (Z1 PP Z0 v11 h) h fun v12 =>
   oV x2 h fun v13 =>
   oD (Z7 PP .add Z0 v12 v13) h fun v14 =>
   oD (Zf PP ZF v9 v10 h) h fun v15 =>
   oS (Z9 PP Z0 v15 v14 h) h fun h1 =>
   Zd PP [] h1 K)
   (Zd PP [] h K)
theorem u0 (p : e K (a 0) (a 1) (a 2) h) : I c0 (q1 K) a h := ICx.to p
theorem call {x0 x1 x2 : IV} (p : e K x0 x1 x2 h) : Z5 PP Z1Q [x0, x1, x2] h K :=
  ICx.fn Try.mixed Try.func33 rfl (Nat.le_of_ble_eq_true rfl) (u0 (a := actI [x0, x1, x2]) p)
end Z36
namespace Z37
def D : Nat → DI
  | _ => ⟨[], [], []⟩
abbrev I := ICx PP 23 D
def c0 : Code := bodyN Try.f34
abbrev q1 (K : KT) : QT := finK PP Try.f34.results.toList K
def e (K : KT) (x0 x1 x2 : IV) (h : Heap) : Prop :=
 oV x1 h fun v1 =>
 oD (Z7 PP .geq Z0 v1 (.int .i64 0)) h fun v2 =>
 oV v2 h fun v3 =>
 oG (gW v3 true) (some x1) h fun v4 =>
 oG (gW v3 true) (some x0) h fun v5 =>
 oG (gW v3 true) (lenI PP Zk v5) h fun v6 =>
 oG (gW v3 true) (Z7 PP .lss Z0 v4 v6) h fun v7 =>
 oP sT (Ze v3 v7 (.bool false) h) h fun v8 =>
 bK' v8
   (oV x0 h fun v9 =>
   oV x1 h fun v10 =>
   oV x0 h fun v11 =>
   oV x1 h fun v12 =>
   oD (Zf PP Zk v11 v12 h) h fun v13 =>
   oD (Z1 PP Z0 v13 h) h fun v14 =>
   oV x2 h fun v15 =>
   oD (Z7 PP .add Z0 v14 v15) h fun v16 =>
   oD (Zf PP Zk v9 v10 h) h fun v17 =>
   oS (Z9 PP Z0 v17 v16 h) h fun h1 =>
   Zd PP [] h1 K)
   (Zd PP [] h K)
theorem u0 (p : e K (a 0) (a 1) (a 2) h) : I c0 (q1 K) a h := ICx.to p
theorem call {x0 x1 x2 : IV} (p : e K x0 x1 x2 h) : Z5 PP Z1R [x0, x1, x2] h K :=
  ICx.fn Try.mixed Try.func34 rfl (Nat.le_of_ble_eq_true rfl) (u0 (a := actI [x0, x1, x2]) p)
end Z37
namespace Z4z
def D : Nat → DI
  | _ => ⟨[], [], []⟩
abbrev I := ICx PP 33 D
def c0 : Code := bodyN Try.f35
abbrev q1 (K : KT) : QT := finK PP Try.f35.results.toList K
def e (K : KT) (x0 x1 x2 x3 x4 : IV) (h : Heap) : Prop :=
 oA (Zi Za x0 h) h fun v1 h1 =>
 oA (Zi Zs x1 h1) h1 fun v2 h2 =>
 oD (Z1 PP Za v1 h2) h2 fun v3 =>
 Z5 PP Z2y [v3] h2 fun v4 h3 =>
 oV v4 h3 fun v5 =>
 oG (gW v5 true) (Z1 PP Z6 x2 h3) h3 fun v6 =>
 oG (gW v5 true) (Z2 PP Za v1 2) h3 fun v7 =>
 oG (gW v5 true) (Z1 PP Z0 v7 h3) h3 fun v8 =>
 oG (gW v5 true) (Z1 PP Z0 x3 h3) h3 fun v9 =>
 Zm PP (gW v5 true) Z25 [v6, v8, v9] h3 fun v10 h4 =>
 oP sT (Ze v5 v10 (.bool false) h4) h4 fun v11 =>
 oV v11 h4 fun v12 =>
 oG (gW v12 true) (Z1 PP Z6 x2 h4) h4 fun v13 =>
 oG (gW v12 true) (Z2 PP Za v1 3) h4 fun v14 =>
 oG (gW v12 true) (Z1 PP Z0 v14 h4) h4 fun v15 =>
 oG (gW v12 true) (Z1 PP Z0 x3 h4) h4 fun v16 =>
 Zm PP (gW v12 true) Z25 [v13, v15, v16] h4 fun v17 h5 =>
 oG (gW v12 true) (unI .not v17) h5 fun v18 =>
 oP sT (Ze v12 v18 (.bool false) h5) h5 fun v19 =>
 bK' v19
   (oD (Z1 PP ZF x4 h5) h5 fun v20 =>
   oD (Z2 PP Za v1 3) h5 fun v21 =>
   oD (Z1 PP Z0 v21 h5) h5 fun v22 =>
   oD (Z2 PP Zs v2 0) h5 fun v23 =>
   oD (Z1 PP Z0 v23 h5) h5 fun v24 =>
   oD (Z2 PP Zs v2 1) h5 fun v25 =>
   oD (Z1 PP Z0 v25 h5) h5 fun v26 =>
   oD (Z7 PP .sub Z0 v24 v26) h5 fun v27 =>
   Z5 PP Z1Q [v20, v22, v27] h5 fun v28 h6 =>
   Zd PP [] h6 K)
   (Zd PP [] h5 K)
theorem u0 (p : e K (a 0) (a 1) (a 2) (a 3) (a 4) h) : I c0 (q1 K) a h := ICx.to p
theorem call {x0 x1 x2 x3 x4 : IV} (p : e K x0 x1 x2 x3 x4 h) : Z5 PP Z3p [x0, x1, x2, x3, x4] h K :=
  ICx.fn Try.mixed Try.func35 rfl (Nat.le_of_ble_eq_true rfl) (u0 (a := actI [x0, x1, x2, x3, x4]) p)
end Z4z
namespace Z4A
def D : Nat → DI
  | _ => ⟨[], [], []⟩
abbrev I := ICx PP 18 D
def c0 : Code := bodyN Try.f36
abbrev q1 (K : KT) : QT := finK PP Try.f36.results.toList K
def e (K : KT) (x0 x1 x2 : IV) (h : Heap) : Prop :=
 oA (Zi Z6 x0 h) h fun v1 h1 =>
 oV (.bool false) h1 fun v2 =>
 oD (Z1 PP Z6 v1 h1) h1 fun v3 =>
 oV x1 h1 fun v4 =>
 Z5 PP Z2Y [v3, v4] h1 fun v5 h2 =>
 oV v5 h2 fun v6 =>
 oV v6 h2 fun v7 =>
 oD (Z7 PP .geq Z0 v7 (.int .i64 0)) h2 fun v8 =>
 oV v8 h2 fun v9 =>
 oG (gW v9 true) (some v6) h2 fun v10 =>
 oG (gW v9 true) (some x2) h2 fun v11 =>
 oG (gW v9 true) (Z7 PP .eql Z0 v10 v11) h2 fun v12 =>
 oP sT (Ze v9 v12 (.bool false) h2) h2 fun v13 =>
 oV v13 h2 fun v14 =>
 Zd PP [.v v14] h2 K
theorem u0 (p : e K (a 0) (a 1) (a 2) h) : I c0 (q1 K) a h := ICx.to p
theorem call {x0 x1 x2 : IV} (p : e K x0 x1 x2 h) : Z5 PP Z25 [x0, x1, x2] h K :=
  ICx.fn Try.mixed Try.func36 rfl (Nat.le_of_ble_eq_true rfl) (u0 (a := actI [x0, x1, x2]) p)
end Z4A
namespace Z4B
def D : Nat → DI
  | _ => ⟨[], [], []⟩
abbrev I := ICx PP 27 D
def c0 : Code := bodyN Try.f37
abbrev q1 (K : KT) : QT := finK PP Try.f37.results.toList K
def e (K : KT) (x0 x1 x2 : IV) (h : Heap) : Prop :=
 oA (Zi Z6 x0 h) h fun v1 h1 =>
 oA (Zi Za x1 h1) h1 fun v2 h2 =>
 oV (.bool false) h2 fun v3 =>
 oD (Z2 PP Za v2 0) h2 fun v4 =>
 oD (Z1 PP Zy v4 h2) h2 fun v5 =>
 oV v5 h2 fun v6 =>
 oG (gW v6 true) (Z2 PP Za v2 1) h2 fun v7 =>
 oG (gW v6 true) (Z1 PP Zy v7 h2) h2 fun v8 =>
 oG (gW v6 true) (unI .not v8) h2 fun v9 =>
 oP sT (Ze v6 v9 (.bool false) h2) h2 fun v10 =>
 oV v10 h2 fun v11 =>
 oG (gW v11 true) (Z2 PP Za v2 2) h2 fun v12 =>
 oG (gW v11 true) (Z1 PP Z0 v12 h2) h2 fun v13 =>
 oG (gW v11 true) (Z7 PP .geq Z0 v13 (.int .i64 0)) h2 fun v14 =>
 oP sT (Ze v11 v14 (.bool false) h2) h2 fun v15 =>
 oV v15 h2 fun v16 =>
 oG (gW v16 true) (Z1 PP Z6 v1 h2) h2 fun v17 =>
 oG (gW v16 true) (Z2 PP Za v2 2) h2 fun v18 =>
 oG (gW v16 true) (Z1 PP Z0 v18 h2) h2 fun v19 =>
 Zm PP (gW v16 true) Z1l [v17, v19] h2 fun v20 h3 =>
 oG (gW v16 true) (some x2) h3 fun v21 =>
 oG (gW v16 true) (Z7 PP .eql Z0 v20 v21) h3 fun v22 =>
 oP sT (Ze v16 v22 (.bool false) h3) h3 fun v23 =>
 oV v23 h3 fun v24 =>
 Zd PP [.v v24] h3 K
theorem u0 (p : e K (a 0) (a 1) (a 2) h) : I c0 (q1 K) a h := ICx.to p
theorem call {x0 x1 x2 : IV} (p : e K x0 x1 x2 h) : Z5 PP Z2W [x0, x1, x2] h K :=
  ICx.fn Try.mixed Try.func37 rfl (Nat.le_of_ble_eq_true rfl) (u0 (a := actI [x0, x1, x2]) p)
end Z4B
namespace Z4C
def D : Nat → DI
  | _ => ⟨[], [], []⟩
abbrev I := ICx PP 26 D
def c0 : Code := bodyN Try.f38
abbrev q1 (K : KT) : QT := finK PP Try.f38.results.toList K
def e (K : KT) (x0 x1 x2 x3 x4 x5 : IV) (h : Heap) : Prop :=
 oA (Zi Za x0 h) h fun v1 h1 =>
 oA (Zi Zs x1 h1) h1 fun v2 h2 =>
 oD (Z1 PP Za v1 h2) h2 fun v3 =>
 Z5 PP Z2y [v3] h2 fun v4 h3 =>
 oV v4 h3 fun v5 =>
 oG (gW v5 true) (Z1 PP Z6 x2 h3) h3 fun v6 =>
 oG (gW v5 true) (Z2 PP Za v1 2) h3 fun v7 =>
 oG (gW v5 true) (Z1 PP Z0 v7 h3) h3 fun v8 =>
 oG (gW v5 true) (Z1 PP Z0 x3 h3) h3 fun v9 =>
 Zm PP (gW v5 true) Z25 [v6, v8, v9] h3 fun v10 h4 =>
 oP sT (Ze v5 v10 (.bool false) h4) h4 fun v11 =>
 oV v11 h4 fun v12 =>
 oG (gW v12 true) (Z1 PP Z6 x2 h4) h4 fun v13 =>
 oG (gW v12 true) (Z1 PP Z3 x4 h4) h4 fun v14 =>
 oG (gW v12 true) (Z2 PP Za v1 3) h4 fun v15 =>
 oG (gW v12 true) (Z1 PP Z0 v15 h4) h4 fun v16 =>
 oG (gW v12 true) (Z1 PP Z0 x3 h4) h4 fun v17 =>
 Zm PP (gW v12 true) Z3r [v13, v14, v16, v17] h4 fun v18 h5 =>
 oG (gW v12 true) (unI .not v18) h5 fun v19 =>
 oP sT (Ze v12 v19 (.bool false) h5) h5 fun v20 =>
 bK' v20
   (oS (Z9 PP Zy x5 (.bool false) h5) h5 fun h6 =>
   Zd PP [] h6 K)
   (Zd PP [] h5 K)
theorem u0 (p : e K (a 0) (a 1) (a 2) (a 3) (a 4) (a 5) h) : I c0 (q1 K) a h := ICx.to p
theorem call {x0 x1 x2 x3 x4 x5 : IV} (p : e K x0 x1 x2 x3 x4 x5 h) : Z5 PP Z3q [x0, x1, x2, x3, x4, x5] h K :=
  ICx.fn Try.mixed Try.func38 rfl (Nat.le_of_ble_eq_true rfl) (u0 (a := actI [x0, x1, x2, x3, x4, x5]) p)
end Z4C
namespace Z2E
def D : Nat → DI
  | 3 => ⟨[0, 0, 3, 0, 8, 0, 56, 120, 0, 263, 1023], [0, 1, 3, 4, 5, 6, 7, 8, 2, 9, 10], [8]⟩
  | _ => ⟨[], [], []⟩
abbrev I := ICx PP 56 D
def c0 : Code := bodyN Try.f39
def c1 : Code := cR c0
def c2 : Code := cR c1
def c3 : Code := cL c1
def c4 : Code := cL c0
abbrev q1 (K : KT) : QT := finK PP Try.f39.results.toList K
def j2 (K : KT) (x2 x4 x5 : IV) (h : Heap) : Prop :=
 oD (Z1 PP Z6 x4 (h ++ [none])) (h ++ [none]) fun v1 =>
 oV x2 (h ++ [none]) fun v2 =>
 oD (Z2 PP Z3 x5 3) (h ++ [none]) fun v3 =>
 oD (Z1 PP Zl v3 (h ++ [none])) (h ++ [none]) fun v4 =>
 oV x2 (h ++ [none]) fun v5 =>
 oD (Zf PP Zl v4 v5 (h ++ [none])) (h ++ [none]) fun v6 =>
 oD (Z1 PP Zj v6 (h ++ [none])) (h ++ [none]) fun v7 =>
 oK (newA PP Zj) fun v8 =>
 Z5 PP Z2Y [v1, v2] (h ++ [none]) fun v9 h1 => oB ((Zb (Z1 PP Zj v6 h1) v7 h1) ∧ (Zb (Zf PP Zl v4 v5 h1) v6 h1) ∧ (Zb (Z1 PP Zl v3 h1) v4 h1) ∧ True) <|
 oV v9 h1 fun v10 =>
 oS (Z9 PP Zj (mkV v8.1 (h.length)) v7 (h1.set (h.length) (some v8.2))) (h1.set (h.length) (some v8.2)) fun h2 => oB (True) <|
 oV v10 h2 fun v11 =>
 oD (Z7 PP .geq Z0 v11 (.int .i64 0)) h2 fun v12 =>
 oV v12 h2 fun v13 =>
 oG (gW v13 true) (Z2 PP Zj (mkV v8.1 (h.length)) 0) h2 fun v14 =>
 oG (gW v13 true) (Z1 PP Z0 v14 h2) h2 fun v15 =>
 oG (gW v13 true) (Z7 PP .eql Z0 v15 (.int .i64 1)) h2 fun v16 =>
 oP sT (Ze v13 v16 (.bool false) h2) h2 fun v17 =>
 oV v17 h2 fun v18 =>
 oG (gW v18 true) (Z2 PP Zj (mkV v8.1 (h.length)) 1) h2 fun v19 =>
 oG (gW v18 true) (Z1 PP Z0 v19 h2) h2 fun v20 =>
 oG (gW v18 true) (Z2 PP Zj (mkV v8.1 (h.length)) 2) h2 fun v21 =>
 oG (gW v18 true) (Z1 PP Z0 v21 h2) h2 fun v22 =>
 oG (gW v18 true) (Z7 PP .eql Z0 v20 v22) h2 fun v23 =>
 oP sT (Ze v18 v23 (.bool false) h2) h2 fun v24 =>
 oV v24 h2 fun v25 =>
 oG (gW v25 true) (Z2 PP Z3 x5 5) h2 fun v26 =>
 oG (gW v25 true) (Z1 PP Z0 v26 h2) h2 fun v27 =>
 oG (gW v25 true) (some v10) h2 fun v28 =>
 oG (gW v25 true) (Z7 PP .shr Z0 v27 v28) h2 fun v29 =>
 oG (gW v25 true) (Z7 PP .and Z0 v29 (.int .i64 1)) h2 fun v30 =>
 oG (gW v25 true) (Z7 PP .eql Z0 v30 (.int .i64 0)) h2 fun v31 =>
 oP sT (Ze v25 v31 (.bool false) h2) h2 fun v32 =>
 oV v32 h2 fun v33 =>
 Zd PP [.v v33] h2 K
abbrev q2 (j2 : G3) (K : KT) : QT := Z4 (fun a h => j2 K (a 2) (a 4) (a 5) h) (q1 K)
def j1g (j2 : G3) (K : KT) (x2 x3 x4 x5 : IV) (h : Heap) : Prop :=
 oV x2 h fun v1 =>
 oD (Z7 PP .lss Z0 v1 (.int .i64 0)) h fun v2 =>
 oV v2 h fun v3 =>
 oG (gW v3 false) (some x2) h fun v4 =>
 oG (gW v3 false) (Z2 PP Z3 x5 3) h fun v5 =>
 oG (gW v3 false) (Z1 PP Zl v5 h) h fun v6 =>
 oG (gW v3 false) (lenI PP Zl v6) h fun v7 =>
 oG (gW v3 false) (Z7 PP .geq Z0 v4 v7) h fun v8 =>
 oP sT (Ze v3 (.bool true) v8 h) h fun v9 =>
 oV v9 h fun v10 =>
 oG (gW v10 false) (Z1 PP Z6 x4 h) h fun v11 =>
 oG (gW v10 false) (some x2) h fun v12 =>
 oG (gW v10 false) (some x3) h fun v13 =>
 Zm PP (gW v10 false) Z25 [v11, v12, v13] h fun v14 h1 =>
 oP sT (Ze v10 (.bool true) v14 h1) h1 fun v15 =>
 bK' v15
   (oV (.bool false) h1 fun v16 =>
   Zd PP [.v v16] h1 K)
   (j2 K x2 x4 x5 h1)
abbrev j1 : G4 := j1g j2
abbrev q3 (j1 : G4) (K : KT) : QT := Z4 (fun a h => j1 K (a 2) (a 3) (a 4) (a 5) h) (q1 K)
def eg (j1 : G4) (K : KT) (x0 x1 x2 x3 : IV) (h : Heap) : Prop :=
 oA (Zi Z6 x0 h) h fun v1 h1 =>
 oA (Zi Z3 x1 h1) h1 fun v2 h2 =>
 oV (.bool false) h2 fun v3 =>
 j1 K x2 x3 v1 v2 h2
abbrev e : G4 := eg j1
theorem u2 (p : j2 K (a 2) (a 4) (a 5) h) : I c2 (q1 K) a h := ICx.to p
theorem j1_ok (j2 : G3) : I c3 (q2 j2 K) a h = j1g j2 K (a 2) (a 3) (a 4) (a 5) h := by kernel_rfl
theorem u3 (p : j1 K (a 2) (a 3) (a 4) (a 5) h) : I c3 (q2 j2 K) a h := ICx.to p (j1_ok j2)
theorem u1 (p : j1 K (a 2) (a 3) (a 4) (a 5) h) : I c1 (q1 K) a h := ICx.sq (fun _ _ => u2) (u3 p)
theorem e_ok (j1 : G4) : I c4 (q3 j1 K) a h = eg j1 K (a 0) (a 1) (a 2) (a 3) h := by kernel_rfl
theorem u4 (p : e K (a 0) (a 1) (a 2) (a 3) h) : I c4 (q3 j1 K) a h := ICx.to p (e_ok j1)
theorem u0 (p : e K (a 0) (a 1) (a 2) (a 3) h) : I c0 (q1 K) a h := ICx.sq (fun _ _ => u1) (u4 p)
theorem call {x0 x1 x2 x3 : IV} (p : e K x0 x1 x2 x3 h) : Z5 PP Z3r [x0, x1, x2, x3] h K :=
  ICx.fn Try.mixed Try.func39 rfl (Nat.le_of_ble_eq_true rfl) (u0 (a := actI [x0, x1, x2, x3]) p)
end Z2E
namespace Z2F
def D : Nat → DI
  | _ => ⟨[], [], []⟩
abbrev I := ICx PP 19 D
def c0 : Code := bodyN Try.f40
abbrev q1 (K : KT) : QT := finK PP Try.f40.results.toList K
def e (K : KT) (x0 x1 : IV) (h : Heap) : Prop :=
 oV (.bool false) h fun v1 =>
 oV x1 h fun v2 =>
 oD (Z7 PP .geq Z0 v2 (.int .i64 0)) h fun v3 =>
 oV v3 h fun v4 =>
 oG (gW v4 true) (some x1) h fun v5 =>
 oG (gW v4 true) (Z7 PP .lss Z0 v5 (.int .i64 62)) h fun v6 =>
 oP sT (Ze v4 v6 (.bool false) h) h fun v7 =>
 oV v7 h fun v8 =>
 oG (gW v8 true) (some x0) h fun v9 =>
 oG (gW v8 true) (some x1) h fun v10 =>
 oG (gW v8 true) (convI PP Z0 Z1B v10 h) h fun v11 =>
 oG (gW v8 true) (Z7 PP .shr Z0 v9 v11) h fun v12 =>
 oG (gW v8 true) (Z7 PP .rem Z0 v12 (.int .i64 2)) h fun v13 =>
 oG (gW v8 true) (Z7 PP .neq Z0 v13 (.int .i64 0)) h fun v14 =>
 oP sT (Ze v8 v14 (.bool false) h) h fun v15 =>
 oV v15 h fun v16 =>
 Zd PP [.v v16] h K
theorem u0 (p : e K (a 0) (a 1) h) : I c0 (q1 K) a h := ICx.to p
theorem call {x0 x1 : IV} (p : e K x0 x1 h) : Z5 PP Z1S [x0, x1] h K :=
  ICx.fn Try.mixed Try.func40 rfl (Nat.le_of_ble_eq_true rfl) (u0 (a := actI [x0, x1]) p)
end Z2F
namespace Z42
def D : Nat → DI
  | _ => ⟨[], [], []⟩
abbrev I := ICx PP 25 D
def c0 : Code := bodyN Try.f41
abbrev q1 (K : KT) : QT := finK PP Try.f41.results.toList K
def e (K : KT) (x0 x1 x2 x3 : IV) (h : Heap) : Prop :=
 oA (Zi Za x0 h) h fun v1 h1 =>
 oA (Zi Zs x1 h1) h1 fun v2 h2 =>
 oD (Z2 PP Za v1 7) h2 fun v3 =>
 oD (Z1 PP Zu v3 h2) h2 fun v4 =>
 oA (Zp PP Zu h2) h2 fun v5 h3 =>
 oS (Z9 PP Zu v5 v4 h3) h3 fun h4 =>
 oD (Z2 PP Zu v5 3) h4 fun v6 =>
 oD (Z1 PP Z0 v6 h4) h4 fun v7 =>
 oD (Z1 PP Z0 x2 h4) h4 fun v8 =>
 oD (Z7 PP .leq Z0 v7 v8) h4 fun v9 =>
 oV v9 h4 fun v10 =>
 oG (gW v10 true) (Z1 PP Z0 x2 h4) h4 fun v11 =>
 oG (gW v10 true) (Z2 PP Zu v5 4) h4 fun v12 =>
 oG (gW v10 true) (Z1 PP Z0 v12 h4) h4 fun v13 =>
 oG (gW v10 true) (Z7 PP .lss Z0 v11 v13) h4 fun v14 =>
 oP sT (Ze v10 v14 (.bool false) h4) h4 fun v15 =>
 bK' v15
   (oD (Z1 PP ZF x3 h4) h4 fun v16 =>
   oD (Z2 PP Zu v5 0) h4 fun v17 =>
   oD (Z1 PP Z0 v17 h4) h4 fun v18 =>
   oD (Z2 PP Zs v2 0) h4 fun v19 =>
   oD (Z1 PP Z0 v19 h4) h4 fun v20 =>
   Z5 PP Z1Q [v16, v18, v20] h4 fun v21 h5 =>
   Zd PP [] h5 K)
   (Zd PP [] h4 K)
theorem u0 (p : e K (a 0) (a 1) (a 2) (a 3) h) : I c0 (q1 K) a h := ICx.to p
theorem call {x0 x1 x2 x3 : IV} (p : e K x0 x1 x2 x3 h) : Z5 PP Z3s [x0, x1, x2, x3] h K :=
  ICx.fn Try.mixed Try.func41 rfl (Nat.le_of_ble_eq_true rfl) (u0 (a := actI [x0, x1, x2, x3]) p)
end Z42
namespace Z2l
def D : Nat → DI
  | _ => ⟨[], [], []⟩
abbrev I := ICx PP 20 D
def c0 : Code := bodyN Try.f42
def c1 : Code := cR c0
def c2 : Code := cR c1
def c3 : Code := cL c1
def c4 : Code := cL c0
abbrev q1 (K : KT) : QT := finK PP Try.f42.results.toList K
def j2 (K : KT) (x1 x2 : IV) (h : Heap) : Prop :=
 oD (Z2 PP Z6 x2 2) h fun v1 =>
 oD (Z1 PP Zn v1 h) h fun v2 =>
 oV x1 h fun v3 =>
 oD (Zf PP Zn v2 v3 h) h fun v4 =>
 oD (Z2 PP Zz v4 0) h fun v5 =>
 oD (Z1 PP Z0 v5 h) h fun v6 =>
 oV v6 h fun v7 =>
 Zd PP [.v v7] h K
abbrev q2 (j2 : G2) (K : KT) : QT := Z4 (fun a h => j2 K (a 1) (a 2) h) (q1 K)
def j1g (j2 : G2) (K : KT) (x1 x2 : IV) (h : Heap) : Prop :=
 oV x1 h fun v1 =>
 oD (Z7 PP .lss Z0 v1 (.int .i64 0)) h fun v2 =>
 oV v2 h fun v3 =>
 oG (gW v3 false) (some x1) h fun v4 =>
 oG (gW v3 false) (Z2 PP Z6 x2 2) h fun v5 =>
 oG (gW v3 false) (Z1 PP Zn v5 h) h fun v6 =>
 oG (gW v3 false) (lenI PP Zn v6) h fun v7 =>
 oG (gW v3 false) (Z7 PP .geq Z0 v4 v7) h fun v8 =>
 oP sT (Ze v3 (.bool true) v8 h) h fun v9 =>
 bK' v9
   (oV (.int .i64 (-1)) h fun v10 =>
   Zd PP [.v v10] h K)
   (j2 K x1 x2 h)
abbrev j1 : G2 := j1g j2
abbrev q3 (j1 : G2) (K : KT) : QT := Z4 (fun a h => j1 K (a 1) (a 2) h) (q1 K)
def eg (j1 : G2) (K : KT) (x0 x1 : IV) (h : Heap) : Prop :=
 oA (Zi Z6 x0 h) h fun v1 h1 =>
 oV (.int .i64 0) h1 fun v2 =>
 j1 K x1 v1 h1
abbrev e : G2 := eg j1
theorem u2 (p : j2 K (a 1) (a 2) h) : I c2 (q1 K) a h := ICx.to p
theorem j1_ok (j2 : G2) : I c3 (q2 j2 K) a h = j1g j2 K (a 1) (a 2) h := by kernel_rfl
theorem u3 (p : j1 K (a 1) (a 2) h) : I c3 (q2 j2 K) a h := ICx.to p (j1_ok j2)
theorem u1 (p : j1 K (a 1) (a 2) h) : I c1 (q1 K) a h := ICx.sq (fun _ _ => u2) (u3 p)
theorem e_ok (j1 : G2) : I c4 (q3 j1 K) a h = eg j1 K (a 0) (a 1) h := by kernel_rfl
theorem u4 (p : e K (a 0) (a 1) h) : I c4 (q3 j1 K) a h := ICx.to p (e_ok j1)
theorem u0 (p : e K (a 0) (a 1) h) : I c0 (q1 K) a h := ICx.sq (fun _ _ => u1) (u4 p)
theorem call {x0 x1 : IV} (p : e K x0 x1 h) : Z5 PP Z3t [x0, x1] h K :=
  ICx.fn Try.mixed Try.func42 rfl (Nat.le_of_ble_eq_true rfl) (u0 (a := actI [x0, x1]) p)
end Z2l
namespace Z43
def D : Nat → DI
  | _ => ⟨[], [], []⟩
abbrev I := ICx PP 6 D
def c0 : Code := bodyN Try.f43
abbrev q1 (K : KT) : QT := finK PP Try.f43.results.toList K
def e (K : KT) (x0 : IV) (h : Heap) : Prop :=
 oV (.nil) h fun v1 =>
 oV x0 h fun v2 =>
 oD (Zo PP ZX [(0, v2)]) h fun v3 =>
 oA (Zi ZX v3 h) h fun v4 h1 =>
 oV v4 h1 fun v5 =>
 Zd PP [.v v5] h1 K
theorem u0 (p : e K (a 0) h) : I c0 (q1 K) a h := ICx.to p
theorem call {x0 : IV} (p : e K x0 h) : Z5 PP Z2X [x0] h K :=
  ICx.fn Try.mixed Try.func43 rfl (Nat.le_of_ble_eq_true rfl) (u0 (a := actI [x0]) p)
end Z43
namespace Z2G
def D : Nat → DI
  | 3 => ⟨[0, 1, 3, 7, 0, 16, 48, 112, 0, 256, 768, 1792, 3840, 8176, 16383, 32767, 65535], [0, 1, 2, 3, 4, 5, 6, 7, 8, 9, 10, 11, 12, 13, 14, 15, 16], []⟩
  | 4 => ⟨[0, 1, 3, 7, 0, 16, 48, 112, 240, 511, 1023], [0, 1, 2, 3, 4, 5, 6, 7, 8, 9, 10], []⟩
  | _ => ⟨[], [], []⟩
abbrev I := ICx PP 53 D
def c0 : Code := bodyN Try.f44
def c1 : Code := cR c0
def c2 : Code := cR c1
def c3 : Code := cL c1
def c4 : Code := cL c0
abbrev q1 (K : KT) : QT := finK PP Try.f44.results.toList K
def j2 (K : KT) (x0 x1 : IV) (h : Heap) : Prop :=
 oV x0 h fun v1 =>
 oP sT (nilI v1 h) h fun v2 =>
 oD (Z2 PP ZX v2 0) h fun v3 =>
 oD (Z1 PP Zk v3 h) h fun v4 =>
 oV x0 h fun v5 =>
 oP sT (nilI v5 h) h fun v6 =>
 oD (Z2 PP ZX v6 1) h fun v7 =>
 oD (Z1 PP Z0 v7 h) h fun v8 =>
 oV x0 h fun v9 =>
 oP sT (nilI v9 h) h fun v10 =>
 oD (Z2 PP ZX v10 0) h fun v11 =>
 oD (Z1 PP Zk v11 h) h fun v12 =>
 oD (lenI PP Zk v12) h fun v13 =>
 oD (Z7 PP .rem Z0 v8 v13) h fun v14 =>
 oD (Zf PP Zk v4 v14 h) h fun v15 =>
 oD (Z1 PP Z0 v15 h) h fun v16 =>
 oV v16 h fun v17 =>
 oV x0 h fun v18 =>
 oP sT (nilI v18 h) h fun v19 =>
 oD (Z2 PP ZX v19 1) h fun v20 =>
 oD (Z1 PP Z0 v20 h) h fun v21 =>
 oV x0 h fun v22 =>
 oP sT (nilI v22 h) h fun v23 =>
 oD (Z2 PP ZX v23 0) h fun v24 =>
 oD (Z1 PP Zk v24 h) h fun v25 =>
 oD (lenI PP Zk v25) h fun v26 =>
 oD (Z7 PP .quo Z0 v21 v26) h fun v27 =>
 oV v27 h fun v28 =>
 oV x0 h fun v29 =>
 oP sT (nilI v29 h) h fun v30 =>
 oD (Z2 PP ZX v30 1) h fun v31 =>
 oD (Z1 PP Z0 v31 h) h fun v32 =>
 oD (Z7 PP .add Z0 v32 (.int .i64 1)) h fun v33 =>
 oP sT (nilI v29 h) h fun v34 =>
 oD (Z2 PP ZX v34 1) h fun v35 =>
 oS (Z9 PP Z0 v35 v33 h) h fun h1 =>
 oV v17 h1 fun v36 =>
 Z5 PP Z1I [v36, .int .i64 1073741824] h1 fun v37 h2 =>
 oV v28 h2 fun v38 =>
 oD (Z7 PP .mul Z0 v38 (.int .i64 7)) h2 fun v39 =>
 oD (Z7 PP .add Z0 v37 v39) h2 fun v40 =>
 oV x1 h2 fun v41 =>
 Z5 PP Z1I [v40, v41] h2 fun v42 h3 =>
 oV v42 h3 fun v43 =>
 Zd PP [.v v43] h3 K
abbrev q2 (j2 : G2) (K : KT) : QT := Z4 (fun a h => j2 K (a 0) (a 1) h) (q1 K)
def j1g (j2 : G2) (K : KT) (x0 x1 : IV) (h : Heap) : Prop :=
 oV x0 h fun v1 =>
 oP sT (nilI v1 h) h fun v2 =>
 oD (Z2 PP ZX v2 0) h fun v3 =>
 oD (Z1 PP Zk v3 h) h fun v4 =>
 oD (lenI PP Zk v4) h fun v5 =>
 oD (Z7 PP .eql Z0 v5 (.int .i64 0)) h fun v6 =>
 bK' v6
   (oV (.int .i64 0) h fun v7 =>
   Zd PP [.v v7] h K)
   (j2 K x0 x1 h)
abbrev j1 : G2 := j1g j2
abbrev q3 (j1 : G2) (K : KT) : QT := Z4 (fun a h => j1 K (a 0) (a 1) h) (q1 K)
def eg (j1 : G2) (K : KT) (x0 x1 : IV) (h : Heap) : Prop :=
 oV (.int .i64 0) h fun v1 =>
 j1 K x0 x1 h
abbrev e : G2 := eg j1
theorem u2 (p : j2 K (a 0) (a 1) h) : I c2 (q1 K) a h := ICx.to p
theorem j1_ok (j2 : G2) : I c3 (q2 j2 K) a h = j1g j2 K (a 0) (a 1) h := by kernel_rfl
theorem u3 (p : j1 K (a 0) (a 1) h) : I c3 (q2 j2 K) a h := ICx.to p (j1_ok j2)
theorem u1 (p : j1 K (a 0) (a 1) h) : I c1 (q1 K) a h := ICx.sq (fun _ _ => u2) (u3 p)
theorem e_ok (j1 : G2) : I c4 (q3 j1 K) a h = eg j1 K (a 0) (a 1) h := by kernel_rfl
theorem u4 (p : e K (a 0) (a 1) h) : I c4 (q3 j1 K) a h := ICx.to p (e_ok j1)
theorem u0 (p : e K (a 0) (a 1) h) : I c0 (q1 K) a h := ICx.sq (fun _ _ => u1) (u4 p)
theorem call {x0 x1 : IV} (p : e K x0 x1 h) : Z5 PP ZL [x0, x1] h K :=
  ICx.fn Try.mixed Try.func44 rfl (Nat.le_of_ble_eq_true rfl) (u0 (a := actI [x0, x1]) p)
end Z2G
namespace Z44
def D : Nat → DI
  | _ => ⟨[], [], []⟩
abbrev I := ICx PP 15 D
def c0 : Code := bodyN Try.f45
abbrev q1 (K : KT) : QT := finK PP Try.f45.results.toList K
def e (K : KT) (x0 x1 x2 : IV) (h : Heap) : Prop :=
 oV (.int .i64 0) h fun v1 =>
 oV x1 h fun v2 =>
 oV x0 h fun v3 =>
 oV x2 h fun v4 =>
 oV x1 h fun v5 =>
 oD (Z7 PP .sub Z0 v4 v5) h fun v6 =>
 oD (Z7 PP .add Z0 v6 (.int .i64 1)) h fun v7 =>
 Z5 PP ZL [v3, v7] h fun v8 h1 =>
 oD (Z7 PP .add Z0 v2 v8) h1 fun v9 =>
 oV v9 h1 fun v10 =>
 Zd PP [.v v10] h1 K
theorem u0 (p : e K (a 0) (a 1) (a 2) h) : I c0 (q1 K) a h := ICx.to p
theorem call {x0 x1 x2 : IV} (p : e K x0 x1 x2 h) : Z5 PP Z1A [x0, x1, x2] h K :=
  ICx.fn Try.mixed Try.func45 rfl (Nat.le_of_ble_eq_true rfl) (u0 (a := actI [x0, x1, x2]) p)
end Z44
namespace Z4D
def D : Nat → DI
  | _ => ⟨[], [], []⟩
abbrev I := ICx PP 9 D
def c0 : Code := bodyN Try.f46
abbrev q1 (K : KT) : QT := finK PP Try.f46.results.toList K
def e (K : KT) (x0 x1 : IV) (h : Heap) : Prop :=
 oV (.bool false) h fun v1 =>
 oV x0 h fun v2 =>
 oV x1 h fun v3 =>
 Z5 PP ZL [v2, v3] h fun v4 h1 =>
 oD (Z7 PP .eql Z0 v4 (.int .i64 0)) h1 fun v5 =>
 oV v5 h1 fun v6 =>
 Zd PP [.v v6] h1 K
theorem u0 (p : e K (a 0) (a 1) h) : I c0 (q1 K) a h := ICx.to p
theorem call {x0 x1 : IV} (p : e K x0 x1 h) : Z5 PP Z1m [x0, x1] h K :=
  ICx.fn Try.mixed Try.func46 rfl (Nat.le_of_ble_eq_true rfl) (u0 (a := actI [x0, x1]) p)
end Z4D
namespace Z1e
def D : Nat → DI
  | 5 => ⟨[0, 0, 0, 0, 12, 28, 63, 127, 255, 255, 0, 1535, 4095], [0, 1, 2, 3, 4, 5, 10, 6, 7, 8, 9, 11, 12], [10]⟩
  | _ => ⟨[], [], []⟩
abbrev I := ICx PP 38 D
def c0 : Code := bodyN Try.f47
def c1 : Code := cR c0
def c2 : Code := cR c1
def c3 : Code := cR c2
def c4 : Code := cL c2
def c5 : Code := cR c4
def c6 : Code := cL c5
def c7 : Code := cL c6
def c8 : Code := cR c7
def c9 : Code := cR c8
def c10 : Code := cL c8
def c11 : Code := cL c10
def c12 : Code := cR c11
def c13 : Code := cR c12
def c14 : Code := cL c12
def c15 : Code := cL c11
def c16 : Code := cL c7
def c17 : Code := cL c4
def c18 : Code := cL c1
def c19 : Code := cL c0
abbrev q1 (K : KT) : QT := finK PP Try.f47.results.toList K
def j7 (K : KT) (x1 x4 x7 : IV) (h : Heap) : Prop :=
 oD (Z1 PP Z3 x7 h) h fun v1 =>
 oV x1 h fun v2 =>
 oD (lenI PP Z13 v2) h fun v3 =>
 oS (Z9 PP Z3 x4 v1 h) h fun h1 =>
 oV v3 h1 fun v4 =>
 oV (.int .i64 0) h1 fun v5 =>
 Zd PP [.c x4 Z3, .v v4, .v v5] h1 K
abbrev q2 (j7 : G3) (K : KT) : QT := Z4 (fun a h => j7 K (a 1) (a 4) (a 7) h) (q1 K)
abbrev q3 (j7 : G3) (K : KT) : QT := Zq 0 (q2 j7 K)
def l1 (K : KT) (x1 x2 x4 x7 x8 : IV) (h : Heap) : Prop := ∀ a : IAct, a 1 = x1 → a 2 = x2 → a 4 = x4 → a 7 = x7 → a 8 = x8 → ILoop PP 38 c7 (q3 j7 K) a h
abbrev q4 (l1 : G5) (j7 : G3) (K : KT) : QT := Z4 (fun a h => l1 K (a 1) (a 2) (a 4) (a 7) (a 8) h) (q3 j7 K)
def j6g (l1 : G5) (j7 : G3) (K : KT) (x1 x2 x4 x7 x8 : IV) (h : Heap) : Prop :=
 oV x8 h fun v1 =>
 oD (Z7 PP .add Z0 v1 (.int .i64 1)) h fun v2 =>
 oV v2 h fun v3 =>
 l1 K x1 x2 x4 x7 v3 h
abbrev j6 : G5 := j6g l1 j7
abbrev q5 (j6 : G5) (l1 : G5) (j7 : G3) (K : KT) : QT := Z4 (fun a h => j6 K (a 1) (a 2) (a 4) (a 7) (a 8) h) (q4 l1 j7 K)
abbrev q6 (j6 : G5) (l1 : G5) (j7 : G3) (K : KT) : QT := Zq 1 (q5 j6 l1 j7 K)
def j5g (j6 : G5) (l1 : G5) (j7 : G3) (K : KT) (x1 x2 x4 x7 x8 x9 : IV) (h : Heap) : Prop :=
 oD (Z1 PP Z3 x9 h) h fun v1 =>
 oS (Z9 PP Z3 x7 v1 h) h fun h1 =>
 j6 K x1 x2 x4 x7 x8 h1
abbrev j5 : G6 := j5g j6 l1 j7
abbrev q7 (j5 : G6) (j6 : G5) (l1 : G5) (j7 : G3) (K : KT) : QT := Z4 (fun a h => j5 K (a 1) (a 2) (a 4) (a 7) (a 8) (a 9) h) (q6 j6 l1 j7 K)
def j4g (j5 : G6) (j6 : G5) (l1 : G5) (j7 : G3) (K : KT) (x1 x2 x4 x7 x8 x9 x10 : IV) (h : Heap) : Prop :=
 oV x10 h fun v1 =>
 oD (Z7 PP .neq Z3W v1 (.int .i64 0)) h fun v2 =>
 bK' v2
   (oD (Z1 PP Z3 x7 h) h fun v3 =>
   oV x8 h fun v4 =>
   oV x10 h fun v5 =>
   oS (Z9 PP Z3 x4 v3 h) h fun h1 =>
   oV v4 h1 fun v6 =>
   oV v5 h1 fun v7 =>
   Zd PP [.c x4 Z3, .v v6, .v v7] h1 K)
   (j5 K x1 x2 x4 x7 x8 x9 h)
abbrev j4 : G7 := j4g j5 j6 l1 j7
abbrev q8 (j4 : G7) (j6 : G5) (l1 : G5) (j7 : G3) (K : KT) : QT := Z4 (fun a h => j4 K (a 1) (a 2) (a 4) (a 7) (a 8) (a 9) (a 10) h) (q6 j6 l1 j7 K)
def j3g (j4 : G7) (j6 : G5) (l1 : G5) (j7 : G3) (K : KT) (x1 x2 x4 x7 x8 : IV) (h : Heap) : Prop :=
 oD (Z1 PP Z6 x2 (h ++ [none])) (h ++ [none]) fun v1 =>
 oD (Z1 PP Z3 x7 (h ++ [none])) (h ++ [none]) fun v2 =>
 oV x1 (h ++ [none]) fun v3 =>
 oV x8 (h ++ [none]) fun v4 =>
 oD (Zf PP Z13 v3 v4 (h ++ [none])) (h ++ [none]) fun v5 =>
 oD (Z1 PP Z8 v5 (h ++ [none])) (h ++ [none]) fun v6 =>
 oK (newA PP Z3) fun v7 =>
 Z5 PP Z30 [v1, v2, v6] (h ++ [none]) fun v8 h1 => oB (True) <|
 oV v8 h1 fun v9 =>
 oD (Zg v9 0) h1 fun v10 =>
 oD (Zg v9 1) h1 fun v11 =>
 oS (Z9 PP Z3 (mkV v7.1 (h.length)) v10 (h1.set (h.length) (some v7.2))) (h1.set (h.length) (some v7.2)) fun h2 => oB (True) <|
 oV v11 h2 fun v12 =>
 j4 K x1 x2 x4 x7 x8 (mkV v7.1 (h.length)) v12 h2
abbrev j3 : G5 := j3g j4 j6 l1 j7
abbrev q9 (j3 : G5) (l1 : G5) (j7 : G3) (K : KT) : QT := Z4 (fun a h => j3 K (a 1) (a 2) (a 4) (a 7) (a 8) h) (q4 l1 j7 K)
def b1g (j3 : G5) (l1 : G5) (j7 : G3) (K : KT) (x1 x2 x4 x7 x8 : IV) (h : Heap) : Prop :=
 oV x8 h fun v1 =>
 oV x1 h fun v2 =>
 oD (lenI PP Z13 v2) h fun v3 =>
 oD (Z7 PP .lss Z0 v1 v3) h fun v4 =>
 bK' v4
   (j3 K x1 x2 x4 x7 x8 h)
   (j7 K x1 x4 x7 h)
abbrev b1 : G5 := b1g j3 l1 j7
abbrev q10 (l1 : G5) (j7 : G3) (K : KT) : QT := Z4 (fun a h => l1 K (a 1) (a 2) (a 4) (a 7) (a 8) h) (q2 j7 K)
def j2g (l1 : G5) (j7 : G3) (K : KT) (x1 x2 x4 x7 : IV) (h : Heap) : Prop :=
 oV (.int .i64 0) h fun v1 =>
 l1 K x1 x2 x4 x7 v1 h
abbrev j2 : G4 := j2g l1 j7
abbrev q11 (j2 : G4) (K : KT) : QT := Z4 (fun a h => j2 K (a 1) (a 2) (a 4) (a 7) h) (q1 K)
def j1g (j2 : G4) (K : KT) (x1 x2 x4 : IV) (h : Heap) : Prop :=
 oD (Z1 PP Z6 x2 h) h fun v1 =>
 Z5 PP Z2Z [v1] h fun v2 h1 =>
 oA (Zp PP Z3 h1) h1 fun v3 h2 =>
 oS (Z9 PP Z3 v3 v2 h2) h2 fun h3 =>
 j2 K x1 x2 x4 v3 h3
abbrev j1 : G3 := j1g j2
abbrev q12 (j1 : G3) (K : KT) : QT := Z4 (fun a h => j1 K (a 1) (a 2) (a 4) h) (q1 K)
def eg (j1 : G3) (K : KT) (x0 x1 : IV) (h : Heap) : Prop :=
 oA (Zi Z6 x0 h) h fun v1 h1 =>
 oA (Zp PP Z3 h1) h1 fun v2 h2 =>
 oV (.int .i64 0) h2 fun v3 =>
 oV (.int .i64 0) h2 fun v4 =>
 j1 K x1 v1 v2 h2
abbrev e : G2 := eg j1
theorem u3 (p : j7 K (a 1) (a 4) (a 7) h) : I c3 (q1 K) a h := ICx.to p
theorem j6_ok (l1 : G5) (j7 : G3) : I c9 (q4 l1 j7 K) a h = j6g l1 j7 K (a 1) (a 2) (a 4) (a 7) (a 8) h := by kernel_rfl
theorem u9 (p : j6 K (a 1) (a 2) (a 4) (a 7) (a 8) h) : I c9 (q4 l1 j7 K) a h := ICx.to p (j6_ok l1 j7)
theorem j5_ok (j6 : G5) (l1 : G5) (j7 : G3) : I c13 (q6 j6 l1 j7 K) a h = j5g j6 l1 j7 K (a 1) (a 2) (a 4) (a 7) (a 8) (a 9) h := by kernel_rfl
theorem u13 (p : j5 K (a 1) (a 2) (a 4) (a 7) (a 8) (a 9) h) : I c13 (q6 j6 l1 j7 K) a h := ICx.to p (j5_ok j6 l1 j7)
theorem j4_ok (j5 : G6) (j6 : G5) (l1 : G5) (j7 : G3) : I c14 (q7 j5 j6 l1 j7 K) a h = j4g j5 j6 l1 j7 K (a 1) (a 2) (a 4) (a 7) (a 8) (a 9) (a 10) h := by kernel_rfl
theorem u14 (p : j4 K (a 1) (a 2) (a 4) (a 7) (a 8) (a 9) (a 10) h) : I c14 (q7 j5 j6 l1 j7 K) a h := ICx.to p (j4_ok j5 j6 l1 j7)
theorem u12 (p : j4 K (a 1) (a 2) (a 4) (a 7) (a 8) (a 9) (a 10) h) : I c12 (q6 j6 l1 j7 K) a h := ICx.sq (fun _ _ => u13) (u14 p)
theorem j3_ok (j4 : G7) (j6 : G5) (l1 : G5) (j7 : G3) : I c15 (q8 j4 j6 l1 j7 K) a h = j3g j4 j6 l1 j7 K (a 1) (a 2) (a 4) (a 7) (a 8) h := by kernel_rfl
theorem u15 (p : j3 K (a 1) (a 2) (a 4) (a 7) (a 8) h) : I c15 (q8 j4 j6 l1 j7 K) a h := ICx.to p (j3_ok j4 j6 l1 j7)
theorem u11 (p : j3 K (a 1) (a 2) (a 4) (a 7) (a 8) h) : I c11 (q6 j6 l1 j7 K) a h := ICx.sq (fun _ _ => u12) (u15 p)
theorem u10 (p : j3 K (a 1) (a 2) (a 4) (a 7) (a 8) h) : I c10 (q5 j6 l1 j7 K) a h := ICx.blk (u11 p)
theorem u8 (p : j3 K (a 1) (a 2) (a 4) (a 7) (a 8) h) : I c8 (q4 l1 j7 K) a h := ICx.sq (fun _ _ => u9) (u10 p)
theorem b1_ok (j3 : G5) (l1 : G5) (j7 : G3) : I c16 (q9 j3 l1 j7 K) a h = b1g j3 l1 j7 K (a 1) (a 2) (a 4) (a 7) (a 8) h := by kernel_rfl
theorem u16 (p : b1 K (a 1) (a 2) (a 4) (a 7) (a 8) h) : I c16 (q9 j3 l1 j7 K) a h := ICx.to p (b1_ok j3 l1 j7)
theorem u7 (p : b1 K (a 1) (a 2) (a 4) (a 7) (a 8) h) : I c7 (q4 l1 j7 K) a h := ICx.sq (fun _ _ => u8) (u16 p)
theorem u6 (p : l1 K (a 1) (a 2) (a 4) (a 7) (a 8) h) : I c6 (q3 j7 K) a h := ICx.lp (p a rfl rfl rfl rfl rfl)
theorem l1_round {x1 x2 x4 x7 x8 : IV} (p : b1 K x1 x2 x4 x7 x8 h) : l1 K x1 x2 x4 x7 x8 h := by
  intro a e1 e2 e4 e7 e8
  subst e1; subst e2; subst e4; subst e7; subst e8; exact ICx.round Try.mixed (D := D) (L := fun a h => l1 K (a 1) (a 2) (a 4) (a 7) (a 8) h) (fun a h p => p a rfl rfl rfl rfl rfl) (u7 p)
theorem u5 (p : l1 K (a 1) (a 2) (a 4) (a 7) (a 8) h) : I c5 (q2 j7 K) a h := ICx.blk (u6 p)
theorem j2_ok (l1 : G5) (j7 : G3) : I c17 (q10 l1 j7 K) a h = j2g l1 j7 K (a 1) (a 2) (a 4) (a 7) h := by kernel_rfl
theorem u17 (p : j2 K (a 1) (a 2) (a 4) (a 7) h) : I c17 (q10 l1 j7 K) a h := ICx.to p (j2_ok l1 j7)
theorem u4 (p : j2 K (a 1) (a 2) (a 4) (a 7) h) : I c4 (q2 j7 K) a h := ICx.sq (fun _ _ => u5) (u17 p)
theorem u2 (p : j2 K (a 1) (a 2) (a 4) (a 7) h) : I c2 (q1 K) a h := ICx.sq (fun _ _ => u3) (u4 p)
theorem j1_ok (j2 : G4) : I c18 (q11 j2 K) a h = j1g j2 K (a 1) (a 2) (a 4) h := by kernel_rfl
theorem u18 (p : j1 K (a 1) (a 2) (a 4) h) : I c18 (q11 j2 K) a h := ICx.to p (j1_ok j2)
theorem u1 (p : j1 K (a 1) (a 2) (a 4) h) : I c1 (q1 K) a h := ICx.sq (fun _ _ => u2) (u18 p)
theorem e_ok (j1 : G3) : I c19 (q12 j1 K) a h = eg j1 K (a 0) (a 1) h := by kernel_rfl
theorem u19 (p : e K (a 0) (a 1) h) : I c19 (q12 j1 K) a h := ICx.to p (e_ok j1)
theorem u0 (p : e K (a 0) (a 1) h) : I c0 (q1 K) a h := ICx.sq (fun _ _ => u1) (u19 p)
theorem call {x0 x1 : IV} (p : e K x0 x1 h) : Z5 PP Z3u [x0, x1] h K :=
  ICx.fn Try.mixed Try.func47 rfl (Nat.le_of_ble_eq_true rfl) (u0 (a := actI [x0, x1]) p)
end Z1e
namespace Z16
def D : Nat → DI
  | _ => ⟨[], [], []⟩
abbrev I := ICx PP 44 D
def c0 : Code := bodyN Try.f48
def c1 : Code := cR c0
def c2 : Code := cR c1
def c3 : Code := cR c2
def c4 : Code := cR c3
def c5 : Code := cR c4
def c6 : Code := cL c4
def c7 : Code := cL c6
def c8 : Code := cL c7
def c9 : Code := cR c8
def c10 : Code := cL c8
def c11 : Code := cL c3
def c12 : Code := cL c2
def c13 : Code := cL c1
def c14 : Code := cL c0
abbrev q1 (K : KT) : QT := finK PP Try.f48.results.toList K
def j5 (K : KT) (x9 : IV) (h : Heap) : Prop :=
 oV x9 h fun v1 =>
 oV v1 h fun v2 =>
 Zd PP [.v v2] h K
abbrev q2 (j5 : G1) (K : KT) : QT := Z4 (fun a h => j5 K (a 9) h) (q1 K)
abbrev q3 (j5 : G1) (K : KT) : QT := Zq 0 (q2 j5 K)
def l1 (K : KT) (x2 x4 x7 x8 x9 : IV) (h : Heap) : Prop := ∀ a : IAct, a 2 = x2 → a 4 = x4 → a 7 = x7 → a 8 = x8 → a 9 = x9 → ILoop PP 44 c8 (q3 j5 K) a h
abbrev q4 (l1 : G5) (j5 : G1) (K : KT) : QT := Z4 (fun a h => l1 K (a 2) (a 4) (a 7) (a 8) (a 9) h) (q3 j5 K)
def j4g (l1 : G5) (j5 : G1) (K : KT) (x2 x4 x7 x8 x9 : IV) (h : Heap) : Prop :=
 oV x7 h fun v1 =>
 oD (Z1 PP Z6 x4 h) h fun v2 =>
 oD (Z1 PP Z3 x8 h) h fun v3 =>
 Z5 PP Z3x [v1, v2, v3] h fun v4 h1 =>
 oA (Zp PP Z8 h1) h1 fun v5 h2 =>
 oS (Z9 PP Z8 v5 v4 h2) h2 fun h3 =>
 oD (Z1 PP Z6 x4 h3) h3 fun v6 =>
 oD (Z1 PP Z3 x8 h3) h3 fun v7 =>
 oD (Z1 PP Z8 v5 h3) h3 fun v8 =>
 Z5 PP Z30 [v6, v7, v8] h3 fun v9 h4 =>
 oV v9 h4 fun v10 =>
 oD (Zg v10 0) h4 fun v11 =>
 oD (Zg v10 1) h4 fun v12 =>
 oA (Zp PP Z3 h4) h4 fun v13 h5 =>
 oS (Z9 PP Z3 v13 v11 h5) h5 fun h6 =>
 oV v12 h6 fun v14 =>
 oV v14 h6 fun v15 =>
 oD (Z7 PP .eql Z3W v15 (.int .i64 0)) h6 fun v16 =>
 bK' v16
   (oD (Z1 PP Z3 v13 h6) h6 fun v17 =>
   oS (Z9 PP Z3 x8 v17 h6) h6 fun h7 =>
   oV x9 h7 fun v18 =>
   oD (Z1 PP Z8 v5 h7) h7 fun v19 =>
   oA (ZA PP Z13 1 [(0, v19)] h7) h7 fun v20 h8 =>
   oA (ZJ PP Z13 Z13 v18 v20 h8) h8 fun v21 h9 =>
   oV v21 h9 fun v22 =>
   l1 K x2 x4 x7 x8 v22 h9)
   (l1 K x2 x4 x7 x8 x9 h6)
abbrev j4 : G5 := j4g l1 j5
abbrev q5 (j4 : G5) (l1 : G5) (j5 : G1) (K : KT) : QT := Z4 (fun a h => j4 K (a 2) (a 4) (a 7) (a 8) (a 9) h) (q4 l1 j5 K)
def b1g (j4 : G5) (l1 : G5) (j5 : G1) (K : KT) (x2 x4 x7 x8 x9 : IV) (h : Heap) : Prop :=
 oV x9 h fun v1 =>
 oD (lenI PP Z13 v1) h fun v2 =>
 oV x2 h fun v3 =>
 oD (Z7 PP .lss Z0 v2 v3) h fun v4 =>
 oV v4 h fun v5 =>
 oG (gW v5 true) (some x7) h fun v6 =>
 Zm PP (gW v5 true) Z3w [v6] h fun v7 h1 =>
 oP sT (Ze v5 v7 (.bool false) h1) h1 fun v8 =>
 bK' v8
   (j4 K x2 x4 x7 x8 x9 h1)
   (j5 K x9 h1)
abbrev b1 : G5 := b1g j4 l1 j5
abbrev q6 (l1 : G5) (K : KT) : QT := Z4 (fun a h => l1 K (a 2) (a 4) (a 7) (a 8) (a 9) h) (q1 K)
def j3g (l1 : G5) (K : KT) (x2 x4 x7 x8 : IV) (h : Heap) : Prop :=
 oV (.snil) h fun v1 =>
 l1 K x2 x4 x7 x8 v1 h
abbrev j3 : G4 := j3g l1
abbrev q7 (j3 : G4) (K : KT) : QT := Z4 (fun a h => j3 K (a 2) (a 4) (a 7) (a 8) h) (q1 K)
def j2g (j3 : G4) (K : KT) (x2 x4 x7 : IV) (h : Heap) : Prop :=
 oD (Z1 PP Z6 x4 h) h fun v1 =>
 Z5 PP Z2Z [v1] h fun v2 h1 =>
 oA (Zp PP Z3 h1) h1 fun v3 h2 =>
 oS (Z9 PP Z3 v3 v2 h2) h2 fun h3 =>
 j3 K x2 x4 x7 v3 h3
abbrev j2 : G3 := j2g j3
abbrev q8 (j2 : G3) (K : KT) : QT := Z4 (fun a h => j2 K (a 2) (a 4) (a 7) h) (q1 K)
def j1g (j2 : G3) (K : KT) (x0 x2 x4 : IV) (h : Heap) : Prop :=
 oV x0 h fun v1 =>
 Z5 PP Z2X [v1] h fun v2 h1 =>
 oV v2 h1 fun v3 =>
 j2 K x2 x4 v3 h1
abbrev j1 : G3 := j1g j2
abbrev q9 (j1 : G3) (K : KT) : QT := Z4 (fun a h => j1 K (a 0) (a 2) (a 4) h) (q1 K)
def eg (j1 : G3) (K : KT) (x0 x1 x2 : IV) (h : Heap) : Prop :=
 oA (Zi Z6 x1 h) h fun v1 h1 =>
 oV (.snil) h1 fun v2 =>
 j1 K x0 x2 v1 h1
abbrev e : G3 := eg j1
theorem u5 (p : j5 K (a 9) h) : I c5 (q1 K) a h := ICx.to p
theorem j4_ok (l1 : G5) (j5 : G1) : I c9 (q4 l1 j5 K) a h = j4g l1 j5 K (a 2) (a 4) (a 7) (a 8) (a 9) h := by kernel_rfl
theorem u9 (p : j4 K (a 2) (a 4) (a 7) (a 8) (a 9) h) : I c9 (q4 l1 j5 K) a h := ICx.to p (j4_ok l1 j5)
theorem b1_ok (j4 : G5) (l1 : G5) (j5 : G1) : I c10 (q5 j4 l1 j5 K) a h = b1g j4 l1 j5 K (a 2) (a 4) (a 7) (a 8) (a 9) h := by kernel_rfl
theorem u10 (p : b1 K (a 2) (a 4) (a 7) (a 8) (a 9) h) : I c10 (q5 j4 l1 j5 K) a h := ICx.to p (b1_ok j4 l1 j5)
theorem u8 (p : b1 K (a 2) (a 4) (a 7) (a 8) (a 9) h) : I c8 (q4 l1 j5 K) a h := ICx.sq (fun _ _ => u9) (u10 p)
theorem u7 (p : l1 K (a 2) (a 4) (a 7) (a 8) (a 9) h) : I c7 (q3 j5 K) a h := ICx.lp (p a rfl rfl rfl rfl rfl)
theorem l1_round {x2 x4 x7 x8 x9 : IV} (p : b1 K x2 x4 x7 x8 x9 h) : l1 K x2 x4 x7 x8 x9 h := by
  intro a e2 e4 e7 e8 e9
  subst e2; subst e4; subst e7; subst e8; subst e9; exact ICx.round Try.mixed (D := D) (L := fun a h => l1 K (a 2) (a 4) (a 7) (a 8) (a 9) h) (fun a h p => p a rfl rfl rfl rfl rfl) (u8 p)
theorem u6 (p : l1 K (a 2) (a 4) (a 7) (a 8) (a 9) h) : I c6 (q2 j5 K) a h := ICx.blk (u7 p)
theorem u4 (p : l1 K (a 2) (a 4) (a 7) (a 8) (a 9) h) : I c4 (q1 K) a h := ICx.sq (fun _ _ => u5) (u6 p)
theorem j3_ok (l1 : G5) : I c11 (q6 l1 K) a h = j3g l1 K (a 2) (a 4) (a 7) (a 8) h := by kernel_rfl
theorem u11 (p : j3 K (a 2) (a 4) (a 7) (a 8) h) : I c11 (q6 l1 K) a h := ICx.to p (j3_ok l1)
theorem u3 (p : j3 K (a 2) (a 4) (a 7) (a 8) h) : I c3 (q1 K) a h := ICx.sq (fun _ _ => u4) (u11 p)
theorem j2_ok (j3 : G4) : I c12 (q7 j3 K) a h = j2g j3 K (a 2) (a 4) (a 7) h := by kernel_rfl
theorem u12 (p : j2 K (a 2) (a 4) (a 7) h) : I c12 (q7 j3 K) a h := ICx.to p (j2_ok j3)
theorem u2 (p : j2 K (a 2) (a 4) (a 7) h) : I c2 (q1 K) a h := ICx.sq (fun _ _ => u3) (u12 p)
theorem j1_ok (j2 : G3) : I c13 (q8 j2 K) a h = j1g j2 K (a 0) (a 2) (a 4) h := by kernel_rfl
theorem u13 (p : j1 K (a 0) (a 2) (a 4) h) : I c13 (q8 j2 K) a h := ICx.to p (j1_ok j2)
theorem u1 (p : j1 K (a 0) (a 2) (a 4) h) : I c1 (q1 K) a h := ICx.sq (fun _ _ => u2) (u13 p)
theorem e_ok (j1 : G3) : I c14 (q9 j1 K) a h = eg j1 K (a 0) (a 1) (a 2) h := by kernel_rfl
theorem u14 (p : e K (a 0) (a 1) (a 2) h) : I c14 (q9 j1 K) a h := ICx.to p (e_ok j1)
theorem u0 (p : e K (a 0) (a 1) (a 2) h) : I c0 (q1 K) a h := ICx.sq (fun _ _ => u1) (u14 p)
theorem call {x0 x1 x2 : IV} (p : e K x0 x1 x2 h) : Z5 PP Z3v [x0, x1, x2] h K :=
  ICx.fn Try.mixed Try.func48 rfl (Nat.le_of_ble_eq_true rfl) (u0 (a := actI [x0, x1, x2]) p)
end Z16
namespace Z4E
def D : Nat → DI
  | 1 => ⟨[0, 0, 0, 6, 15, 31], [0, 1, 2, 3, 4, 5], []⟩
  | _ => ⟨[], [], []⟩
abbrev I := ICx PP 10 D
def c0 : Code := bodyN Try.f49
abbrev q1 (K : KT) : QT := finK PP Try.f49.results.toList K
def e (K : KT) (x0 x1 : IV) (h : Heap) : Prop :=
 oA (Zi Z6 x0 h) h fun v1 h1 =>
 oV (.int .i64 0) h1 fun v2 =>
 oD (Z1 PP Z6 v1 h1) h1 fun v3 =>
 oD (Z1 PP Z6 v1 h1) h1 fun v4 =>
 oV x1 h1 fun v5 =>
 Z5 PP Z3z [v4, v5] h1 fun v6 h2 => oB ((Zb (Z1 PP Z6 v1 h2) v3 h2) ∧ True) <|
 Z5 PP Z3y [v3, v6] h2 fun v7 h3 => oB (True) <|
 oV v7 h3 fun v8 =>
 Zd PP [.v v8] h3 K
theorem u0 (p : e K (a 0) (a 1) h) : I c0 (q1 K) a h := ICx.to p
theorem call {x0 x1 : IV} (p : e K x0 x1 h) : Z5 PP Z2Y [x0, x1] h K :=
  ICx.fn Try.mixed Try.func49 rfl (Nat.le_of_ble_eq_true rfl) (u0 (a := actI [x0, x1]) p)
end Z4E
namespace ZZ
def D : Nat → DI
  | _ => ⟨[], [], []⟩
abbrev I := ICx PP 35 D
def c0 : Code := bodyN Try.f50
def c1 : Code := cR c0
def c2 : Code := cR c1
def c3 : Code := cR c2
def c4 : Code := cR c3
def c5 : Code := cL c3
def c6 : Code := cR c5
def c7 : Code := cL c6
def c8 : Code := cL c7
def c9 : Code := cR c8
def c10 : Code := cR c9
def c11 : Code := cL c9
def c12 : Code := cL c8
def c13 : Code := cL c5
def c14 : Code := cL c2
def c15 : Code := cR c14
def c16 : Code := cL c15
def c17 : Code := cL c16
def c18 : Code := cR c17
def c19 : Code := cR c18
def c20 : Code := cL c18
def c21 : Code := cL c17
def c22 : Code := cL c14
def c23 : Code := cL c1
def c24 : Code := cL c0
abbrev q1 (K : KT) : QT := finK PP Try.f50.results.toList K
def j8 (K : KT) (x2 x3 : IV) (h : Heap) : Prop :=
 oD (Z1 PP Z3 x3 h) h fun v1 =>
 oS (Z9 PP Z3 x2 v1 h) h fun h1 =>
 Zd PP [.c x2 Z3] h1 K
abbrev q2 (j8 : G2) (K : KT) : QT := Z4 (fun a h => j8 K (a 2) (a 3) h) (q1 K)
abbrev q3 (j8 : G2) (K : KT) : QT := Zq 2 (q2 j8 K)
def l2 (K : KT) (x1 x2 x3 x5 : IV) (h : Heap) : Prop := ∀ a : IAct, a 1 = x1 → a 2 = x2 → a 3 = x3 → a 5 = x5 → ILoop PP 35 c8 (q3 j8 K) a h
abbrev q4 (l2 : G4) (j8 : G2) (K : KT) : QT := Z4 (fun a h => l2 K (a 1) (a 2) (a 3) (a 5) h) (q3 j8 K)
def j7g (l2 : G4) (j8 : G2) (K : KT) (x1 x2 x3 x5 : IV) (h : Heap) : Prop :=
 oV x5 h fun v1 =>
 oD (Z7 PP .add Z0 v1 (.int .i64 1)) h fun v2 =>
 oV v2 h fun v3 =>
 l2 K x1 x2 x3 v3 h
abbrev j7 : G4 := j7g l2 j8
abbrev q5 (j7 : G4) (l2 : G4) (j8 : G2) (K : KT) : QT := Z4 (fun a h => j7 K (a 1) (a 2) (a 3) (a 5) h) (q4 l2 j8 K)
def j6g (j7 : G4) (l2 : G4) (j8 : G2) (K : KT) (x1 x2 x3 x5 : IV) (h : Heap) : Prop :=
 oD (Z2 PP Z3 x3 3) h fun v1 =>
 oD (Z1 PP Zl v1 h) h fun v2 =>
 oD (Zo PP Zj [(0, .int .i64 1)]) h fun v3 =>
 oA (ZA PP Zl 1 [(0, v3)] h) h fun v4 h1 =>
 oA (ZJ PP Zl Zl v2 v4 h1) h1 fun v5 h2 =>
 oD (Z2 PP Z3 x3 3) h2 fun v6 =>
 oS (Z9 PP Zl v6 v5 h2) h2 fun h3 =>
 j7 K x1 x2 x3 x5 h3
abbrev j6 : G4 := j6g j7 l2 j8
abbrev q6 (j6 : G4) (l2 : G4) (j8 : G2) (K : KT) : QT := Z4 (fun a h => j6 K (a 1) (a 2) (a 3) (a 5) h) (q4 l2 j8 K)
def b2g (j6 : G4) (l2 : G4) (j8 : G2) (K : KT) (x1 x2 x3 x5 : IV) (h : Heap) : Prop :=
 oV x5 h fun v1 =>
 oD (Z2 PP Z6 x1 2) h fun v2 =>
 oD (Z1 PP Zn v2 h) h fun v3 =>
 oD (lenI PP Zn v3) h fun v4 =>
 oD (Z7 PP .lss Z0 v1 v4) h fun v5 =>
 bK' v5
   (j6 K x1 x2 x3 x5 h)
   (j8 K x2 x3 h)
abbrev b2 : G4 := b2g j6 l2 j8
abbrev q7 (l2 : G4) (j8 : G2) (K : KT) : QT := Z4 (fun a h => l2 K (a 1) (a 2) (a 3) (a 5) h) (q2 j8 K)
def j5g (l2 : G4) (j8 : G2) (K : KT) (x1 x2 x3 : IV) (h : Heap) : Prop :=
 oV (.int .i64 0) h fun v1 =>
 l2 K x1 x2 x3 v1 h
abbrev j5 : G3 := j5g l2 j8
abbrev q8 (j5 : G3) (K : KT) : QT := Z4 (fun a h => j5 K (a 1) (a 2) (a 3) h) (q1 K)
abbrev q9 (j5 : G3) (K : KT) : QT := Zq 0 (q8 j5 K)
def l1 (K : KT) (x1 x2 x3 x4 : IV) (h : Heap) : Prop := ∀ a : IAct, a 1 = x1 → a 2 = x2 → a 3 = x3 → a 4 = x4 → ILoop PP 35 c17 (q9 j5 K) a h
abbrev q10 (l1 : G4) (j5 : G3) (K : KT) : QT := Z4 (fun a h => l1 K (a 1) (a 2) (a 3) (a 4) h) (q9 j5 K)
def j4g (l1 : G4) (j5 : G3) (K : KT) (x1 x2 x3 x4 : IV) (h : Heap) : Prop :=
 oV x4 h fun v1 =>
 oD (Z7 PP .add Z0 v1 (.int .i64 1)) h fun v2 =>
 oV v2 h fun v3 =>
 l1 K x1 x2 x3 v3 h
abbrev j4 : G4 := j4g l1 j5
abbrev q11 (j4 : G4) (l1 : G4) (j5 : G3) (K : KT) : QT := Z4 (fun a h => j4 K (a 1) (a 2) (a 3) (a 4) h) (q10 l1 j5 K)
def j3g (j4 : G4) (l1 : G4) (j5 : G3) (K : KT) (x1 x2 x3 x4 : IV) (h : Heap) : Prop :=
 oD (Z2 PP Z3 x3 2) h fun v1 =>
 oD (Z1 PP Zh v1 h) h fun v2 =>
 oD (Zo PP Zu [(0, .int .i64 (-1))]) h fun v3 =>
 oD (Zo PP Za [(2, .int .i64 (-1)), (3, .int .i64 (-1)), (4, .int .i64 (-1)), (5, .int .i64 (-1)), (7, v3)]) h fun v4 =>
 oA (ZA PP Zh 1 [(0, v4)] h) h fun v5 h1 =>
 oA (ZJ PP Zh Zh v2 v5 h1) h1 fun v6 h2 =>
 oD (Z2 PP Z3 x3 2) h2 fun v7 =>
 oS (Z9 PP Zh v7 v6 h2) h2 fun h3 =>
 j4 K x1 x2 x3 x4 h3
abbrev j3 : G4 := j3g j4 l1 j5
abbrev q12 (j3 : G4) (l1 : G4) (j5 : G3) (K : KT) : QT := Z4 (fun a h => j3 K (a 1) (a 2) (a 3) (a 4) h) (q10 l1 j5 K)
def b1g (j3 : G4) (l1 : G4) (j5 : G3) (K : KT) (x1 x2 x3 x4 : IV) (h : Heap) : Prop :=
 oV x4 h fun v1 =>
 oD (Z2 PP Z6 x1 3) h fun v2 =>
 oD (Z1 PP Zw v2 h) h fun v3 =>
 oD (lenI PP Zw v3) h fun v4 =>
 oD (Z7 PP .lss Z0 v1 v4) h fun v5 =>
 bK' v5
   (j3 K x1 x2 x3 x4 h)
   (j5 K x1 x2 x3 h)
abbrev b1 : G4 := b1g j3 l1 j5
abbrev q13 (l1 : G4) (j5 : G3) (K : KT) : QT := Z4 (fun a h => l1 K (a 1) (a 2) (a 3) (a 4) h) (q8 j5 K)
def j2g (l1 : G4) (j5 : G3) (K : KT) (x1 x2 x3 : IV) (h : Heap) : Prop :=
 oV (.int .i64 0) h fun v1 =>
 l1 K x1 x2 x3 v1 h
abbrev j2 : G3 := j2g l1 j5
abbrev q14 (j2 : G3) (K : KT) : QT := Z4 (fun a h => j2 K (a 1) (a 2) (a 3) h) (q1 K)
def j1g (j2 : G3) (K : KT) (x1 x2 : IV) (h : Heap) : Prop :=
 oD (Zo PP Z3 [(4, .int .i64 1)]) h fun v1 =>
 oA (Zp PP Z3 h) h fun v2 h1 =>
 oS (Z9 PP Z3 v2 v1 h1) h1 fun h2 =>
 j2 K x1 x2 v2 h2
abbrev j1 : G2 := j1g j2
abbrev q15 (j1 : G2) (K : KT) : QT := Z4 (fun a h => j1 K (a 1) (a 2) h) (q1 K)
def eg (j1 : G2) (K : KT) (x0 : IV) (h : Heap) : Prop :=
 oA (Zi Z6 x0 h) h fun v1 h1 =>
 oA (Zp PP Z3 h1) h1 fun v2 h2 =>
 j1 K v1 v2 h2
abbrev e : G1 := eg j1
theorem u4 (p : j8 K (a 2) (a 3) h) : I c4 (q1 K) a h := ICx.to p
theorem j7_ok (l2 : G4) (j8 : G2) : I c10 (q4 l2 j8 K) a h = j7g l2 j8 K (a 1) (a 2) (a 3) (a 5) h := by kernel_rfl
theorem u10 (p : j7 K (a 1) (a 2) (a 3) (a 5) h) : I c10 (q4 l2 j8 K) a h := ICx.to p (j7_ok l2 j8)
theorem j6_ok (j7 : G4) (l2 : G4) (j8 : G2) : I c11 (q5 j7 l2 j8 K) a h = j6g j7 l2 j8 K (a 1) (a 2) (a 3) (a 5) h := by kernel_rfl
theorem u11 (p : j6 K (a 1) (a 2) (a 3) (a 5) h) : I c11 (q5 j7 l2 j8 K) a h := ICx.to p (j6_ok j7 l2 j8)
theorem u9 (p : j6 K (a 1) (a 2) (a 3) (a 5) h) : I c9 (q4 l2 j8 K) a h := ICx.sq (fun _ _ => u10) (u11 p)
theorem b2_ok (j6 : G4) (l2 : G4) (j8 : G2) : I c12 (q6 j6 l2 j8 K) a h = b2g j6 l2 j8 K (a 1) (a 2) (a 3) (a 5) h := by kernel_rfl
theorem u12 (p : b2 K (a 1) (a 2) (a 3) (a 5) h) : I c12 (q6 j6 l2 j8 K) a h := ICx.to p (b2_ok j6 l2 j8)
theorem u8 (p : b2 K (a 1) (a 2) (a 3) (a 5) h) : I c8 (q4 l2 j8 K) a h := ICx.sq (fun _ _ => u9) (u12 p)
theorem u7 (p : l2 K (a 1) (a 2) (a 3) (a 5) h) : I c7 (q3 j8 K) a h := ICx.lp (p a rfl rfl rfl rfl)
theorem l2_round {x1 x2 x3 x5 : IV} (p : b2 K x1 x2 x3 x5 h) : l2 K x1 x2 x3 x5 h := by
  intro a e1 e2 e3 e5
  subst e1; subst e2; subst e3; subst e5; exact ICx.round Try.mixed (D := D) (L := fun a h => l2 K (a 1) (a 2) (a 3) (a 5) h) (fun a h p => p a rfl rfl rfl rfl) (u8 p)
theorem u6 (p : l2 K (a 1) (a 2) (a 3) (a 5) h) : I c6 (q2 j8 K) a h := ICx.blk (u7 p)
theorem j5_ok (l2 : G4) (j8 : G2) : I c13 (q7 l2 j8 K) a h = j5g l2 j8 K (a 1) (a 2) (a 3) h := by kernel_rfl
theorem u13 (p : j5 K (a 1) (a 2) (a 3) h) : I c13 (q7 l2 j8 K) a h := ICx.to p (j5_ok l2 j8)
theorem u5 (p : j5 K (a 1) (a 2) (a 3) h) : I c5 (q2 j8 K) a h := ICx.sq (fun _ _ => u6) (u13 p)
theorem u3 (p : j5 K (a 1) (a 2) (a 3) h) : I c3 (q1 K) a h := ICx.sq (fun _ _ => u4) (u5 p)
theorem j4_ok (l1 : G4) (j5 : G3) : I c19 (q10 l1 j5 K) a h = j4g l1 j5 K (a 1) (a 2) (a 3) (a 4) h := by kernel_rfl
theorem u19 (p : j4 K (a 1) (a 2) (a 3) (a 4) h) : I c19 (q10 l1 j5 K) a h := ICx.to p (j4_ok l1 j5)
theorem j3_ok (j4 : G4) (l1 : G4) (j5 : G3) : I c20 (q11 j4 l1 j5 K) a h = j3g j4 l1 j5 K (a 1) (a 2) (a 3) (a 4) h := by kernel_rfl
theorem u20 (p : j3 K (a 1) (a 2) (a 3) (a 4) h) : I c20 (q11 j4 l1 j5 K) a h := ICx.to p (j3_ok j4 l1 j5)
theorem u18 (p : j3 K (a 1) (a 2) (a 3) (a 4) h) : I c18 (q10 l1 j5 K) a h := ICx.sq (fun _ _ => u19) (u20 p)
theorem b1_ok (j3 : G4) (l1 : G4) (j5 : G3) : I c21 (q12 j3 l1 j5 K) a h = b1g j3 l1 j5 K (a 1) (a 2) (a 3) (a 4) h := by kernel_rfl
theorem u21 (p : b1 K (a 1) (a 2) (a 3) (a 4) h) : I c21 (q12 j3 l1 j5 K) a h := ICx.to p (b1_ok j3 l1 j5)
theorem u17 (p : b1 K (a 1) (a 2) (a 3) (a 4) h) : I c17 (q10 l1 j5 K) a h := ICx.sq (fun _ _ => u18) (u21 p)
theorem u16 (p : l1 K (a 1) (a 2) (a 3) (a 4) h) : I c16 (q9 j5 K) a h := ICx.lp (p a rfl rfl rfl rfl)
theorem l1_round {x1 x2 x3 x4 : IV} (p : b1 K x1 x2 x3 x4 h) : l1 K x1 x2 x3 x4 h := by
  intro a e1 e2 e3 e4
  subst e1; subst e2; subst e3; subst e4; exact ICx.round Try.mixed (D := D) (L := fun a h => l1 K (a 1) (a 2) (a 3) (a 4) h) (fun a h p => p a rfl rfl rfl rfl) (u17 p)
theorem u15 (p : l1 K (a 1) (a 2) (a 3) (a 4) h) : I c15 (q8 j5 K) a h := ICx.blk (u16 p)
theorem j2_ok (l1 : G4) (j5 : G3) : I c22 (q13 l1 j5 K) a h = j2g l1 j5 K (a 1) (a 2) (a 3) h := by kernel_rfl
theorem u22 (p : j2 K (a 1) (a 2) (a 3) h) : I c22 (q13 l1 j5 K) a h := ICx.to p (j2_ok l1 j5)
theorem u14 (p : j2 K (a 1) (a 2) (a 3) h) : I c14 (q8 j5 K) a h := ICx.sq (fun _ _ => u15) (u22 p)
theorem u2 (p : j2 K (a 1) (a 2) (a 3) h) : I c2 (q1 K) a h := ICx.sq (fun _ _ => u3) (u14 p)
theorem j1_ok (j2 : G3) : I c23 (q14 j2 K) a h = j1g j2 K (a 1) (a 2) h := by kernel_rfl
theorem u23 (p : j1 K (a 1) (a 2) h) : I c23 (q14 j2 K) a h := ICx.to p (j1_ok j2)
theorem u1 (p : j1 K (a 1) (a 2) h) : I c1 (q1 K) a h := ICx.sq (fun _ _ => u2) (u23 p)
theorem e_ok (j1 : G2) : I c24 (q15 j1 K) a h = eg j1 K (a 0) h := by kernel_rfl
theorem u24 (p : e K (a 0) h) : I c24 (q15 j1 K) a h := ICx.to p (e_ok j1)
theorem u0 (p : e K (a 0) h) : I c0 (q1 K) a h := ICx.sq (fun _ _ => u1) (u24 p)
theorem call {x0 : IV} (p : e K x0 h) : Z5 PP Z2Z [x0] h K :=
  ICx.fn Try.mixed Try.func50 rfl (Nat.le_of_ble_eq_true rfl) (u0 (a := actI [x0]) p)
end ZZ
end
end Go.Ideal
namespace Go.Ideal
open Go.Proofs
set_option maxRecDepth 100000
noncomputable section
variable {K : KT} {a : IAct} {h : Heap}
namespace Zt
def D : Nat → DI
  | 27 => ⟨[0, 1, 0, 4, 15, 31, 63, 0, 128, 511], [0, 1, 2, 3, 4, 5, 6, 7, 8, 9], []⟩
  | 29 => ⟨[0, 1, 0, 4, 0, 16, 0, 64, 0, 256, 0, 1024, 783, 4879, 13071, 32767, 65535, 131071], [0, 1, 2, 3, 4, 5, 6, 7, 8, 9, 10, 11, 12, 13, 14, 15, 16, 17], []⟩
  | 37 => ⟨[0, 1, 0, 4, 15, 0, 32, 96, 255], [0, 1, 2, 3, 5, 6, 7, 4, 8], []⟩
  | _ => ⟨[], [], []⟩
abbrev I := ICx PP 201 D
def c0 : Code := bodyN Try.f51
def c1 : Code := cR c0
def c2 : Code := cR c1
def c3 : Code := cR c2
def c4 : Code := cR c3
def c5 : Code := cR c4
def c6 : Code := cL c4
def c7 : Code := cR c6
def c8 : Code := cL c7
def c9 : Code := cR c8
def c10 : Code := cL c9
def c11 : Code := cR c9
def c12 : Code := cR c11
def c13 : Code := cL c12
def c14 : Code := cR c12
def c15 : Code := cR c14
def c16 : Code := cL c15
def c17 : Code := cR c15
def c18 : Code := cR c17
def c19 : Code := cL c18
def c20 : Code := cR c18
def c21 : Code := cR c20
def c22 : Code := cL c21
def c23 : Code := cR c21
def c24 : Code := cR c23
def c25 : Code := cL c24
def c26 : Code := cR c24
def c27 : Code := cR c26
def c28 : Code := cL c27
def c29 : Code := cR c27
def c30 : Code := cR c29
def c31 : Code := cL c30
def c32 : Code := cR c30
def c33 : Code := cR c32
def c34 : Code := cL c33
def c35 : Code := cR c34
def c36 : Code := cL c34
def c37 : Code := cR c33
def c38 : Code := cR c37
def c39 : Code := cL c38
def c40 : Code := cR c38
def c41 : Code := cR c40
def c42 : Code := cL c41
def c43 : Code := cR c41
def c44 : Code := cR c43
def c45 : Code := cL c44
def c46 : Code := cR c44
def c47 : Code := cR c46
def c48 : Code := cL c47
def c49 : Code := cR c48
def c50 : Code := cL c48
def c51 : Code := cR c47
def c52 : Code := cR c51
def c53 : Code := cL c52
def c54 : Code := cR c52
def c55 : Code := cR c54
def c56 : Code := cL c55
def c57 : Code := cR c56
def c58 : Code := cL c56
def c59 : Code := cR c55
def c60 : Code := cL c54
def c61 : Code := cL c51
def c62 : Code := cL c46
def c63 : Code := cL c43
def c64 : Code := cL c40
def c65 : Code := cL c37
def c66 : Code := cL c32
def c67 : Code := cL c29
def c68 : Code := cL c26
def c69 : Code := cL c23
def c70 : Code := cL c20
def c71 : Code := cL c17
def c72 : Code := cL c14
def c73 : Code := cL c11
def c74 : Code := cL c8
def c75 : Code := cL c6
def c76 : Code := cL c3
def c77 : Code := cL c2
def c78 : Code := cL c1
def c79 : Code := cL c78
def c80 : Code := cR c79
def c81 : Code := cL c80
def c82 : Code := cR c80
def c83 : Code := cR c82
def c84 : Code := cL c83
def c85 : Code := cR c83
def c86 : Code := cL c82
def c87 : Code := cL c79
def c88 : Code := cL c0
abbrev q1 (K : KT) : QT := finK PP Try.f51.results.toList K
def j60 (K : KT) (x4 x6 : IV) (h : Heap) : Prop :=
 oD (Z1 PP Z3 x4 h) h fun v1 =>
 oS (Z9 PP Z3 x6 v1 h) h fun h1 =>
 oV (.int .i64 0) h1 fun v2 =>
 Zd PP [.c x6 Z3, .v v2] h1 K
abbrev q2 (j60 : G2) (K : KT) : QT := Z4 (fun a h => j60 K (a 4) (a 6) h) (q1 K)
abbrev q3 (j60 : G2) (K : KT) : QT := Zq 1 (q2 j60 K)
def j13g (j60 : G2) (K : KT) (x3 x4 x5 x6 : IV) (h : Heap) : Prop :=
 oD (Z1 PP Z6 x3 h) h fun v1 =>
 oD (Z1 PP Z3 x4 h) h fun v2 =>
 oD (Z1 PP Z8 x5 h) h fun v3 =>
 Z5 PP Z3C [v1, v2, v3] h fun v4 h1 =>
 oD (Zg v4 0) h1 fun v5 =>
 oD (Zg v4 1) h1 fun v6 =>
 oS (Z9 PP Z3 x6 v5 h1) h1 fun h2 =>
 oV v6 h2 fun v7 =>
 Zd PP [.c x6 Z3, .v v7] h2 K
abbrev j13 : G4 := j13g j60
def j16g (j60 : G2) (K : KT) (x3 x4 x5 x6 : IV) (h : Heap) : Prop :=
 oD (Z1 PP Z6 x3 h) h fun v1 =>
 oD (Z1 PP Z3 x4 h) h fun v2 =>
 oD (Z1 PP Z8 x5 h) h fun v3 =>
 Z5 PP Z3D [v1, v2, v3] h fun v4 h1 =>
 oD (Zg v4 0) h1 fun v5 =>
 oD (Zg v4 1) h1 fun v6 =>
 oS (Z9 PP Z3 x6 v5 h1) h1 fun h2 =>
 oV v6 h2 fun v7 =>
 Zd PP [.c x6 Z3, .v v7] h2 K
abbrev j16 : G4 := j16g j60
def j19g (j60 : G2) (K : KT) (x4 x5 x6 : IV) (h : Heap) : Prop :=
 oD (Z1 PP Z3 x4 h) h fun v1 =>
 oD (Z1 PP Z8 x5 h) h fun v2 =>
 Z5 PP Z3E [v1, v2] h fun v3 h1 =>
 oD (Zg v3 0) h1 fun v4 =>
 oD (Zg v3 1) h1 fun v5 =>
 oS (Z9 PP Z3 x6 v4 h1) h1 fun h2 =>
 oV v5 h2 fun v6 =>
 Zd PP [.c x6 Z3, .v v6] h2 K
abbrev j19 : G3 := j19g j60
def j22g (j60 : G2) (K : KT) (x3 x4 x5 x6 : IV) (h : Heap) : Prop :=
 oD (Z1 PP Z6 x3 h) h fun v1 =>
 oD (Z1 PP Z3 x4 h) h fun v2 =>
 oD (Z1 PP Z8 x5 h) h fun v3 =>
 Z5 PP Z3F [v1, v2, v3] h fun v4 h1 =>
 oD (Zg v4 0) h1 fun v5 =>
 oD (Zg v4 1) h1 fun v6 =>
 oS (Z9 PP Z3 x6 v5 h1) h1 fun h2 =>
 oV v6 h2 fun v7 =>
 Zd PP [.c x6 Z3, .v v7] h2 K
abbrev j22 : G4 := j22g j60
def j25g (j60 : G2) (K : KT) (x4 x5 x6 : IV) (h : Heap) : Prop :=
 oD (Z1 PP Z3 x4 h) h fun v1 =>
 oD (Z1 PP Z8 x5 h) h fun v2 =>
 Z5 PP Z3G [v1, v2] h fun v3 h1 =>
 oD (Zg v3 0) h1 fun v4 =>
 oD (Zg v3 1) h1 fun v5 =>
 oS (Z9 PP Z3 x6 v4 h1) h1 fun h2 =>
 oV v5 h2 fun v6 =>
 Zd PP [.c x6 Z3, .v v6] h2 K
abbrev j25 : G3 := j25g j60
def j28g (j60 : G2) (K : KT) (x3 x4 x5 x6 : IV) (h : Heap) : Prop :=
 oD (Z1 PP Z6 x3 h) h fun v1 =>
 oD (Z1 PP Z3 x4 h) h fun v2 =>
 oD (Z1 PP Z8 x5 h) h fun v3 =>
 Z5 PP Z3H [v1, v2, v3] h fun v4 h1 =>
 oD (Zg v4 0) h1 fun v5 =>
 oD (Zg v4 1) h1 fun v6 =>
 oS (Z9 PP Z3 x6 v5 h1) h1 fun h2 =>
 oV v6 h2 fun v7 =>
 Zd PP [.c x6 Z3, .v v7] h2 K
abbrev j28 : G4 := j28g j60
def j31g (j60 : G2) (K : KT) (x4 x5 x6 : IV) (h : Heap) : Prop :=
 oD (Z1 PP Z3 x4 h) h fun v1 =>
 oD (Z1 PP Z8 x5 h) h fun v2 =>
 Z5 PP Z3I [v1, v2] h fun v3 h1 =>
 oD (Zg v3 0) h1 fun v4 =>
 oD (Zg v3 1) h1 fun v5 =>
 oS (Z9 PP Z3 x6 v4 h1) h1 fun h2 =>
 oV v5 h2 fun v6 =>
 Zd PP [.c x6 Z3, .v v6] h2 K
abbrev j31 : G3 := j31g j60
def j34g (j60 : G2) (K : KT) (x3 x4 x5 x6 : IV) (h : Heap) : Prop :=
 oD (Z1 PP Z6 x3 h) h fun v1 =>
 oD (Z1 PP Z3 x4 h) h fun v2 =>
 oD (Z1 PP Z8 x5 h) h fun v3 =>
 Z5 PP Z3J [v1, v2, v3] h fun v4 h1 =>
 oD (Zg v4 0) h1 fun v5 =>
 oD (Zg v4 1) h1 fun v6 =>
 oS (Z9 PP Z3 x6 v5 h1) h1 fun h2 =>
 oV v6 h2 fun v7 =>
 Zd PP [.c x6 Z3, .v v7] h2 K
abbrev j34 : G4 := j34g j60
def j38g (j60 : G2) (K : KT) (x4 x5 x6 : IV) (h : Heap) : Prop :=
 oD (Z2 PP Z3 x4 3) h fun v1 =>
 oD (Z1 PP Zl v1 h) h fun v2 =>
 oD (Z2 PP Z8 x5 3) h fun v3 =>
 oD (Z1 PP Z0 v3 h) h fun v4 =>
 oD (Z2 PP Z3 x4 3) h fun v5 =>
 oD (Z1 PP Zl v5 h) h fun v6 =>
 oD (Z2 PP Z8 x5 3) h fun v7 =>
 oD (Z1 PP Z0 v7 h) h fun v8 =>
 oD (Z2 PP Z8 x5 8) h fun v9 =>
 oD (Z1 PP Z0 v9 h) h fun v10 =>
 oD (Z2 PP Z8 x5 1) h fun v11 =>
 oD (Z1 PP Z0 v11 h) h fun v12 =>
 oD (Zf PP Zl v2 v4 h) h fun v13 =>
 oD (Z2 PP Zj v13 0) h fun v14 =>
 oS (Z9 PP Z0 v14 v10 h) h fun h1 => oB ((Zb (Z1 PP Z0 v11 h1) v12 h1) ∧ (Zb (Z1 PP Z0 v7 h1) v8 h1) ∧ (Zb (Z1 PP Zl v5 h1) v6 h1) ∧ True) <|
 oD (Zf PP Zl v6 v8 h1) h1 fun v15 =>
 oD (Z2 PP Zj v15 3) h1 fun v16 =>
 oS (Z9 PP Z0 v16 v12 h1) h1 fun h2 => oB (True) <|
 j60 K x4 x6 h2
abbrev j38 : G3 := j38g j60
abbrev q4 (j38 : G3) (j60 : G2) (K : KT) : QT := Z4 (fun a h => j38 K (a 4) (a 5) (a 6) h) (q3 j60 K)
def j37g (j38 : G3) (j60 : G2) (K : KT) (x4 x5 x6 : IV) (h : Heap) : Prop :=
 oD (Z2 PP Z3 x4 3) h fun v1 =>
 oD (Z1 PP Zl v1 h) h fun v2 =>
 oD (Z2 PP Z8 x5 3) h fun v3 =>
 oD (Z1 PP Z0 v3 h) h fun v4 =>
 oD (Zf PP Zl v2 v4 h) h fun v5 =>
 oD (Z2 PP Zj v5 0) h fun v6 =>
 oD (Z1 PP Z0 v6 h) h fun v7 =>
 oD (Z2 PP Z8 x5 8) h fun v8 =>
 oD (Z1 PP Z0 v8 h) h fun v9 =>
 oD (Z7 PP .eql Z0 v7 v9) h fun v10 =>
 bK' v10
   (Z5 PP Zv [.int .i64 4] h fun v11 h1 =>
   oD (Zg v11 0) h1 fun v12 =>
   oD (Zg v11 1) h1 fun v13 =>
   oS (Z9 PP Z3 x6 v12 h1) h1 fun h2 =>
   oV v13 h2 fun v14 =>
   Zd PP [.c x6 Z3, .v v14] h2 K)
   (j38 K x4 x5 x6 h)
abbrev j37 : G3 := j37g j38 j60
def j41g (j60 : G2) (K : KT) (x3 x4 x5 x6 : IV) (h : Heap) : Prop :=
 oD (Z1 PP Z6 x3 h) h fun v1 =>
 oD (Z1 PP Z3 x4 h) h fun v2 =>
 oD (Z1 PP Z8 x5 h) h fun v3 =>
 Z5 PP Z3K [v1, v2, v3] h fun v4 h1 =>
 oD (Zg v4 0) h1 fun v5 =>
 oD (Zg v4 1) h1 fun v6 =>
 oS (Z9 PP Z3 x6 v5 h1) h1 fun h2 =>
 oV v6 h2 fun v7 =>
 Zd PP [.c x6 Z3, .v v7] h2 K
abbrev j41 : G4 := j41g j60
def j44g (j60 : G2) (K : KT) (x4 x5 x6 : IV) (h : Heap) : Prop :=
 oD (Z1 PP Z3 x4 h) h fun v1 =>
 oD (Z1 PP Z8 x5 h) h fun v2 =>
 Z5 PP Z3L [v1, v2] h fun v3 h1 =>
 oD (Zg v3 0) h1 fun v4 =>
 oD (Zg v3 1) h1 fun v5 =>
 oS (Z9 PP Z3 x6 v4 h1) h1 fun h2 =>
 oV v5 h2 fun v6 =>
 Zd PP [.c x6 Z3, .v v6] h2 K
abbrev j44 : G3 := j44g j60
def j47g (j60 : G2) (K : KT) (x3 x4 x5 x6 : IV) (h : Heap) : Prop :=
 oD (Z1 PP Z6 x3 h) h fun v1 =>
 oD (Z1 PP Z3 x4 h) h fun v2 =>
 oD (Z1 PP Z8 x5 h) h fun v3 =>
 Z5 PP Z3M [v1, v2, v3] h fun v4 h1 =>
 oD (Zg v4 0) h1 fun v5 =>
 oD (Zg v4 1) h1 fun v6 =>
 oS (Z9 PP Z3 x6 v5 h1) h1 fun h2 =>
 oV v6 h2 fun v7 =>
 Zd PP [.c x6 Z3, .v v7] h2 K
abbrev j47 : G4 := j47g j60
def j51g (j60 : G2) (K : KT) (x4 x5 x6 : IV) (h : Heap) : Prop :=
 oD (Z2 PP Z3 x4 5) h fun v1 =>
 oD (Z1 PP Z0 v1 h) h fun v2 =>
 oD (Z2 PP Z8 x5 4) h fun v3 =>
 oD (Z1 PP Z0 v3 h) h fun v4 =>
 oD (convI PP Z0 Z1B v4 h) h fun v5 =>
 oD (Z7 PP .shl Z0 (.int .i64 1) v5) h fun v6 =>
 oD (Z7 PP .xor Z0 v2 v6) h fun v7 =>
 oD (Z2 PP Z3 x4 5) h fun v8 =>
 oS (Z9 PP Z0 v8 v7 h) h fun h1 =>
 j60 K x4 x6 h1
abbrev j51 : G3 := j51g j60
abbrev q5 (j51 : G3) (j60 : G2) (K : KT) : QT := Z4 (fun a h => j51 K (a 4) (a 5) (a 6) h) (q3 j60 K)
def j50g (j51 : G3) (j60 : G2) (K : KT) (x4 x5 x6 : IV) (h : Heap) : Prop :=
 oD (Z2 PP Z3 x4 5) h fun v1 =>
 oD (Z1 PP Z0 v1 h) h fun v2 =>
 oD (Z2 PP Z8 x5 4) h fun v3 =>
 oD (Z1 PP Z0 v3 h) h fun v4 =>
 oD (Z2 PP Z8 x5 8) h fun v5 =>
 oD (Z1 PP Z0 v5 h) h fun v6 =>
 oD (Z7 PP .eql Z0 v6 (.int .i64 1)) h fun v7 =>
 Z5 PP Z1S [v2, v4] h fun v8 h1 => oB ((Zb (Z1 PP Z0 v5 h1) v6 h1) ∧ True) <|
 oD (Z7 PP .eql Zy v8 v7) h1 fun v9 =>
 bK' v9
   (Z5 PP Zv [.int .i64 4] h1 fun v10 h2 =>
   oD (Zg v10 0) h2 fun v11 =>
   oD (Zg v10 1) h2 fun v12 =>
   oS (Z9 PP Z3 x6 v11 h2) h2 fun h3 =>
   oV v12 h3 fun v13 =>
   Zd PP [.c x6 Z3, .v v13] h3 K)
   (j51 K x4 x5 x6 h1)
abbrev j50 : G3 := j50g j51 j60
def j54g (j60 : G2) (K : KT) (x3 x4 x6 : IV) (h : Heap) : Prop :=
 oD (Z1 PP Z6 x3 h) h fun v1 =>
 oD (Z1 PP Z3 x4 h) h fun v2 =>
 Z5 PP Z3N [v1, v2] h fun v3 h1 =>
 oD (Zg v3 0) h1 fun v4 =>
 oD (Zg v3 1) h1 fun v5 =>
 oS (Z9 PP Z3 x6 v4 h1) h1 fun h2 =>
 oV v5 h2 fun v6 =>
 Zd PP [.c x6 Z3, .v v6] h2 K
abbrev j54 : G3 := j54g j60
def j58g (j60 : G2) (K : KT) (x4 x6 : IV) (h : Heap) : Prop :=
 oD (Z2 PP Z3 x4 7) h fun v1 =>
 oD (Z1 PP Z0 v1 h) h fun v2 =>
 oD (Z2 PP Z3 x4 6) h fun v3 =>
 oS (Z9 PP Z0 v3 v2 h) h fun h1 =>
 j60 K x4 x6 h1
abbrev j58 : G2 := j58g j60
abbrev q6 (j58 : G2) (j60 : G2) (K : KT) : QT := Z4 (fun a h => j58 K (a 4) (a 6) h) (q3 j60 K)
def j57g (j58 : G2) (j60 : G2) (K : KT) (x4 x6 : IV) (h : Heap) : Prop :=
 oD (Z2 PP Z3 x4 7) h fun v1 =>
 oD (Z1 PP Z0 v1 h) h fun v2 =>
 oD (Z2 PP Z3 x4 6) h fun v3 =>
 oD (Z1 PP Z0 v3 h) h fun v4 =>
 oD (Z7 PP .eql Z0 v2 v4) h fun v5 =>
 bK' v5
   (Z5 PP Zv [.int .i64 4] h fun v6 h1 =>
   oD (Zg v6 0) h1 fun v7 =>
   oD (Zg v6 1) h1 fun v8 =>
   oS (Z9 PP Z3 x6 v7 h1) h1 fun h2 =>
   oV v8 h2 fun v9 =>
   Zd PP [.c x6 Z3, .v v9] h2 K)
   (j58 K x4 x6 h)
abbrev j57 : G2 := j57g j58 j60
def j59g (j60 : G2) (K : KT) (x4 x6 : IV) (h : Heap) : Prop :=
 j60 K x4 x6 h
abbrev j59 : G2 := j59g j60
def j56 (K : KT) (x4 x6 x187 : IV) (h : Heap) : Prop := bK' x187 (j57 K x4 x6 h) (j59 K x4 x6 h)
abbrev q7 (j56 : G3) (j60 : G2) (K : KT) : QT := Z4 (fun a h => j56 K (a 4) (a 6) (a 187) h) (q3 j60 K)
def j55g (j56 : G3) (j60 : G2) (K : KT) (x4 x6 x42 : IV) (h : Heap) : Prop :=
 oD (Z7 PP .eql Z0 x42 (.int .i64 15)) h fun v1 =>
 oV v1 h fun v2 =>
 j56 K x4 x6 v2 h
abbrev j55 : G3 := j55g j56 j60
def j53 (K : KT) (x3 x4 x6 x42 x180 : IV) (h : Heap) : Prop := bK' x180 (j54 K x3 x4 x6 h) (j55 K x4 x6 x42 h)
abbrev q8 (j53 : G5) (j60 : G2) (K : KT) : QT := Z4 (fun a h => j53 K (a 3) (a 4) (a 6) (a 42) (a 180) h) (q3 j60 K)
def j52g (j53 : G5) (j60 : G2) (K : KT) (x3 x4 x6 x42 : IV) (h : Heap) : Prop :=
 oD (Z7 PP .eql Z0 x42 (.int .i64 14)) h fun v1 =>
 oV v1 h fun v2 =>
 j53 K x3 x4 x6 x42 v2 h
abbrev j52 : G4 := j52g j53 j60
def j49 (K : KT) (x3 x4 x5 x6 x42 x158 : IV) (h : Heap) : Prop := bK' x158 (j50 K x4 x5 x6 h) (j52 K x3 x4 x6 x42 h)
abbrev q9 (j49 : G6) (j60 : G2) (K : KT) : QT := Z4 (fun a h => j49 K (a 3) (a 4) (a 5) (a 6) (a 42) (a 158) h) (q3 j60 K)
def j48g (j49 : G6) (j60 : G2) (K : KT) (x3 x4 x5 x6 x42 : IV) (h : Heap) : Prop :=
 oD (Z7 PP .eql Z0 x42 (.int .i64 13)) h fun v1 =>
 oV v1 h fun v2 =>
 j49 K x3 x4 x5 x6 x42 v2 h
abbrev j48 : G5 := j48g j49 j60
def j46 (K : KT) (x3 x4 x5 x6 x42 x150 : IV) (h : Heap) : Prop := bK' x150 (j47 K x3 x4 x5 x6 h) (j48 K x3 x4 x5 x6 x42 h)
abbrev q10 (j46 : G6) (j60 : G2) (K : KT) : QT := Z4 (fun a h => j46 K (a 3) (a 4) (a 5) (a 6) (a 42) (a 150) h) (q3 j60 K)
def j45g (j46 : G6) (j60 : G2) (K : KT) (x3 x4 x5 x6 x42 : IV) (h : Heap) : Prop :=
 oD (Z7 PP .eql Z0 x42 (.int .i64 12)) h fun v1 =>
 oV v1 h fun v2 =>
 j46 K x3 x4 x5 x6 x42 v2 h
abbrev j45 : G5 := j45g j46 j60
def j43 (K : KT) (x3 x4 x5 x6 x42 x143 : IV) (h : Heap) : Prop := bK' x143 (j44 K x4 x5 x6 h) (j45 K x3 x4 x5 x6 x42 h)
abbrev q11 (j43 : G6) (j60 : G2) (K : KT) : QT := Z4 (fun a h => j43 K (a 3) (a 4) (a 5) (a 6) (a 42) (a 143) h) (q3 j60 K)
def j42g (j43 : G6) (j60 : G2) (K : KT) (x3 x4 x5 x6 x42 : IV) (h : Heap) : Prop :=
 oD (Z7 PP .eql Z0 x42 (.int .i64 11)) h fun v1 =>
 oV v1 h fun v2 =>
 j43 K x3 x4 x5 x6 x42 v2 h
abbrev j42 : G5 := j42g j43 j60
def j40 (K : KT) (x3 x4 x5 x6 x42 x135 : IV) (h : Heap) : Prop := bK' x135 (j41 K x3 x4 x5 x6 h) (j42 K x3 x4 x5 x6 x42 h)
abbrev q12 (j40 : G6) (j60 : G2) (K : KT) : QT := Z4 (fun a h => j40 K (a 3) (a 4) (a 5) (a 6) (a 42) (a 135) h) (q3 j60 K)
def j39g (j40 : G6) (j60 : G2) (K : KT) (x3 x4 x5 x6 x42 : IV) (h : Heap) : Prop :=
 oD (Z7 PP .eql Z0 x42 (.int .i64 10)) h fun v1 =>
 oV v1 h fun v2 =>
 j40 K x3 x4 x5 x6 x42 v2 h
abbrev j39 : G5 := j39g j40 j60
def j36 (K : KT) (x3 x4 x5 x6 x42 x104 : IV) (h : Heap) : Prop := bK' x104 (j37 K x4 x5 x6 h) (j39 K x3 x4 x5 x6 x42 h)
abbrev q13 (j36 : G6) (j60 : G2) (K : KT) : QT := Z4 (fun a h => j36 K (a 3) (a 4) (a 5) (a 6) (a 42) (a 104) h) (q3 j60 K)
def j35g (j36 : G6) (j60 : G2) (K : KT) (x3 x4 x5 x6 x42 : IV) (h : Heap) : Prop :=
 oD (Z7 PP .eql Z0 x42 (.int .i64 9)) h fun v1 =>
 oV v1 h fun v2 =>
 j36 K x3 x4 x5 x6 x42 v2 h
abbrev j35 : G5 := j35g j36 j60
def j33 (K : KT) (x3 x4 x5 x6 x42 x96 : IV) (h : Heap) : Prop := bK' x96 (j34 K x3 x4 x5 x6 h) (j35 K x3 x4 x5 x6 x42 h)
abbrev q14 (j33 : G6) (j60 : G2) (K : KT) : QT := Z4 (fun a h => j33 K (a 3) (a 4) (a 5) (a 6) (a 42) (a 96) h) (q3 j60 K)
def j32g (j33 : G6) (j60 : G2) (K : KT) (x3 x4 x5 x6 x42 : IV) (h : Heap) : Prop :=
 oD (Z7 PP .eql Z0 x42 (.int .i64 8)) h fun v1 =>
 oV v1 h fun v2 =>
 j33 K x3 x4 x5 x6 x42 v2 h
abbrev j32 : G5 := j32g j33 j60
def j30 (K : KT) (x3 x4 x5 x6 x42 x89 : IV) (h : Heap) : Prop := bK' x89 (j31 K x4 x5 x6 h) (j32 K x3 x4 x5 x6 x42 h)
abbrev q15 (j30 : G6) (j60 : G2) (K : KT) : QT := Z4 (fun a h => j30 K (a 3) (a 4) (a 5) (a 6) (a 42) (a 89) h) (q3 j60 K)
def j29g (j30 : G6) (j60 : G2) (K : KT) (x3 x4 x5 x6 x42 : IV) (h : Heap) : Prop :=
 oD (Z7 PP .eql Z0 x42 (.int .i64 7)) h fun v1 =>
 oV v1 h fun v2 =>
 j30 K x3 x4 x5 x6 x42 v2 h
abbrev j29 : G5 := j29g j30 j60
def j27 (K : KT) (x3 x4 x5 x6 x42 x81 : IV) (h : Heap) : Prop := bK' x81 (j28 K x3 x4 x5 x6 h) (j29 K x3 x4 x5 x6 x42 h)
abbrev q16 (j27 : G6) (j60 : G2) (K : KT) : QT := Z4 (fun a h => j27 K (a 3) (a 4) (a 5) (a 6) (a 42) (a 81) h) (q3 j60 K)
def j26g (j27 : G6) (j60 : G2) (K : KT) (x3 x4 x5 x6 x42 : IV) (h : Heap) : Prop :=
 oD (Z7 PP .eql Z0 x42 (.int .i64 6)) h fun v1 =>
 oV v1 h fun v2 =>
 j27 K x3 x4 x5 x6 x42 v2 h
abbrev j26 : G5 := j26g j27 j60
def j24 (K : KT) (x3 x4 x5 x6 x42 x74 : IV) (h : Heap) : Prop := bK' x74 (j25 K x4 x5 x6 h) (j26 K x3 x4 x5 x6 x42 h)
abbrev q17 (j24 : G6) (j60 : G2) (K : KT) : QT := Z4 (fun a h => j24 K (a 3) (a 4) (a 5) (a 6) (a 42) (a 74) h) (q3 j60 K)
def j23g (j24 : G6) (j60 : G2) (K : KT) (x3 x4 x5 x6 x42 : IV) (h : Heap) : Prop :=
 oD (Z7 PP .eql Z0 x42 (.int .i64 5)) h fun v1 =>
 oV v1 h fun v2 =>
 j24 K x3 x4 x5 x6 x42 v2 h
abbrev j23 : G5 := j23g j24 j60
def j21 (K : KT) (x3 x4 x5 x6 x42 x66 : IV) (h : Heap) : Prop := bK' x66 (j22 K x3 x4 x5 x6 h) (j23 K x3 x4 x5 x6 x42 h)
abbrev q18 (j21 : G6) (j60 : G2) (K : KT) : QT := Z4 (fun a h => j21 K (a 3) (a 4) (a 5) (a 6) (a 42) (a 66) h) (q3 j60 K)
def j20g (j21 : G6) (j60 : G2) (K : KT) (x3 x4 x5 x6 x42 : IV) (h : Heap) : Prop :=
 oD (Z7 PP .eql Z0 x42 (.int .i64 4)) h fun v1 =>
 oV v1 h fun v2 =>
 j21 K x3 x4 x5 x6 x42 v2 h
abbrev j20 : G5 := j20g j21 j60
def j18 (K : KT) (x3 x4 x5 x6 x42 x59 : IV) (h : Heap) : Prop := bK' x59 (j19 K x4 x5 x6 h) (j20 K x3 x4 x5 x6 x42 h)
abbrev q19 (j18 : G6) (j60 : G2) (K : KT) : QT := Z4 (fun a h => j18 K (a 3) (a 4) (a 5) (a 6) (a 42) (a 59) h) (q3 j60 K)
def j17g (j18 : G6) (j60 : G2) (K : KT) (x3 x4 x5 x6 x42 : IV) (h : Heap) : Prop :=
 oD (Z7 PP .eql Z0 x42 (.int .i64 3)) h fun v1 =>
 oV v1 h fun v2 =>
 j18 K x3 x4 x5 x6 x42 v2 h
abbrev j17 : G5 := j17g j18 j60
def j15 (K : KT) (x3 x4 x5 x6 x42 x51 : IV) (h : Heap) : Prop := bK' x51 (j16 K x3 x4 x5 x6 h) (j17 K x3 x4 x5 x6 x42 h)
abbrev q20 (j15 : G6) (j60 : G2) (K : KT) : QT := Z4 (fun a h => j15 K (a 3) (a 4) (a 5) (a 6) (a 42) (a 51) h) (q3 j60 K)
def j14g (j15 : G6) (j60 : G2) (K : KT) (x3 x4 x5 x6 x42 : IV) (h : Heap) : Prop :=
 oD (Z7 PP .eql Z0 x42 (.int .i64 2)) h fun v1 =>
 oV v1 h fun v2 =>
 j15 K x3 x4 x5 x6 x42 v2 h
abbrev j14 : G5 := j14g j15 j60
def j12 (K : KT) (x3 x4 x5 x6 x42 x43 : IV) (h : Heap) : Prop := bK' x43 (j13 K x3 x4 x5 x6 h) (j14 K x3 x4 x5 x6 x42 h)
abbrev q21 (j12 : G6) (j60 : G2) (K : KT) : QT := Z4 (fun a h => j12 K (a 3) (a 4) (a 5) (a 6) (a 42) (a 43) h) (q3 j60 K)
def j11g (j12 : G6) (j60 : G2) (K : KT) (x3 x4 x5 x6 x42 : IV) (h : Heap) : Prop :=
 oD (Z7 PP .eql Z0 x42 (.int .i64 1)) h fun v1 =>
 oV v1 h fun v2 =>
 j12 K x3 x4 x5 x6 x42 v2 h
abbrev j11 : G5 := j11g j12 j60
abbrev q22 (j11 : G5) (j60 : G2) (K : KT) : QT := Z4 (fun a h => j11 K (a 3) (a 4) (a 5) (a 6) (a 42) h) (q2 j60 K)
def j10g (j11 : G5) (j60 : G2) (K : KT) (x3 x4 x5 x6 : IV) (h : Heap) : Prop :=
 oD (Z2 PP Z8 x5 0) h fun v1 =>
 oD (Z1 PP Z0 v1 h) h fun v2 =>
 j11 K x3 x4 x5 x6 v2 h
abbrev j10 : G4 := j10g j11 j60
abbrev q23 (j10 : G4) (K : KT) : QT := Z4 (fun a h => j10 K (a 3) (a 4) (a 5) (a 6) h) (q1 K)
def j9g (j10 : G4) (K : KT) (x3 x4 x5 x6 : IV) (h : Heap) : Prop :=
 oD (Z2 PP Z8 x5 1) h fun v1 =>
 oD (Z1 PP Z0 v1 h) h fun v2 =>
 oD (Z2 PP Z3 x4 1) h fun v3 =>
 oD (Z1 PP Z0 v3 h) h fun v4 =>
 oD (Z7 PP .add Z0 v4 (.int .i64 1)) h fun v5 =>
 oD (Z2 PP Z3 x4 0) h fun v6 =>
 oS (Z9 PP Z0 v6 v2 h) h fun h1 =>
 oD (Z2 PP Z3 x4 1) h1 fun v7 =>
 oS (Z9 PP Z0 v7 v5 h1) h1 fun h2 =>
 j10 K x3 x4 x5 x6 h2
abbrev j9 : G4 := j9g j10
abbrev q24 (j9 : G4) (K : KT) : QT := Z4 (fun a h => j9 K (a 3) (a 4) (a 5) (a 6) h) (q1 K)
def j8g (j9 : G4) (K : KT) (x3 x4 x5 x6 : IV) (h : Heap) : Prop :=
 oD (Z1 PP Z3 x4 h) h fun v1 =>
 Z5 PP Z3B [v1] h fun v2 h1 =>
 oS (Z9 PP Z3 x4 v2 h1) h1 fun h2 =>
 j9 K x3 x4 x5 x6 h2
abbrev j8 : G4 := j8g j9
abbrev q25 (j8 : G4) (K : KT) : QT := Z4 (fun a h => j8 K (a 3) (a 4) (a 5) (a 6) h) (q1 K)
abbrev q26 (j8 : G4) (K : KT) : QT := Zq 0 (q25 j8 K)
def j3g (j8 : G4) (K : KT) (x6 : IV) (h : Heap) : Prop :=
 Z5 PP Zv [.int .i64 1] h fun v1 h1 =>
 oD (Zg v1 0) h1 fun v2 =>
 oD (Zg v1 1) h1 fun v3 =>
 oS (Z9 PP Z3 x6 v2 h1) h1 fun h2 =>
 oV v3 h2 fun v4 =>
 Zd PP [.c x6 Z3, .v v4] h2 K
abbrev j3 : G1 := j3g j8
def j6g (j8 : G4) (K : KT) (x6 : IV) (h : Heap) : Prop :=
 Z5 PP Zv [.int .i64 2] h fun v1 h1 =>
 oD (Zg v1 0) h1 fun v2 =>
 oD (Zg v1 1) h1 fun v3 =>
 oS (Z9 PP Z3 x6 v2 h1) h1 fun h2 =>
 oV v3 h2 fun v4 =>
 Zd PP [.c x6 Z3, .v v4] h2 K
abbrev j6 : G1 := j6g j8
def j7g (j8 : G4) (K : KT) (x3 x4 x5 x6 : IV) (h : Heap) : Prop :=
 oD (Z2 PP Z8 x5 1) h fun v1 =>
 oD (Z1 PP Z0 v1 h) h fun v2 =>
 oD (Z2 PP Z3 x4 0) h fun v3 =>
 oD (Z1 PP Z0 v3 h) h fun v4 =>
 oD (Z7 PP .lss Z0 v2 v4) h fun v5 =>
 oV v5 h fun v6 =>
 bK' v6
   (Z5 PP Zv [.int .i64 3] h fun v7 h1 =>
   oD (Zg v7 0) h1 fun v8 =>
   oD (Zg v7 1) h1 fun v9 =>
   oS (Z9 PP Z3 x6 v8 h1) h1 fun h2 =>
   oV v9 h2 fun v10 =>
   Zd PP [.c x6 Z3, .v v10] h2 K)
   (j8 K x3 x4 x5 x6 h)
abbrev j7 : G4 := j7g j8
def j5 (K : KT) (x3 x4 x5 x6 x16 : IV) (h : Heap) : Prop := bK' x16 (j6 K x6 h) (j7 K x3 x4 x5 x6 h)
abbrev q27 (j5 : G5) (j8 : G4) (K : KT) : QT := Z4 (fun a h => j5 K (a 3) (a 4) (a 5) (a 6) (a 16) h) (q26 j8 K)
def j4g (j5 : G5) (j8 : G4) (K : KT) (x3 x4 x5 x6 : IV) (h : Heap) : Prop :=
 oD (Z2 PP Z3 x4 1) h fun v1 =>
 oD (Z1 PP Z0 v1 h) h fun v2 =>
 oD (Z7 PP .geq Z0 v2 (.int .i64 4096)) h fun v3 =>
 oV v3 h fun v4 =>
 j5 K x3 x4 x5 x6 v4 h
abbrev j4 : G4 := j4g j5 j8
def j2 (K : KT) (x3 x4 x5 x6 x8 : IV) (h : Heap) : Prop := bK' x8 (j3 K x6 h) (j4 K x3 x4 x5 x6 h)
abbrev q28 (j2 : G5) (j8 : G4) (K : KT) : QT := Z4 (fun a h => j2 K (a 3) (a 4) (a 5) (a 6) (a 8) h) (q26 j8 K)
def j1g (j2 : G5) (j8 : G4) (K : KT) (x3 x4 x5 x6 : IV) (h : Heap) : Prop :=
 oD (Z1 PP Z6 x3 h) h fun v1 =>
 oD (Z1 PP Z8 x5 h) h fun v2 =>
 Z5 PP Z3A [v1, v2] h fun v3 h1 =>
 oD (unI .not v3) h1 fun v4 =>
 oV v4 h1 fun v5 =>
 j2 K x3 x4 x5 x6 v5 h1
abbrev j1 : G4 := j1g j2 j8
abbrev q29 (j1 : G4) (K : KT) : QT := Z4 (fun a h => j1 K (a 3) (a 4) (a 5) (a 6) h) (q1 K)
def eg (j1 : G4) (K : KT) (x0 x1 x2 : IV) (h : Heap) : Prop :=
 oA (Zi Z6 x0 h) h fun v1 h1 =>
 oA (Zi Z3 x1 h1) h1 fun v2 h2 =>
 oA (Zi Z8 x2 h2) h2 fun v3 h3 =>
 oA (Zp PP Z3 h3) h3 fun v4 h4 =>
 oV (.int .i64 0) h4 fun v5 =>
 j1 K v1 v2 v3 v4 h4
abbrev e : G3 := eg j1
theorem u5 (p : j60 K (a 4) (a 6) h) : I c5 (q1 K) a h := ICx.to p
theorem j13_ok (j60 : G2) : I c10 (q3 j60 K) a h = j13g j60 K (a 3) (a 4) (a 5) (a 6) h := by kernel_rfl
theorem u10 (p : j13 K (a 3) (a 4) (a 5) (a 6) h) : I c10 (q3 j60 K) a h := ICx.to p (j13_ok j60)
theorem j16_ok (j60 : G2) : I c13 (q3 j60 K) a h = j16g j60 K (a 3) (a 4) (a 5) (a 6) h := by kernel_rfl
theorem u13 (p : j16 K (a 3) (a 4) (a 5) (a 6) h) : I c13 (q3 j60 K) a h := ICx.to p (j16_ok j60)
theorem j19_ok (j60 : G2) : I c16 (q3 j60 K) a h = j19g j60 K (a 4) (a 5) (a 6) h := by kernel_rfl
theorem u16 (p : j19 K (a 4) (a 5) (a 6) h) : I c16 (q3 j60 K) a h := ICx.to p (j19_ok j60)
theorem j22_ok (j60 : G2) : I c19 (q3 j60 K) a h = j22g j60 K (a 3) (a 4) (a 5) (a 6) h := by kernel_rfl
theorem u19 (p : j22 K (a 3) (a 4) (a 5) (a 6) h) : I c19 (q3 j60 K) a h := ICx.to p (j22_ok j60)
theorem j25_ok (j60 : G2) : I c22 (q3 j60 K) a h = j25g j60 K (a 4) (a 5) (a 6) h := by kernel_rfl
theorem u22 (p : j25 K (a 4) (a 5) (a 6) h) : I c22 (q3 j60 K) a h := ICx.to p (j25_ok j60)
theorem j28_ok (j60 : G2) : I c25 (q3 j60 K) a h = j28g j60 K (a 3) (a 4) (a 5) (a 6) h := by kernel_rfl
theorem u25 (p : j28 K (a 3) (a 4) (a 5) (a 6) h) : I c25 (q3 j60 K) a h := ICx.to p (j28_ok j60)
theorem j31_ok (j60 : G2) : I c28 (q3 j60 K) a h = j31g j60 K (a 4) (a 5) (a 6) h := by kernel_rfl
theorem u28 (p : j31 K (a 4) (a 5) (a 6) h) : I c28 (q3 j60 K) a h := ICx.to p (j31_ok j60)
theorem j34_ok (j60 : G2) : I c31 (q3 j60 K) a h = j34g j60 K (a 3) (a 4) (a 5) (a 6) h := by kernel_rfl
theorem u31 (p : j34 K (a 3) (a 4) (a 5) (a 6) h) : I c31 (q3 j60 K) a h := ICx.to p (j34_ok j60)
theorem j38_ok (j60 : G2) : I c35 (q3 j60 K) a h = j38g j60 K (a 4) (a 5) (a 6) h := by kernel_rfl
theorem u35 (p : j38 K (a 4) (a 5) (a 6) h) : I c35 (q3 j60 K) a h := ICx.to p (j38_ok j60)
theorem j37_ok (j38 : G3) (j60 : G2) : I c36 (q4 j38 j60 K) a h = j37g j38 j60 K (a 4) (a 5) (a 6) h := by kernel_rfl
theorem u36 (p : j37 K (a 4) (a 5) (a 6) h) : I c36 (q4 j38 j60 K) a h := ICx.to p (j37_ok j38 j60)
theorem u34 (p : j37 K (a 4) (a 5) (a 6) h) : I c34 (q3 j60 K) a h := ICx.sq (fun _ _ => u35) (u36 p)
theorem j41_ok (j60 : G2) : I c39 (q3 j60 K) a h = j41g j60 K (a 3) (a 4) (a 5) (a 6) h := by kernel_rfl
theorem u39 (p : j41 K (a 3) (a 4) (a 5) (a 6) h) : I c39 (q3 j60 K) a h := ICx.to p (j41_ok j60)
theorem j44_ok (j60 : G2) : I c42 (q3 j60 K) a h = j44g j60 K (a 4) (a 5) (a 6) h := by kernel_rfl
theorem u42 (p : j44 K (a 4) (a 5) (a 6) h) : I c42 (q3 j60 K) a h := ICx.to p (j44_ok j60)
theorem j47_ok (j60 : G2) : I c45 (q3 j60 K) a h = j47g j60 K (a 3) (a 4) (a 5) (a 6) h := by kernel_rfl
theorem u45 (p : j47 K (a 3) (a 4) (a 5) (a 6) h) : I c45 (q3 j60 K) a h := ICx.to p (j47_ok j60)
theorem j51_ok (j60 : G2) : I c49 (q3 j60 K) a h = j51g j60 K (a 4) (a 5) (a 6) h := by kernel_rfl
theorem u49 (p : j51 K (a 4) (a 5) (a 6) h) : I c49 (q3 j60 K) a h := ICx.to p (j51_ok j60)
theorem j50_ok (j51 : G3) (j60 : G2) : I c50 (q5 j51 j60 K) a h = j50g j51 j60 K (a 4) (a 5) (a 6) h := by kernel_rfl
theorem u50 (p : j50 K (a 4) (a 5) (a 6) h) : I c50 (q5 j51 j60 K) a h := ICx.to p (j50_ok j51 j60)
theorem u48 (p : j50 K (a 4) (a 5) (a 6) h) : I c48 (q3 j60 K) a h := ICx.sq (fun _ _ => u49) (u50 p)
theorem j54_ok (j60 : G2) : I c53 (q3 j60 K) a h = j54g j60 K (a 3) (a 4) (a 6) h := by kernel_rfl
theorem u53 (p : j54 K (a 3) (a 4) (a 6) h) : I c53 (q3 j60 K) a h := ICx.to p (j54_ok j60)
theorem j58_ok (j60 : G2) : I c57 (q3 j60 K) a h = j58g j60 K (a 4) (a 6) h := by kernel_rfl
theorem u57 (p : j58 K (a 4) (a 6) h) : I c57 (q3 j60 K) a h := ICx.to p (j58_ok j60)
theorem j57_ok (j58 : G2) (j60 : G2) : I c58 (q6 j58 j60 K) a h = j57g j58 j60 K (a 4) (a 6) h := by kernel_rfl
theorem u58 (p : j57 K (a 4) (a 6) h) : I c58 (q6 j58 j60 K) a h := ICx.to p (j57_ok j58 j60)
theorem u56 (p : j57 K (a 4) (a 6) h) : I c56 (q3 j60 K) a h := ICx.sq (fun _ _ => u57) (u58 p)
theorem j59_ok (j60 : G2) : I c59 (q3 j60 K) a h = j59g j60 K (a 4) (a 6) h := by kernel_rfl
theorem u59 (p : j59 K (a 4) (a 6) h) : I c59 (q3 j60 K) a h := ICx.to p (j59_ok j60)
theorem u55 (p : j56 K (a 4) (a 6) (a 187) h) : I c55 (q3 j60 K) a h := ICx.cnd (o := (Go.Operand.tmp 187)) u56 u59 p
theorem j55_ok (j56 : G3) (j60 : G2) : I c60 (q7 j56 j60 K) a h = j55g j56 j60 K (a 4) (a 6) (a 42) h := by kernel_rfl
theorem u60 (p : j55 K (a 4) (a 6) (a 42) h) : I c60 (q7 j56 j60 K) a h := ICx.to p (j55_ok j56 j60)
theorem u54 (p : j55 K (a 4) (a 6) (a 42) h) : I c54 (q3 j60 K) a h := ICx.sq (fun _ _ => u55) (u60 p)
theorem u52 (p : j53 K (a 3) (a 4) (a 6) (a 42) (a 180) h) : I c52 (q3 j60 K) a h := ICx.cnd (o := (Go.Operand.tmp 180)) u53 u54 p
theorem j52_ok (j53 : G5) (j60 : G2) : I c61 (q8 j53 j60 K) a h = j52g j53 j60 K (a 3) (a 4) (a 6) (a 42) h := by kernel_rfl
theorem u61 (p : j52 K (a 3) (a 4) (a 6) (a 42) h) : I c61 (q8 j53 j60 K) a h := ICx.to p (j52_ok j53 j60)
theorem u51 (p : j52 K (a 3) (a 4) (a 6) (a 42) h) : I c51 (q3 j60 K) a h := ICx.sq (fun _ _ => u52) (u61 p)
theorem u47 (p : j49 K (a 3) (a 4) (a 5) (a 6) (a 42) (a 158) h) : I c47 (q3 j60 K) a h := ICx.cnd (o := (Go.Operand.tmp 158)) u48 u51 p
theorem j48_ok (j49 : G6) (j60 : G2) : I c62 (q9 j49 j60 K) a h = j48g j49 j60 K (a 3) (a 4) (a 5) (a 6) (a 42) h := by kernel_rfl
theorem u62 (p : j48 K (a 3) (a 4) (a 5) (a 6) (a 42) h) : I c62 (q9 j49 j60 K) a h := ICx.to p (j48_ok j49 j60)
theorem u46 (p : j48 K (a 3) (a 4) (a 5) (a 6) (a 42) h) : I c46 (q3 j60 K) a h := ICx.sq (fun _ _ => u47) (u62 p)
theorem u44 (p : j46 K (a 3) (a 4) (a 5) (a 6) (a 42) (a 150) h) : I c44 (q3 j60 K) a h := ICx.cnd (o := (Go.Operand.tmp 150)) u45 u46 p
theorem j45_ok (j46 : G6) (j60 : G2) : I c63 (q10 j46 j60 K) a h = j45g j46 j60 K (a 3) (a 4) (a 5) (a 6) (a 42) h := by kernel_rfl
theorem u63 (p : j45 K (a 3) (a 4) (a 5) (a 6) (a 42) h) : I c63 (q10 j46 j60 K) a h := ICx.to p (j45_ok j46 j60)
theorem u43 (p : j45 K (a 3) (a 4) (a 5) (a 6) (a 42) h) : I c43 (q3 j60 K) a h := ICx.sq (fun _ _ => u44) (u63 p)
theorem u41 (p : j43 K (a 3) (a 4) (a 5) (a 6) (a 42) (a 143) h) : I c41 (q3 j60 K) a h := ICx.cnd (o := (Go.Operand.tmp 143)) u42 u43 p
theorem j42_ok (j43 : G6) (j60 : G2) : I c64 (q11 j43 j60 K) a h = j42g j43 j60 K (a 3) (a 4) (a 5) (a 6) (a 42) h := by kernel_rfl
theorem u64 (p : j42 K (a 3) (a 4) (a 5) (a 6) (a 42) h) : I c64 (q11 j43 j60 K) a h := ICx.to p (j42_ok j43 j60)
theorem u40 (p : j42 K (a 3) (a 4) (a 5) (a 6) (a 42) h) : I c40 (q3 j60 K) a h := ICx.sq (fun _ _ => u41) (u64 p)
theorem u38 (p : j40 K (a 3) (a 4) (a 5) (a 6) (a 42) (a 135) h) : I c38 (q3 j60 K) a h := ICx.cnd (o := (Go.Operand.tmp 135)) u39 u40 p
theorem j39_ok (j40 : G6) (j60 : G2) : I c65 (q12 j40 j60 K) a h = j39g j40 j60 K (a 3) (a 4) (a 5) (a 6) (a 42) h := by kernel_rfl
theorem u65 (p : j39 K (a 3) (a 4) (a 5) (a 6) (a 42) h) : I c65 (q12 j40 j60 K) a h := ICx.to p (j39_ok j40 j60)
theorem u37 (p : j39 K (a 3) (a 4) (a 5) (a 6) (a 42) h) : I c37 (q3 j60 K) a h := ICx.sq (fun _ _ => u38) (u65 p)
theorem u33 (p : j36 K (a 3) (a 4) (a 5) (a 6) (a 42) (a 104) h) : I c33 (q3 j60 K) a h := ICx.cnd (o := (Go.Operand.tmp 104)) u34 u37 p
theorem j35_ok (j36 : G6) (j60 : G2) : I c66 (q13 j36 j60 K) a h = j35g j36 j60 K (a 3) (a 4) (a 5) (a 6) (a 42) h := by kernel_rfl
theorem u66 (p : j35 K (a 3) (a 4) (a 5) (a 6) (a 42) h) : I c66 (q13 j36 j60 K) a h := ICx.to p (j35_ok j36 j60)
theorem u32 (p : j35 K (a 3) (a 4) (a 5) (a 6) (a 42) h) : I c32 (q3 j60 K) a h := ICx.sq (fun _ _ => u33) (u66 p)
theorem u30 (p : j33 K (a 3) (a 4) (a 5) (a 6) (a 42) (a 96) h) : I c30 (q3 j60 K) a h := ICx.cnd (o := (Go.Operand.tmp 96)) u31 u32 p
theorem j32_ok (j33 : G6) (j60 : G2) : I c67 (q14 j33 j60 K) a h = j32g j33 j60 K (a 3) (a 4) (a 5) (a 6) (a 42) h := by kernel_rfl
theorem u67 (p : j32 K (a 3) (a 4) (a 5) (a 6) (a 42) h) : I c67 (q14 j33 j60 K) a h := ICx.to p (j32_ok j33 j60)
theorem u29 (p : j32 K (a 3) (a 4) (a 5) (a 6) (a 42) h) : I c29 (q3 j60 K) a h := ICx.sq (fun _ _ => u30) (u67 p)
theorem u27 (p : j30 K (a 3) (a 4) (a 5) (a 6) (a 42) (a 89) h) : I c27 (q3 j60 K) a h := ICx.cnd (o := (Go.Operand.tmp 89)) u28 u29 p
theorem j29_ok (j30 : G6) (j60 : G2) : I c68 (q15 j30 j60 K) a h = j29g j30 j60 K (a 3) (a 4) (a 5) (a 6) (a 42) h := by kernel_rfl
theorem u68 (p : j29 K (a 3) (a 4) (a 5) (a 6) (a 42) h) : I c68 (q15 j30 j60 K) a h := ICx.to p (j29_ok j30 j60)
theorem u26 (p : j29 K (a 3) (a 4) (a 5) (a 6) (a 42) h) : I c26 (q3 j60 K) a h := ICx.sq (fun _ _ => u27) (u68 p)
theorem u24 (p : j27 K (a 3) (a 4) (a 5) (a 6) (a 42) (a 81) h) : I c24 (q3 j60 K) a h := ICx.cnd (o := (Go.Operand.tmp 81)) u25 u26 p
theorem j26_ok (j27 : G6) (j60 : G2) : I c69 (q16 j27 j60 K) a h = j26g j27 j60 K (a 3) (a 4) (a 5) (a 6) (a 42) h := by kernel_rfl
theorem u69 (p : j26 K (a 3) (a 4) (a 5) (a 6) (a 42) h) : I c69 (q16 j27 j60 K) a h := ICx.to p (j26_ok j27 j60)
theorem u23 (p : j26 K (a 3) (a 4) (a 5) (a 6) (a 42) h) : I c23 (q3 j60 K) a h := ICx.sq (fun _ _ => u24) (u69 p)
theorem u21 (p : j24 K (a 3) (a 4) (a 5) (a 6) (a 42) (a 74) h) : I c21 (q3 j60 K) a h := ICx.cnd (o := (Go.Operand.tmp 74)) u22 u23 p
theorem j23_ok (j24 : G6) (j60 : G2) : I c70 (q17 j24 j60 K) a h = j23g j24 j60 K (a 3) (a 4) (a 5) (a 6) (a 42) h := by kernel_rfl
theorem u70 (p : j23 K (a 3) (a 4) (a 5) (a 6) (a 42) h) : I c70 (q17 j24 j60 K) a h := ICx.to p (j23_ok j24 j60)
theorem u20 (p : j23 K (a 3) (a 4) (a 5) (a 6) (a 42) h) : I c20 (q3 j60 K) a h := ICx.sq (fun _ _ => u21) (u70 p)
theorem u18 (p : j21 K (a 3) (a 4) (a 5) (a 6) (a 42) (a 66) h) : I c18 (q3 j60 K) a h := ICx.cnd (o := (Go.Operand.tmp 66)) u19 u20 p
theorem j20_ok (j21 : G6) (j60 : G2) : I c71 (q18 j21 j60 K) a h = j20g j21 j60 K (a 3) (a 4) (a 5) (a 6) (a 42) h := by kernel_rfl
theorem u71 (p : j20 K (a 3) (a 4) (a 5) (a 6) (a 42) h) : I c71 (q18 j21 j60 K) a h := ICx.to p (j20_ok j21 j60)
theorem u17 (p : j20 K (a 3) (a 4) (a 5) (a 6) (a 42) h) : I c17 (q3 j60 K) a h := ICx.sq (fun _ _ => u18) (u71 p)
theorem u15 (p : j18 K (a 3) (a 4) (a 5) (a 6) (a 42) (a 59) h) : I c15 (q3 j60 K) a h := ICx.cnd (o := (Go.Operand.tmp 59)) u16 u17 p
theorem j17_ok (j18 : G6) (j60 : G2) : I c72 (q19 j18 j60 K) a h = j17g j18 j60 K (a 3) (a 4) (a 5) (a 6) (a 42) h := by kernel_rfl
theorem u72 (p : j17 K (a 3) (a 4) (a 5) (a 6) (a 42) h) : I c72 (q19 j18 j60 K) a h := ICx.to p (j17_ok j18 j60)
theorem u14 (p : j17 K (a 3) (a 4) (a 5) (a 6) (a 42) h) : I c14 (q3 j60 K) a h := ICx.sq (fun _ _ => u15) (u72 p)
theorem u12 (p : j15 K (a 3) (a 4) (a 5) (a 6) (a 42) (a 51) h) : I c12 (q3 j60 K) a h := ICx.cnd (o := (Go.Operand.tmp 51)) u13 u14 p
theorem j14_ok (j15 : G6) (j60 : G2) : I c73 (q20 j15 j60 K) a h = j14g j15 j60 K (a 3) (a 4) (a 5) (a 6) (a 42) h := by kernel_rfl
theorem u73 (p : j14 K (a 3) (a 4) (a 5) (a 6) (a 42) h) : I c73 (q20 j15 j60 K) a h := ICx.to p (j14_ok j15 j60)
theorem u11 (p : j14 K (a 3) (a 4) (a 5) (a 6) (a 42) h) : I c11 (q3 j60 K) a h := ICx.sq (fun _ _ => u12) (u73 p)
theorem u9 (p : j12 K (a 3) (a 4) (a 5) (a 6) (a 42) (a 43) h) : I c9 (q3 j60 K) a h := ICx.cnd (o := (Go.Operand.tmp 43)) u10 u11 p
theorem j11_ok (j12 : G6) (j60 : G2) : I c74 (q21 j12 j60 K) a h = j11g j12 j60 K (a 3) (a 4) (a 5) (a 6) (a 42) h := by kernel_rfl
theorem u74 (p : j11 K (a 3) (a 4) (a 5) (a 6) (a 42) h) : I c74 (q21 j12 j60 K) a h := ICx.to p (j11_ok j12 j60)
theorem u8 (p : j11 K (a 3) (a 4) (a 5) (a 6) (a 42) h) : I c8 (q3 j60 K) a h := ICx.sq (fun _ _ => u9) (u74 p)
theorem u7 (p : j11 K (a 3) (a 4) (a 5) (a 6) (a 42) h) : I c7 (q2 j60 K) a h := ICx.blk (u8 p)
theorem j10_ok (j11 : G5) (j60 : G2) : I c75 (q22 j11 j60 K) a h = j10g j11 j60 K (a 3) (a 4) (a 5) (a 6) h := by kernel_rfl
theorem u75 (p : j10 K (a 3) (a 4) (a 5) (a 6) h) : I c75 (q22 j11 j60 K) a h := ICx.to p (j10_ok j11 j60)
theorem u6 (p : j10 K (a 3) (a 4) (a 5) (a 6) h) : I c6 (q2 j60 K) a h := ICx.sq (fun _ _ => u7) (u75 p)
theorem u4 (p : j10 K (a 3) (a 4) (a 5) (a 6) h) : I c4 (q1 K) a h := ICx.sq (fun _ _ => u5) (u6 p)
theorem j9_ok (j10 : G4) : I c76 (q23 j10 K) a h = j9g j10 K (a 3) (a 4) (a 5) (a 6) h := by kernel_rfl
theorem u76 (p : j9 K (a 3) (a 4) (a 5) (a 6) h) : I c76 (q23 j10 K) a h := ICx.to p (j9_ok j10)
theorem u3 (p : j9 K (a 3) (a 4) (a 5) (a 6) h) : I c3 (q1 K) a h := ICx.sq (fun _ _ => u4) (u76 p)
theorem j8_ok (j9 : G4) : I c77 (q24 j9 K) a h = j8g j9 K (a 3) (a 4) (a 5) (a 6) h := by kernel_rfl
theorem u77 (p : j8 K (a 3) (a 4) (a 5) (a 6) h) : I c77 (q24 j9 K) a h := ICx.to p (j8_ok j9)
theorem u2 (p : j8 K (a 3) (a 4) (a 5) (a 6) h) : I c2 (q1 K) a h := ICx.sq (fun _ _ => u3) (u77 p)
theorem j3_ok (j8 : G4) : I c81 (q26 j8 K) a h = j3g j8 K (a 6) h := by kernel_rfl
theorem u81 (p : j3 K (a 6) h) : I c81 (q26 j8 K) a h := ICx.to p (j3_ok j8)
theorem j6_ok (j8 : G4) : I c84 (q26 j8 K) a h = j6g j8 K (a 6) h := by kernel_rfl
theorem u84 (p : j6 K (a 6) h) : I c84 (q26 j8 K) a h := ICx.to p (j6_ok j8)
theorem j7_ok (j8 : G4) : I c85 (q26 j8 K) a h = j7g j8 K (a 3) (a 4) (a 5) (a 6) h := by kernel_rfl
theorem u85 (p : j7 K (a 3) (a 4) (a 5) (a 6) h) : I c85 (q26 j8 K) a h := ICx.to p (j7_ok j8)
theorem u83 (p : j5 K (a 3) (a 4) (a 5) (a 6) (a 16) h) : I c83 (q26 j8 K) a h := ICx.cnd (o := (Go.Operand.tmp 16)) u84 u85 p
theorem j4_ok (j5 : G5) (j8 : G4) : I c86 (q27 j5 j8 K) a h = j4g j5 j8 K (a 3) (a 4) (a 5) (a 6) h := by kernel_rfl
theorem u86 (p : j4 K (a 3) (a 4) (a 5) (a 6) h) : I c86 (q27 j5 j8 K) a h := ICx.to p (j4_ok j5 j8)
theorem u82 (p : j4 K (a 3) (a 4) (a 5) (a 6) h) : I c82 (q26 j8 K) a h := ICx.sq (fun _ _ => u83) (u86 p)
theorem u80 (p : j2 K (a 3) (a 4) (a 5) (a 6) (a 8) h) : I c80 (q26 j8 K) a h := ICx.cnd (o := (Go.Operand.tmp 8)) u81 u82 p
theorem j1_ok (j2 : G5) (j8 : G4) : I c87 (q28 j2 j8 K) a h = j1g j2 j8 K (a 3) (a 4) (a 5) (a 6) h := by kernel_rfl
theorem u87 (p : j1 K (a 3) (a 4) (a 5) (a 6) h) : I c87 (q28 j2 j8 K) a h := ICx.to p (j1_ok j2 j8)
theorem u79 (p : j1 K (a 3) (a 4) (a 5) (a 6) h) : I c79 (q26 j8 K) a h := ICx.sq (fun _ _ => u80) (u87 p)
theorem u78 (p : j1 K (a 3) (a 4) (a 5) (a 6) h) : I c78 (q25 j8 K) a h := ICx.blk (u79 p)
theorem u1 (p : j1 K (a 3) (a 4) (a 5) (a 6) h) : I c1 (q1 K) a h := ICx.sq (fun _ _ => u2) (u78 p)
theorem e_ok (j1 : G4) : I c88 (q29 j1 K) a h = eg j1 K (a 0) (a 1) (a 2) h := by kernel_rfl
theorem u88 (p : e K (a 0) (a 1) (a 2) h) : I c88 (q29 j1 K) a h := ICx.to p (e_ok j1)
theorem u0 (p : e K (a 0) (a 1) (a 2) h) : I c0 (q1 K) a h := ICx.sq (fun _ _ => u1) (u88 p)
theorem call {x0 x1 x2 : IV} (p : e K x0 x1 x2 h) : Z5 PP Z30 [x0, x1, x2] h K :=
  ICx.fn Try.mixed Try.func51 rfl (Nat.le_of_ble_eq_true rfl) (u0 (a := actI [x0, x1, x2]) p)
end Zt
namespace Z45
def D : Nat → DI
  | 1 => ⟨[0, 1, 3, 7, 0, 16, 48, 112, 240, 511, 1023], [0, 1, 2, 3, 4, 5, 6, 7, 8, 9, 10], []⟩
  | _ => ⟨[], [], []⟩
abbrev I := ICx PP 13 D
def c0 : Code := bodyN Try.f52
abbrev q1 (K : KT) : QT := finK PP Try.f52.results.toList K
def e (K : KT) (x0 : IV) (h : Heap) : Prop :=
 oV (.bool false) h fun v1 =>
 oV x0 h fun v2 =>
 oP sT (nilI v2 h) h fun v3 =>
 oD (Z2 PP ZX v3 1) h fun v4 =>
 oD (Z1 PP Z0 v4 h) h fun v5 =>
 oV x0 h fun v6 =>
 oP sT (nilI v6 h) h fun v7 =>
 oD (Z2 PP ZX v7 0) h fun v8 =>
 oD (Z1 PP Zk v8 h) h fun v9 =>
 oD (lenI PP Zk v9) h fun v10 =>
 oD (Z7 PP .lss Z0 v5 v10) h fun v11 =>
 oV v11 h fun v12 =>
 Zd PP [.v v12] h K
theorem u0 (p : e K (a 0) h) : I c0 (q1 K) a h := ICx.to p
theorem call {x0 : IV} (p : e K x0 h) : Z5 PP Z3w [x0] h K :=
  ICx.fn Try.mixed Try.func52 rfl (Nat.le_of_ble_eq_true rfl) (u0 (a := actI [x0]) p)
end Z45
namespace Zx
def D : Nat → DI
  | 1 => ⟨[0, 1, 0, 4, 15, 31], [0, 1, 2, 3, 4, 5], []⟩
  | 19 => ⟨[0, 1, 3, 0, 8, 31, 63], [0, 1, 2, 3, 4, 5, 6], []⟩
  | 23 => ⟨[0, 1, 3, 0, 8, 31, 63], [0, 1, 2, 3, 4, 5, 6], []⟩
  | _ => ⟨[], [], []⟩
abbrev I := ICx PP 126 D
def c0 : Code := bodyN Try.f53
def c1 : Code := cR c0
def c2 : Code := cR c1
def c3 : Code := cR c2
def c4 : Code := cR c3
def c5 : Code := cR c4
def c6 : Code := cR c5
def c7 : Code := cR c6
def c8 : Code := cR c7
def c9 : Code := cR c8
def c10 : Code := cR c9
def c11 : Code := cL c9
def c12 : Code := cR c11
def c13 : Code := cL c12
def c14 : Code := cR c13
def c15 : Code := cL c14
def c16 : Code := cR c14
def c17 : Code := cR c16
def c18 : Code := cL c17
def c19 : Code := cR c17
def c20 : Code := cR c19
def c21 : Code := cL c20
def c22 : Code := cR c20
def c23 : Code := cR c22
def c24 : Code := cL c23
def c25 : Code := cR c23
def c26 : Code := cR c25
def c27 : Code := cL c26
def c28 : Code := cR c26
def c29 : Code := cR c28
def c30 : Code := cL c29
def c31 : Code := cR c29
def c32 : Code := cL c28
def c33 : Code := cL c25
def c34 : Code := cL c22
def c35 : Code := cL c19
def c36 : Code := cL c16
def c37 : Code := cL c13
def c38 : Code := cL c11
def c39 : Code := cL c8
def c40 : Code := cL c7
def c41 : Code := cL c6
def c42 : Code := cR c41
def c43 : Code := cL c42
def c44 : Code := cR c42
def c45 : Code := cL c41
def c46 : Code := cL c5
def c47 : Code := cL c4
def c48 : Code := cL c3
def c49 : Code := cL c2
def c50 : Code := cL c1
def c51 : Code := cL c0
abbrev q1 (K : KT) : QT := finK PP Try.f53.results.toList K
def j32 (K : KT) (x6 x11 : IV) (h : Heap) : Prop :=
 oD (Z1 PP Z8 x11 h) h fun v1 =>
 oS (Z9 PP Z8 x6 v1 h) h fun h1 =>
 Zd PP [.c x6 Z8] h1 K
abbrev q2 (j32 : G2) (K : KT) : QT := Z4 (fun a h => j32 K (a 6) (a 11) h) (q1 K)
abbrev q3 (j32 : G2) (K : KT) : QT := Zq 0 (q2 j32 K)
def j15g (j32 : G2) (K : KT) (x6 x9 x11 : IV) (h : Heap) : Prop :=
 oD (Z2 PP Za x9 6) h fun v1 =>
 oD (Z1 PP Z0 v1 h) h fun v2 =>
 oD (mmI true (.int .i64 1) [v2]) h fun v3 =>
 oD (Z2 PP Z8 x11 0) h fun v4 =>
 oS (Z9 PP Z0 v4 (.int .i64 3) h) h fun h1 => oB ((Zb (Z1 PP Z0 v1 h1) v2 h1) ∧ True) <|
 oD (Z2 PP Z8 x11 5) h1 fun v5 =>
 oS (Z9 PP Z0 v5 v3 h1) h1 fun h2 => oB (True) <|
 j32 K x6 x11 h2
abbrev j15 : G3 := j15g j32
def j18g (j32 : G2) (K : KT) (x0 x4 x6 x8 x9 x11 : IV) (h : Heap) : Prop :=
 oV x0 h fun v1 =>
 oD (Z1 PP Z6 x4 h) h fun v2 =>
 oV x8 h fun v3 =>
 oD (Z2 PP Za x9 2) h fun v4 =>
 oD (Z1 PP Z0 v4 h) h fun v5 =>
 Z5 PP Z33 [v2, v3, v5] h fun v6 h1 =>
 Z5 PP Z2h [v1, v6] h1 fun v7 h2 =>
 oD (Z2 PP Z8 x11 0) h2 fun v8 =>
 oS (Z9 PP Z0 v8 (.int .i64 4) h2) h2 fun h3 =>
 oD (Z2 PP Z8 x11 3) h3 fun v9 =>
 oS (Z9 PP Z0 v9 v7 h3) h3 fun h4 =>
 j32 K x6 x11 h4
abbrev j18 : G6 := j18g j32
def j21g (j32 : G2) (K : KT) (x6 x9 x11 : IV) (h : Heap) : Prop :=
 oD (Z2 PP Za x9 4) h fun v1 =>
 oD (Z1 PP Z0 v1 h) h fun v2 =>
 oD (mmI true (.int .i64 0) [v2]) h fun v3 =>
 oD (Z2 PP Z8 x11 0) h fun v4 =>
 oS (Z9 PP Z0 v4 (.int .i64 5) h) h fun h1 => oB ((Zb (Z1 PP Z0 v1 h1) v2 h1) ∧ True) <|
 oD (Z2 PP Z8 x11 3) h1 fun v5 =>
 oS (Z9 PP Z0 v5 v3 h1) h1 fun h2 => oB (True) <|
 j32 K x6 x11 h2
abbrev j21 : G3 := j21g j32
def j24g (j32 : G2) (K : KT) (x0 x4 x6 x8 x11 : IV) (h : Heap) : Prop :=
 oV x0 h fun v1 =>
 oD (Z1 PP Z6 x4 h) h fun v2 =>
 oV x8 h fun v3 =>
 Z5 PP Z32 [v2, v3] h fun v4 h1 =>
 Z5 PP Z2h [v1, v4] h1 fun v5 h2 =>
 oD (mmI true (.int .i64 0) [v5]) h2 fun v6 =>
 oD (Z2 PP Z8 x11 0) h2 fun v7 =>
 oS (Z9 PP Z0 v7 (.int .i64 6) h2) h2 fun h3 =>
 oD (Z2 PP Z8 x11 3) h3 fun v8 =>
 oS (Z9 PP Z0 v8 v6 h3) h3 fun h4 =>
 j32 K x6 x11 h4
abbrev j24 : G5 := j24g j32
def j27g (j32 : G2) (K : KT) (x6 x11 : IV) (h : Heap) : Prop :=
 oD (Z2 PP Z8 x11 0) h fun v1 =>
 oS (Z9 PP Z0 v1 (.int .i64 7) h) h fun h1 =>
 j32 K x6 x11 h1
abbrev j27 : G2 := j27g j32
def j30g (j32 : G2) (K : KT) (x6 x9 x11 : IV) (h : Heap) : Prop :=
 oD (Z2 PP Z8 x11 0) h fun v1 =>
 oS (Z9 PP Z0 v1 (.int .i64 8) h) h fun h1 =>
 oD (Z2 PP Z8 x11 8) h1 fun v2 =>
 oS (Z9 PP Z0 v2 (.int .i64 1) h1) h1 fun h2 =>
 oD (Z2 PP Za x9 1) h2 fun v3 =>
 oD (Z1 PP Zy v3 h2) h2 fun v4 =>
 bK' v4
   (oD (Z2 PP Z8 x11 8) h2 fun v5 =>
   oS (Z9 PP Z0 v5 (.int .i64 0) h2) h2 fun h3 =>
   j32 K x6 x11 h3)
   (j32 K x6 x11 h2)
abbrev j30 : G3 := j30g j32
def j31g (j32 : G2) (K : KT) (x0 x4 x5 x6 x11 : IV) (h : Heap) : Prop :=
 oV x0 h fun v1 =>
 oD (Z1 PP Z6 x4 h) h fun v2 =>
 oD (Z1 PP Z3 x5 h) h fun v3 =>
 oD (Z1 PP Z8 x11 h) h fun v4 =>
 Z5 PP Z3O [v1, v2, v3, v4] h fun v5 h1 =>
 oS (Z9 PP Z8 x6 v5 h1) h1 fun h2 =>
 Zd PP [.c x6 Z8] h2 K
abbrev j31 : G5 := j31g j32
def j29 (K : KT) (x0 x4 x5 x6 x9 x11 x118 : IV) (h : Heap) : Prop := bK' x118 (j30 K x6 x9 x11 h) (j31 K x0 x4 x5 x6 x11 h)
abbrev q4 (j29 : G7) (j32 : G2) (K : KT) : QT := Z4 (fun a h => j29 K (a 0) (a 4) (a 5) (a 6) (a 9) (a 11) (a 118) h) (q3 j32 K)
def j28g (j29 : G7) (j32 : G2) (K : KT) (x0 x4 x5 x6 x9 x11 x74 : IV) (h : Heap) : Prop :=
 oD (Z7 PP .eql Z0 x74 (.int .i64 5)) h fun v1 =>
 oV v1 h fun v2 =>
 j29 K x0 x4 x5 x6 x9 x11 v2 h
abbrev j28 : G7 := j28g j29 j32
def j26 (K : KT) (x0 x4 x5 x6 x9 x11 x74 x115 : IV) (h : Heap) : Prop := bK' x115 (j27 K x6 x11 h) (j28 K x0 x4 x5 x6 x9 x11 x74 h)
abbrev q5 (j26 : G8) (j32 : G2) (K : KT) : QT := Z4 (fun a h => j26 K (a 0) (a 4) (a 5) (a 6) (a 9) (a 11) (a 74) (a 115) h) (q3 j32 K)
def j25g (j26 : G8) (j32 : G2) (K : KT) (x0 x4 x5 x6 x9 x11 x74 : IV) (h : Heap) : Prop :=
 oD (Z7 PP .eql Z0 x74 (.int .i64 4)) h fun v1 =>
 oV v1 h fun v2 =>
 j26 K x0 x4 x5 x6 x9 x11 x74 v2 h
abbrev j25 : G7 := j25g j26 j32
def j23 (K : KT) (x0 x4 x5 x6 x8 x9 x11 x74 x105 : IV) (h : Heap) : Prop := bK' x105 (j24 K x0 x4 x6 x8 x11 h) (j25 K x0 x4 x5 x6 x9 x11 x74 h)
abbrev q6 (j23 : G9) (j32 : G2) (K : KT) : QT := Z4 (fun a h => j23 K (a 0) (a 4) (a 5) (a 6) (a 8) (a 9) (a 11) (a 74) (a 105) h) (q3 j32 K)
def j22g (j23 : G9) (j32 : G2) (K : KT) (x0 x4 x5 x6 x8 x9 x11 x74 : IV) (h : Heap) : Prop :=
 oD (Z7 PP .eql Z0 x74 (.int .i64 3)) h fun v1 =>
 oV v1 h fun v2 =>
 j23 K x0 x4 x5 x6 x8 x9 x11 x74 v2 h
abbrev j22 : G8 := j22g j23 j32
def j20 (K : KT) (x0 x4 x5 x6 x8 x9 x11 x74 x98 : IV) (h : Heap) : Prop := bK' x98 (j21 K x6 x9 x11 h) (j22 K x0 x4 x5 x6 x8 x9 x11 x74 h)
abbrev q7 (j20 : G9) (j32 : G2) (K : KT) : QT := Z4 (fun a h => j20 K (a 0) (a 4) (a 5) (a 6) (a 8) (a 9) (a 11) (a 74) (a 98) h) (q3 j32 K)
def j19g (j20 : G9) (j32 : G2) (K : KT) (x0 x4 x5 x6 x8 x9 x11 x74 : IV) (h : Heap) : Prop :=
 oD (Z7 PP .eql Z0 x74 (.int .i64 2)) h fun v1 =>
 oV v1 h fun v2 =>
 j20 K x0 x4 x5 x6 x8 x9 x11 x74 v2 h
abbrev j19 : G8 := j19g j20 j32
def j17 (K : KT) (x0 x4 x5 x6 x8 x9 x11 x74 x87 : IV) (h : Heap) : Prop := bK' x87 (j18 K x0 x4 x6 x8 x9 x11 h) (j19 K x0 x4 x5 x6 x8 x9 x11 x74 h)
abbrev q8 (j17 : G9) (j32 : G2) (K : KT) : QT := Z4 (fun a h => j17 K (a 0) (a 4) (a 5) (a 6) (a 8) (a 9) (a 11) (a 74) (a 87) h) (q3 j32 K)
def j16g (j17 : G9) (j32 : G2) (K : KT) (x0 x4 x5 x6 x8 x9 x11 x74 : IV) (h : Heap) : Prop :=
 oD (Z7 PP .eql Z0 x74 (.int .i64 1)) h fun v1 =>
 oV v1 h fun v2 =>
 j17 K x0 x4 x5 x6 x8 x9 x11 x74 v2 h
abbrev j16 : G8 := j16g j17 j32
def j14 (K : KT) (x0 x4 x5 x6 x8 x9 x11 x74 x80 : IV) (h : Heap) : Prop := bK' x80 (j15 K x6 x9 x11 h) (j16 K x0 x4 x5 x6 x8 x9 x11 x74 h)
abbrev q9 (j14 : G9) (j32 : G2) (K : KT) : QT := Z4 (fun a h => j14 K (a 0) (a 4) (a 5) (a 6) (a 8) (a 9) (a 11) (a 74) (a 80) h) (q3 j32 K)
def j13g (j14 : G9) (j32 : G2) (K : KT) (x0 x4 x5 x6 x8 x9 x11 x74 : IV) (h : Heap) : Prop :=
 oD (Z7 PP .eql Z0 x74 (.int .i64 0)) h fun v1 =>
 oV v1 h fun v2 =>
 j14 K x0 x4 x5 x6 x8 x9 x11 x74 v2 h
abbrev j13 : G8 := j13g j14 j32
abbrev q10 (j13 : G8) (j32 : G2) (K : KT) : QT := Z4 (fun a h => j13 K (a 0) (a 4) (a 5) (a 6) (a 8) (a 9) (a 11) (a 74) h) (q2 j32 K)
def j12g (j13 : G8) (j32 : G2) (K : KT) (x0 x4 x5 x6 x8 x9 x11 : IV) (h : Heap) : Prop :=
 oV x0 h fun v1 =>
 Z5 PP ZL [v1, .int .i64 12] h fun v2 h1 =>
 j13 K x0 x4 x5 x6 x8 x9 x11 v2 h1
abbrev j12 : G7 := j12g j13 j32
abbrev q11 (j12 : G7) (K : KT) : QT := Z4 (fun a h => j12 K (a 0) (a 4) (a 5) (a 6) (a 8) (a 9) (a 11) h) (q1 K)
def j11g (j12 : G7) (K : KT) (x0 x4 x5 x6 x8 x9 x11 : IV) (h : Heap) : Prop :=
 oV x8 h fun v1 =>
 oD (Z2 PP Z8 x11 2) h fun v2 =>
 oS (Z9 PP Z0 v2 v1 h) h fun h1 =>
 j12 K x0 x4 x5 x6 x8 x9 x11 h1
abbrev j11 : G7 := j11g j12
abbrev q12 (j11 : G7) (K : KT) : QT := Z4 (fun a h => j11 K (a 0) (a 4) (a 5) (a 6) (a 8) (a 9) (a 11) h) (q1 K)
def j10g (j11 : G7) (K : KT) (x0 x4 x5 x6 x7 x8 x9 : IV) (h : Heap) : Prop :=
 oV x7 h fun v1 =>
 Z5 PP Z2z [.int .i64 2, v1] h fun v2 h1 =>
 oA (Zp PP Z8 h1) h1 fun v3 h2 =>
 oS (Z9 PP Z8 v3 v2 h2) h2 fun h3 =>
 j11 K x0 x4 x5 x6 x8 x9 v3 h3
abbrev j10 : G7 := j10g j11
abbrev q13 (j10 : G7) (K : KT) : QT := Z4 (fun a h => j10 K (a 0) (a 4) (a 5) (a 6) (a 7) (a 8) (a 9) h) (q1 K)
def j8g (j10 : G7) (K : KT) (x0 x4 x6 x7 x8 : IV) (h : Heap) : Prop :=
 oV x7 h fun v1 =>
 Z5 PP Z2z [.int .i64 1, v1] h fun v2 h1 =>
 oA (Zp PP Z8 h1) h1 fun v3 h2 =>
 oS (Z9 PP Z8 v3 v2 h2) h2 fun h3 =>
 oV x8 h3 fun v4 =>
 oD (Z2 PP Z8 v3 2) h3 fun v5 =>
 oS (Z9 PP Z0 v5 v4 h3) h3 fun h4 =>
 oV x0 h4 fun v6 =>
 oD (Z1 PP Z6 x4 h4) h4 fun v7 =>
 oV x8 h4 fun v8 =>
 Z5 PP Z32 [v7, v8] h4 fun v9 h5 =>
 Z5 PP Z2h [v6, v9] h5 fun v10 h6 =>
 oD (mmI true (.int .i64 0) [v10]) h6 fun v11 =>
 oD (Z2 PP Z8 v3 3) h6 fun v12 =>
 oS (Z9 PP Z0 v12 v11 h6) h6 fun h7 =>
 oV x0 h7 fun v13 =>
 oD (Z1 PP Z6 x4 h7) h7 fun v14 =>
 oV x8 h7 fun v15 =>
 oD (Z2 PP Z8 v3 3) h7 fun v16 =>
 oD (Z1 PP Z0 v16 h7) h7 fun v17 =>
 Z5 PP Z33 [v14, v15, v17] h7 fun v18 h8 =>
 Z5 PP Z2h [v13, v18] h8 fun v19 h9 =>
 oD (Z2 PP Z8 v3 4) h9 fun v20 =>
 oS (Z9 PP Z0 v20 v19 h9) h9 fun h10 =>
 oD (Z1 PP Z8 v3 h10) h10 fun v21 =>
 oS (Z9 PP Z8 x6 v21 h10) h10 fun h11 =>
 Zd PP [.c x6 Z8] h11 K
abbrev j8 : G5 := j8g j10
def j9g (j10 : G7) (K : KT) (x0 x4 x5 x6 x7 x8 x9 : IV) (h : Heap) : Prop :=
 j10 K x0 x4 x5 x6 x7 x8 x9 h
abbrev j9 : G7 := j9g j10
def j7 (K : KT) (x0 x4 x5 x6 x7 x8 x9 x48 : IV) (h : Heap) : Prop := bK' x48 (j8 K x0 x4 x6 x7 x8 h) (j9 K x0 x4 x5 x6 x7 x8 x9 h)
abbrev q14 (j7 : G8) (j10 : G7) (K : KT) : QT := Z4 (fun a h => j7 K (a 0) (a 4) (a 5) (a 6) (a 7) (a 8) (a 9) (a 48) h) (q13 j10 K)
def j6g (j7 : G8) (j10 : G7) (K : KT) (x0 x4 x5 x6 x7 x8 x9 : IV) (h : Heap) : Prop :=
 oD (Z2 PP Za x9 0) h fun v1 =>
 oD (Z1 PP Zy v1 h) h fun v2 =>
 oD (unI .not v2) h fun v3 =>
 j7 K x0 x4 x5 x6 x7 x8 x9 v3 h
abbrev j6 : G7 := j6g j7 j10
abbrev q15 (j6 : G7) (K : KT) : QT := Z4 (fun a h => j6 K (a 0) (a 4) (a 5) (a 6) (a 7) (a 8) (a 9) h) (q1 K)
def j5g (j6 : G7) (K : KT) (x0 x4 x5 x6 x7 x8 : IV) (h : Heap) : Prop :=
 oD (Z2 PP Z3 x5 2) h fun v1 =>
 oD (Z1 PP Zh v1 h) h fun v2 =>
 oV x8 h fun v3 =>
 oD (Zf PP Zh v2 v3 h) h fun v4 =>
 oD (Z1 PP Za v4 h) h fun v5 =>
 oA (Zp PP Za h) h fun v6 h1 =>
 oS (Z9 PP Za v6 v5 h1) h1 fun h2 =>
 j6 K x0 x4 x5 x6 x7 x8 v6 h2
abbrev j5 : G6 := j5g j6
abbrev q16 (j5 : G6) (K : KT) : QT := Z4 (fun a h => j5 K (a 0) (a 4) (a 5) (a 6) (a 7) (a 8) h) (q1 K)
def j4g (j5 : G6) (K : KT) (x0 x4 x5 x6 x7 : IV) (h : Heap) : Prop :=
 oV x0 h fun v1 =>
 oD (Z2 PP Z6 x4 3) h fun v2 =>
 oD (Z1 PP Zw v2 h) h fun v3 =>
 oD (lenI PP Zw v3) h fun v4 =>
 Z5 PP ZL [v1, v4] h fun v5 h1 =>
 oV v5 h1 fun v6 =>
 j5 K x0 x4 x5 x6 x7 v6 h1
abbrev j4 : G5 := j4g j5
abbrev q17 (j4 : G5) (K : KT) : QT := Z4 (fun a h => j4 K (a 0) (a 4) (a 5) (a 6) (a 7) h) (q1 K)
def j3g (j4 : G5) (K : KT) (x0 x4 x5 x6 x7 : IV) (h : Heap) : Prop :=
 oD (Z2 PP Z6 x4 3) h fun v1 =>
 oD (Z1 PP Zw v1 h) h fun v2 =>
 oD (lenI PP Zw v2) h fun v3 =>
 oD (Z7 PP .eql Z0 v3 (.int .i64 0)) h fun v4 =>
 oV v4 h fun v5 =>
 oG (gW v5 false) (some x0) h fun v6 =>
 Zm PP (gW v5 false) Z1m [v6, .int .i64 4] h fun v7 h1 =>
 oP sT (Ze v5 (.bool true) v7 h1) h1 fun v8 =>
 bK' v8
   (oV x0 h1 fun v9 =>
   oD (Z1 PP Z6 x4 h1) h1 fun v10 =>
   oD (Z1 PP Z3 x5 h1) h1 fun v11 =>
   oV x7 h1 fun v12 =>
   Z5 PP Z31 [v9, v10, v11, v12] h1 fun v13 h2 =>
   oS (Z9 PP Z8 x6 v13 h2) h2 fun h3 =>
   Zd PP [.c x6 Z8] h3 K)
   (j4 K x0 x4 x5 x6 x7 h1)
abbrev j3 : G5 := j3g j4
abbrev q18 (j3 : G5) (K : KT) : QT := Z4 (fun a h => j3 K (a 0) (a 4) (a 5) (a 6) (a 7) h) (q1 K)
def j2g (j3 : G5) (K : KT) (x0 x4 x5 x6 x7 : IV) (h : Heap) : Prop :=
 oV x0 h fun v1 =>
 Z5 PP Z1m [v1, .int .i64 20] h fun v2 h1 =>
 bK' v2
   (oD (Z2 PP Z3 x5 0) h1 fun v3 =>
   oD (Z1 PP Z0 v3 h1) h1 fun v4 =>
   oD (Z7 PP .sub Z0 v4 (.int .i64 1)) h1 fun v5 =>
   oD (mmI true (.int .i64 0) [v5]) h1 fun v6 =>
   oV v6 h1 fun v7 =>
   j3 K x0 x4 x5 x6 v7 h1)
   (j3 K x0 x4 x5 x6 x7 h1)
abbrev j2 : G5 := j2g j3
abbrev q19 (j2 : G5) (K : KT) : QT := Z4 (fun a h => j2 K (a 0) (a 4) (a 5) (a 6) (a 7) h) (q1 K)
def j1g (j2 : G5) (K : KT) (x0 x4 x5 x6 : IV) (h : Heap) : Prop :=
 oD (Z2 PP Z3 x5 0) h fun v1 =>
 oD (Z1 PP Z0 v1 h) h fun v2 =>
 oV x0 h fun v3 =>
 Z5 PP ZL [v3, .int .i64 4] h fun v4 h1 => oB ((Zb (Z1 PP Z0 v1 h1) v2 h1) ∧ True) <|
 oD (Z7 PP .add Z0 v2 v4) h1 fun v5 =>
 oV v5 h1 fun v6 =>
 j2 K x0 x4 x5 x6 v6 h1
abbrev j1 : G4 := j1g j2
abbrev q20 (j1 : G4) (K : KT) : QT := Z4 (fun a h => j1 K (a 0) (a 4) (a 5) (a 6) h) (q1 K)
def eg (j1 : G4) (K : KT) (x0 x1 x2 : IV) (h : Heap) : Prop :=
 oA (Zi Z6 x1 h) h fun v1 h1 =>
 oA (Zi Z3 x2 h1) h1 fun v2 h2 =>
 oA (Zp PP Z8 h2) h2 fun v3 h3 =>
 j1 K x0 v1 v2 v3 h3
abbrev e : G3 := eg j1
theorem u10 (p : j32 K (a 6) (a 11) h) : I c10 (q1 K) a h := ICx.to p
theorem j15_ok (j32 : G2) : I c15 (q3 j32 K) a h = j15g j32 K (a 6) (a 9) (a 11) h := by kernel_rfl
theorem u15 (p : j15 K (a 6) (a 9) (a 11) h) : I c15 (q3 j32 K) a h := ICx.to p (j15_ok j32)
theorem j18_ok (j32 : G2) : I c18 (q3 j32 K) a h = j18g j32 K (a 0) (a 4) (a 6) (a 8) (a 9) (a 11) h := by kernel_rfl
theorem u18 (p : j18 K (a 0) (a 4) (a 6) (a 8) (a 9) (a 11) h) : I c18 (q3 j32 K) a h := ICx.to p (j18_ok j32)
theorem j21_ok (j32 : G2) : I c21 (q3 j32 K) a h = j21g j32 K (a 6) (a 9) (a 11) h := by kernel_rfl
theorem u21 (p : j21 K (a 6) (a 9) (a 11) h) : I c21 (q3 j32 K) a h := ICx.to p (j21_ok j32)
theorem j24_ok (j32 : G2) : I c24 (q3 j32 K) a h = j24g j32 K (a 0) (a 4) (a 6) (a 8) (a 11) h := by kernel_rfl
theorem u24 (p : j24 K (a 0) (a 4) (a 6) (a 8) (a 11) h) : I c24 (q3 j32 K) a h := ICx.to p (j24_ok j32)
theorem j27_ok (j32 : G2) : I c27 (q3 j32 K) a h = j27g j32 K (a 6) (a 11) h := by kernel_rfl
theorem u27 (p : j27 K (a 6) (a 11) h) : I c27 (q3 j32 K) a h := ICx.to p (j27_ok j32)
theorem j30_ok (j32 : G2) : I c30 (q3 j32 K) a h = j30g j32 K (a 6) (a 9) (a 11) h := by kernel_rfl
theorem u30 (p : j30 K (a 6) (a 9) (a 11) h) : I c30 (q3 j32 K) a h := ICx.to p (j30_ok j32)
theorem j31_ok (j32 : G2) : I c31 (q3 j32 K) a h = j31g j32 K (a 0) (a 4) (a 5) (a 6) (a 11) h := by kernel_rfl
theorem u31 (p : j31 K (a 0) (a 4) (a 5) (a 6) (a 11) h) : I c31 (q3 j32 K) a h := ICx.to p (j31_ok j32)
theorem u29 (p : j29 K (a 0) (a 4) (a 5) (a 6) (a 9) (a 11) (a 118) h) : I c29 (q3 j32 K) a h := ICx.cnd (o := (Go.Operand.tmp 118)) u30 u31 p
theorem j28_ok (j29 : G7) (j32 : G2) : I c32 (q4 j29 j32 K) a h = j28g j29 j32 K (a 0) (a 4) (a 5) (a 6) (a 9) (a 11) (a 74) h := by kernel_rfl
theorem u32 (p : j28 K (a 0) (a 4) (a 5) (a 6) (a 9) (a 11) (a 74) h) : I c32 (q4 j29 j32 K) a h := ICx.to p (j28_ok j29 j32)
theorem u28 (p : j28 K (a 0) (a 4) (a 5) (a 6) (a 9) (a 11) (a 74) h) : I c28 (q3 j32 K) a h := ICx.sq (fun _ _ => u29) (u32 p)
theorem u26 (p : j26 K (a 0) (a 4) (a 5) (a 6) (a 9) (a 11) (a 74) (a 115) h) : I c26 (q3 j32 K) a h := ICx.cnd (o := (Go.Operand.tmp 115)) u27 u28 p
theorem j25_ok (j26 : G8) (j32 : G2) : I c33 (q5 j26 j32 K) a h = j25g j26 j32 K (a 0) (a 4) (a 5) (a 6) (a 9) (a 11) (a 74) h := by kernel_rfl
theorem u33 (p : j25 K (a 0) (a 4) (a 5) (a 6) (a 9) (a 11) (a 74) h) : I c33 (q5 j26 j32 K) a h := ICx.to p (j25_ok j26 j32)
theorem u25 (p : j25 K (a 0) (a 4) (a 5) (a 6) (a 9) (a 11) (a 74) h) : I c25 (q3 j32 K) a h := ICx.sq (fun _ _ => u26) (u33 p)
theorem u23 (p : j23 K (a 0) (a 4) (a 5) (a 6) (a 8) (a 9) (a 11) (a 74) (a 105) h) : I c23 (q3 j32 K) a h := ICx.cnd (o := (Go.Operand.tmp 105)) u24 u25 p
theorem j22_ok (j23 : G9) (j32 : G2) : I c34 (q6 j23 j32 K) a h = j22g j23 j32 K (a 0) (a 4) (a 5) (a 6) (a 8) (a 9) (a 11) (a 74) h := by kernel_rfl
theorem u34 (p : j22 K (a 0) (a 4) (a 5) (a 6) (a 8) (a 9) (a 11) (a 74) h) : I c34 (q6 j23 j32 K) a h := ICx.to p (j22_ok j23 j32)
theorem u22 (p : j22 K (a 0) (a 4) (a 5) (a 6) (a 8) (a 9) (a 11) (a 74) h) : I c22 (q3 j32 K) a h := ICx.sq (fun _ _ => u23) (u34 p)
theorem u20 (p : j20 K (a 0) (a 4) (a 5) (a 6) (a 8) (a 9) (a 11) (a 74) (a 98) h) : I c20 (q3 j32 K) a h := ICx.cnd (o := (Go.Operand.tmp 98)) u21 u22 p
theorem j19_ok (j20 : G9) (j32 : G2) : I c35 (q7 j20 j32 K) a h = j19g j20 j32 K (a 0) (a 4) (a 5) (a 6) (a 8) (a 9) (a 11) (a 74) h := by kernel_rfl
theorem u35 (p : j19 K (a 0) (a 4) (a 5) (a 6) (a 8) (a 9) (a 11) (a 74) h) : I c35 (q7 j20 j32 K) a h := ICx.to p (j19_ok j20 j32)
theorem u19 (p : j19 K (a 0) (a 4) (a 5) (a 6) (a 8) (a 9) (a 11) (a 74) h) : I c19 (q3 j32 K) a h := ICx.sq (fun _ _ => u20) (u35 p)
theorem u17 (p : j17 K (a 0) (a 4) (a 5) (a 6) (a 8) (a 9) (a 11) (a 74) (a 87) h) : I c17 (q3 j32 K) a h := ICx.cnd (o := (Go.Operand.tmp 87)) u18 u19 p
theorem j16_ok (j17 : G9) (j32 : G2) : I c36 (q8 j17 j32 K) a h = j16g j17 j32 K (a 0) (a 4) (a 5) (a 6) (a 8) (a 9) (a 11) (a 74) h := by kernel_rfl
theorem u36 (p : j16 K (a 0) (a 4) (a 5) (a 6) (a 8) (a 9) (a 11) (a 74) h) : I c36 (q8 j17 j32 K) a h := ICx.to p (j16_ok j17 j32)
theorem u16 (p : j16 K (a 0) (a 4) (a 5) (a 6) (a 8) (a 9) (a 11) (a 74) h) : I c16 (q3 j32 K) a h := ICx.sq (fun _ _ => u17) (u36 p)
theorem u14 (p : j14 K (a 0) (a 4) (a 5) (a 6) (a 8) (a 9) (a 11) (a 74) (a 80) h) : I c14 (q3 j32 K) a h := ICx.cnd (o := (Go.Operand.tmp 80)) u15 u16 p
theorem j13_ok (j14 : G9) (j32 : G2) : I c37 (q9 j14 j32 K) a h = j13g j14 j32 K (a 0) (a 4) (a 5) (a 6) (a 8) (a 9) (a 11) (a 74) h := by kernel_rfl
theorem u37 (p : j13 K (a 0) (a 4) (a 5) (a 6) (a 8) (a 9) (a 11) (a 74) h) : I c37 (q9 j14 j32 K) a h := ICx.to p (j13_ok j14 j32)
theorem u13 (p : j13 K (a 0) (a 4) (a 5) (a 6) (a 8) (a 9) (a 11) (a 74) h) : I c13 (q3 j32 K) a h := ICx.sq (fun _ _ => u14) (u37 p)
theorem u12 (p : j13 K (a 0) (a 4) (a 5) (a 6) (a 8) (a 9) (a 11) (a 74) h) : I c12 (q2 j32 K) a h := ICx.blk (u13 p)
theorem j12_ok (j13 : G8) (j32 : G2) : I c38 (q10 j13 j32 K) a h = j12g j13 j32 K (a 0) (a 4) (a 5) (a 6) (a 8) (a 9) (a 11) h := by kernel_rfl
theorem u38 (p : j12 K (a 0) (a 4) (a 5) (a 6) (a 8) (a 9) (a 11) h) : I c38 (q10 j13 j32 K) a h := ICx.to p (j12_ok j13 j32)
theorem u11 (p : j12 K (a 0) (a 4) (a 5) (a 6) (a 8) (a 9) (a 11) h) : I c11 (q2 j32 K) a h := ICx.sq (fun _ _ => u12) (u38 p)
theorem u9 (p : j12 K (a 0) (a 4) (a 5) (a 6) (a 8) (a 9) (a 11) h) : I c9 (q1 K) a h := ICx.sq (fun _ _ => u10) (u11 p)
theorem j11_ok (j12 : G7) : I c39 (q11 j12 K) a h = j11g j12 K (a 0) (a 4) (a 5) (a 6) (a 8) (a 9) (a 11) h := by kernel_rfl
theorem u39 (p : j11 K (a 0) (a 4) (a 5) (a 6) (a 8) (a 9) (a 11) h) : I c39 (q11 j12 K) a h := ICx.to p (j11_ok j12)
theorem u8 (p : j11 K (a 0) (a 4) (a 5) (a 6) (a 8) (a 9) (a 11) h) : I c8 (q1 K) a h := ICx.sq (fun _ _ => u9) (u39 p)
theorem j10_ok (j11 : G7) : I c40 (q12 j11 K) a h = j10g j11 K (a 0) (a 4) (a 5) (a 6) (a 7) (a 8) (a 9) h := by kernel_rfl
theorem u40 (p : j10 K (a 0) (a 4) (a 5) (a 6) (a 7) (a 8) (a 9) h) : I c40 (q12 j11 K) a h := ICx.to p (j10_ok j11)
theorem u7 (p : j10 K (a 0) (a 4) (a 5) (a 6) (a 7) (a 8) (a 9) h) : I c7 (q1 K) a h := ICx.sq (fun _ _ => u8) (u40 p)
theorem j8_ok (j10 : G7) : I c43 (q13 j10 K) a h = j8g j10 K (a 0) (a 4) (a 6) (a 7) (a 8) h := by kernel_rfl
theorem u43 (p : j8 K (a 0) (a 4) (a 6) (a 7) (a 8) h) : I c43 (q13 j10 K) a h := ICx.to p (j8_ok j10)
theorem j9_ok (j10 : G7) : I c44 (q13 j10 K) a h = j9g j10 K (a 0) (a 4) (a 5) (a 6) (a 7) (a 8) (a 9) h := by kernel_rfl
theorem u44 (p : j9 K (a 0) (a 4) (a 5) (a 6) (a 7) (a 8) (a 9) h) : I c44 (q13 j10 K) a h := ICx.to p (j9_ok j10)
theorem u42 (p : j7 K (a 0) (a 4) (a 5) (a 6) (a 7) (a 8) (a 9) (a 48) h) : I c42 (q13 j10 K) a h := ICx.cnd (o := (Go.Operand.tmp 48)) u43 u44 p
theorem j6_ok (j7 : G8) (j10 : G7) : I c45 (q14 j7 j10 K) a h = j6g j7 j10 K (a 0) (a 4) (a 5) (a 6) (a 7) (a 8) (a 9) h := by kernel_rfl
theorem u45 (p : j6 K (a 0) (a 4) (a 5) (a 6) (a 7) (a 8) (a 9) h) : I c45 (q14 j7 j10 K) a h := ICx.to p (j6_ok j7 j10)
theorem u41 (p : j6 K (a 0) (a 4) (a 5) (a 6) (a 7) (a 8) (a 9) h) : I c41 (q13 j10 K) a h := ICx.sq (fun _ _ => u42) (u45 p)
theorem u6 (p : j6 K (a 0) (a 4) (a 5) (a 6) (a 7) (a 8) (a 9) h) : I c6 (q1 K) a h := ICx.sq (fun _ _ => u7) (u41 p)
theorem j5_ok (j6 : G7) : I c46 (q15 j6 K) a h = j5g j6 K (a 0) (a 4) (a 5) (a 6) (a 7) (a 8) h := by kernel_rfl
theorem u46 (p : j5 K (a 0) (a 4) (a 5) (a 6) (a 7) (a 8) h) : I c46 (q15 j6 K) a h := ICx.to p (j5_ok j6)
theorem u5 (p : j5 K (a 0) (a 4) (a 5) (a 6) (a 7) (a 8) h) : I c5 (q1 K) a h := ICx.sq (fun _ _ => u6) (u46 p)
theorem j4_ok (j5 : G6) : I c47 (q16 j5 K) a h = j4g j5 K (a 0) (a 4) (a 5) (a 6) (a 7) h := by kernel_rfl
theorem u47 (p : j4 K (a 0) (a 4) (a 5) (a 6) (a 7) h) : I c47 (q16 j5 K) a h := ICx.to p (j4_ok j5)
theorem u4 (p : j4 K (a 0) (a 4) (a 5) (a 6) (a 7) h) : I c4 (q1 K) a h := ICx.sq (fun _ _ => u5) (u47 p)
theorem j3_ok (j4 : G5) : I c48 (q17 j4 K) a h = j3g j4 K (a 0) (a 4) (a 5) (a 6) (a 7) h := by kernel_rfl
theorem u48 (p : j3 K (a 0) (a 4) (a 5) (a 6) (a 7) h) : I c48 (q17 j4 K) a h := ICx.to p (j3_ok j4)
theorem u3 (p : j3 K (a 0) (a 4) (a 5) (a 6) (a 7) h) : I c3 (q1 K) a h := ICx.sq (fun _ _ => u4) (u48 p)
theorem j2_ok (j3 : G5) : I c49 (q18 j3 K) a h = j2g j3 K (a 0) (a 4) (a 5) (a 6) (a 7) h := by kernel_rfl
theorem u49 (p : j2 K (a 0) (a 4) (a 5) (a 6) (a 7) h) : I c49 (q18 j3 K) a h := ICx.to p (j2_ok j3)
theorem u2 (p : j2 K (a 0) (a 4) (a 5) (a 6) (a 7) h) : I c2 (q1 K) a h := ICx.sq (fun _ _ => u3) (u49 p)
theorem j1_ok (j2 : G5) : I c50 (q19 j2 K) a h = j1g j2 K (a 0) (a 4) (a 5) (a 6) h := by kernel_rfl
theorem u50 (p : j1 K (a 0) (a 4) (a 5) (a 6) h) : I c50 (q19 j2 K) a h := ICx.to p (j1_ok j2)
theorem u1 (p : j1 K (a 0) (a 4) (a 5) (a 6) h) : I c1 (q1 K) a h := ICx.sq (fun _ _ => u2) (u50 p)
theorem e_ok (j1 : G4) : I c51 (q20 j1 K) a h = eg j1 K (a 0) (a 1) (a 2) h := by kernel_rfl
theorem u51 (p : e K (a 0) (a 1) (a 2) h) : I c51 (q20 j1 K) a h := ICx.to p (e_ok j1)
theorem u0 (p : e K (a 0) (a 1) (a 2) h) : I c0 (q1 K) a h := ICx.sq (fun _ _ => u1) (u51 p)
theorem call {x0 x1 x2 : IV} (p : e K x0 x1 x2 h) : Z5 PP Z3x [x0, x1, x2] h K :=
  ICx.fn Try.mixed Try.func53 rfl (Nat.le_of_ble_eq_true rfl) (u0 (a := actI [x0, x1, x2]) p)
end Zx
namespace Z38
def D : Nat → DI
  | _ => ⟨[], [], []⟩
abbrev I := ICx PP 18 D
def c0 : Code := bodyN Try.f54
def c1 : Code := cR c0
def c2 : Code := cR c1
def c3 : Code := cL c1
def c4 : Code := cL c0
abbrev q1 (K : KT) : QT := finK PP Try.f54.results.toList K
def j2 (K : KT) (x1 x2 : IV) (h : Heap) : Prop :=
 oD (Z2 PP Z6 x2 1) h fun v1 =>
 oD (Z1 PP ZK v1 h) h fun v2 =>
 oV x1 h fun v3 =>
 oD (Zf PP ZK v2 v3 h) h fun v4 =>
 oD (Z2 PP ZR v4 0) h fun v5 =>
 oD (Z1 PP Z0 v5 h) h fun v6 =>
 oV v6 h fun v7 =>
 Zd PP [.v v7] h K
abbrev q2 (j2 : G2) (K : KT) : QT := Z4 (fun a h => j2 K (a 1) (a 2) h) (q1 K)
def j1g (j2 : G2) (K : KT) (x1 x2 : IV) (h : Heap) : Prop :=
 oV x1 h fun v1 =>
 oD (Z2 PP Z6 x2 1) h fun v2 =>
 oD (Z1 PP ZK v2 h) h fun v3 =>
 oD (lenI PP ZK v3) h fun v4 =>
 oD (Z7 PP .sub Z0 v4 (.int .i64 1)) h fun v5 =>
 Z5 PP Z34 [v1, .int .i64 0, v5] h fun v6 h1 =>
 oD (unI .not v6) h1 fun v7 =>
 bK' v7
   (oV (.int .i64 (-1)) h1 fun v8 =>
   Zd PP [.v v8] h1 K)
   (j2 K x1 x2 h1)
abbrev j1 : G2 := j1g j2
abbrev q3 (j1 : G2) (K : KT) : QT := Z4 (fun a h => j1 K (a 1) (a 2) h) (q1 K)
def eg (j1 : G2) (K : KT) (x0 x1 : IV) (h : Heap) : Prop :=
 oA (Zi Z6 x0 h) h fun v1 h1 =>
 oV (.int .i64 0) h1 fun v2 =>
 j1 K x1 v1 h1
abbrev e : G2 := eg j1
theorem u2 (p : j2 K (a 1) (a 2) h) : I c2 (q1 K) a h := ICx.to p
theorem j1_ok (j2 : G2) : I c3 (q2 j2 K) a h = j1g j2 K (a 1) (a 2) h := by kernel_rfl
theorem u3 (p : j1 K (a 1) (a 2) h) : I c3 (q2 j2 K) a h := ICx.to p (j1_ok j2)
theorem u1 (p : j1 K (a 1) (a 2) h) : I c1 (q1 K) a h := ICx.sq (fun _ _ => u2) (u3 p)
theorem e_ok (j1 : G2) : I c4 (q3 j1 K) a h = eg j1 K (a 0) (a 1) h := by kernel_rfl
theorem u4 (p : e K (a 0) (a 1) h) : I c4 (q3 j1 K) a h := ICx.to p (e_ok j1)
theorem u0 (p : e K (a 0) (a 1) h) : I c0 (q1 K) a h := ICx.sq (fun _ _ => u1) (u4 p)
theorem call {x0 x1 : IV} (p : e K x0 x1 h) : Z5 PP Z3y [x0, x1] h K :=
  ICx.fn Try.mixed Try.func54 rfl (Nat.le_of_ble_eq_true rfl) (u0 (a := actI [x0, x1]) p)
end Z38
namespace Z39
def D : Nat → DI
  | _ => ⟨[], [], []⟩
abbrev I := ICx PP 18 D
def c0 : Code := bodyN Try.f55
def c1 : Code := cR c0
def c2 : Code := cR c1
def c3 : Code := cL c1
def c4 : Code := cL c0
abbrev q1 (K : KT) : QT := finK PP Try.f55.results.toList K
def j2 (K : KT) (x1 x2 : IV) (h : Heap) : Prop :=
 oD (Z2 PP Z6 x2 2) h fun v1 =>
 oD (Z1 PP Zn v1 h) h fun v2 =>
 oV x1 h fun v3 =>
 oD (Zf PP Zn v2 v3 h) h fun v4 =>
 oD (Z2 PP Zz v4 0) h fun v5 =>
 oD (Z1 PP Z0 v5 h) h fun v6 =>
 oV v6 h fun v7 =>
 Zd PP [.v v7] h K
abbrev q2 (j2 : G2) (K : KT) : QT := Z4 (fun a h => j2 K (a 1) (a 2) h) (q1 K)
def j1g (j2 : G2) (K : KT) (x1 x2 : IV) (h : Heap) : Prop :=
 oV x1 h fun v1 =>
 oD (Z2 PP Z6 x2 2) h fun v2 =>
 oD (Z1 PP Zn v2 h) h fun v3 =>
 oD (lenI PP Zn v3) h fun v4 =>
 oD (Z7 PP .sub Z0 v4 (.int .i64 1)) h fun v5 =>
 Z5 PP Z34 [v1, .int .i64 0, v5] h fun v6 h1 =>
 oD (unI .not v6) h1 fun v7 =>
 bK' v7
   (oV (.int .i64 (-1)) h1 fun v8 =>
   Zd PP [.v v8] h1 K)
   (j2 K x1 x2 h1)
abbrev j1 : G2 := j1g j2
abbrev q3 (j1 : G2) (K : KT) : QT := Z4 (fun a h => j1 K (a 1) (a 2) h) (q1 K)
def eg (j1 : G2) (K : KT) (x0 x1 : IV) (h : Heap) : Prop :=
 oA (Zi Z6 x0 h) h fun v1 h1 =>
 oV (.int .i64 0) h1 fun v2 =>
 j1 K x1 v1 h1
abbrev e : G2 := eg j1
theorem u2 (p : j2 K (a 1) (a 2) h) : I c2 (q1 K) a h := ICx.to p
theorem j1_ok (j2 : G2) : I c3 (q2 j2 K) a h = j1g j2 K (a 1) (a 2) h := by kernel_rfl
theorem u3 (p : j1 K (a 1) (a 2) h) : I c3 (q2 j2 K) a h := ICx.to p (j1_ok j2)
theorem u1 (p : j1 K (a 1) (a 2) h) : I c1 (q1 K) a h := ICx.sq (fun _ _ => u2) (u3 p)
theorem e_ok (j1 : G2) : I c4 (q3 j1 K) a h = eg j1 K (a 0) (a 1) h := by kernel_rfl
theorem u4 (p : e K (a 0) (a 1) h) : I c4 (q3 j1 K) a h := ICx.to p (e_ok j1)
theorem u0 (p : e K (a 0) (a 1) h) : I c0 (q1 K) a h := ICx.sq (fun _ _ => u1) (u4 p)
theorem call {x0 x1 : IV} (p : e K x0 x1 h) : Z5 PP Z3z [x0, x1] h K :=
  ICx.fn Try.mixed Try.func55 rfl (Nat.le_of_ble_eq_true rfl) (u0 (a := actI [x0, x1]) p)
end Z39
namespace Z4F
def D : Nat → DI
  | _ => ⟨[], [], []⟩
abbrev I := ICx PP 22 D
def c0 : Code := bodyN Try.f56
abbrev q1 (K : KT) : QT := finK PP Try.f56.results.toList K
def e (K : KT) (x0 x1 : IV) (h : Heap) : Prop :=
 oA (Zi Z6 x0 h) h fun v1 h1 =>
 oA (Zi Z8 x1 h1) h1 fun v2 h2 =>
 oV (.bool false) h2 fun v3 =>
 oD (Z1 PP Z8 v2 h2) h2 fun v4 =>
 oD (Z2 PP Z6 v1 3) h2 fun v5 =>
 oD (Z1 PP Zw v5 h2) h2 fun v6 =>
 oD (lenI PP Zw v6) h2 fun v7 =>
 oD (mmI false v7 [.int .i64 32]) h2 fun v8 =>
 oD (Z2 PP Z6 v1 2) h2 fun v9 =>
 oD (Z1 PP Zn v9 h2) h2 fun v10 =>
 oD (lenI PP Zn v10) h2 fun v11 =>
 oD (mmI false v11 [.int .i64 16]) h2 fun v12 =>
 oD (Z2 PP Z6 v1 0) h2 fun v13 =>
 oD (Z1 PP Z0 v13 h2) h2 fun v14 =>
 oD (mmI false v14 [.int .i64 4]) h2 fun v15 =>
 oD (Z2 PP Z6 v1 4) h2 fun v16 =>
 oD (Z1 PP ZI v16 h2) h2 fun v17 =>
 oD (lenI PP ZI v17) h2 fun v18 =>
 oD (mmI false v18 [.int .i64 30]) h2 fun v19 =>
 Z5 PP Z3P [v4, v8, v12, v15, v19] h2 fun v20 h3 =>
 oV v20 h3 fun v21 =>
 Zd PP [.v v21] h3 K
theorem u0 (p : e K (a 0) (a 1) h) : I c0 (q1 K) a h := ICx.to p
theorem call {x0 x1 : IV} (p : e K x0 x1 h) : Z5 PP Z3A [x0, x1] h K :=
  ICx.fn Try.mixed Try.func56 rfl (Nat.le_of_ble_eq_true rfl) (u0 (a := actI [x0, x1]) p)
end Z4F
namespace Z46
def D : Nat → DI
  | _ => ⟨[], [], []⟩
abbrev I := ICx PP 6 D
def c0 : Code := bodyN Try.f57
abbrev q1 (K : KT) : QT := finK PP Try.f57.results.toList K
def e (K : KT) (x0 : IV) (h : Heap) : Prop :=
 oA (Zp PP Z3 h) h fun v1 h1 =>
 oV (.int .i64 0) h1 fun v2 =>
 oD (Zo PP Z3 []) h1 fun v3 =>
 oV x0 h1 fun v4 =>
 oS (Z9 PP Z3 v1 v3 h1) h1 fun h2 =>
 oV v4 h2 fun v5 =>
 Zd PP [.c v1 Z3, .v v5] h2 K
theorem u0 (p : e K (a 0) h) : I c0 (q1 K) a h := ICx.to p
theorem call {x0 : IV} (p : e K x0 h) : Z5 PP Zv [x0] h K :=
  ICx.fn Try.mixed Try.func57 rfl (Nat.le_of_ble_eq_true rfl) (u0 (a := actI [x0]) p)
end Z46
namespace Z4G
def D : Nat → DI
  | _ => ⟨[], [], []⟩
abbrev I := ICx PP 14 D
def c0 : Code := bodyN Try.f58
abbrev q1 (K : KT) : QT := finK PP Try.f58.results.toList K
def e (K : KT) (x0 : IV) (h : Heap) : Prop :=
 oA (Zi Z3 x0 h) h fun v1 h1 =>
 oA (Zp PP Z3 h1) h1 fun v2 h2 =>
 oA (ZA PP Zh 0 [] h2) h2 fun v3 h3 =>
 oD (Z2 PP Z3 v1 2) h3 fun v4 =>
 oD (Z1 PP Zh v4 h3) h3 fun v5 =>
 oA (ZJ PP Zh Zh v3 v5 h3) h3 fun v6 h4 =>
 oD (Z2 PP Z3 v1 2) h4 fun v7 =>
 oS (Z9 PP Zh v7 v6 h4) h4 fun h5 =>
 oA (ZA PP Zl 0 [] h5) h5 fun v8 h6 =>
 oD (Z2 PP Z3 v1 3) h6 fun v9 =>
 oD (Z1 PP Zl v9 h6) h6 fun v10 =>
 oA (ZJ PP Zl Zl v8 v10 h6) h6 fun v11 h7 =>
 oD (Z2 PP Z3 v1 3) h7 fun v12 =>
 oS (Z9 PP Zl v12 v11 h7) h7 fun h8 =>
 oD (Z1 PP Z3 v1 h8) h8 fun v13 =>
 oS (Z9 PP Z3 v2 v13 h8) h8 fun h9 =>
 Zd PP [.c v2 Z3] h9 K
theorem u0 (p : e K (a 0) h) : I c0 (q1 K) a h := ICx.to p
theorem call {x0 : IV} (p : e K x0 h) : Z5 PP Z3B [x0] h K :=
  ICx.fn Try.mixed Try.func58 rfl (Nat.le_of_ble_eq_true rfl) (u0 (a := actI [x0]) p)
end Z4G
end
end Go.Ideal
