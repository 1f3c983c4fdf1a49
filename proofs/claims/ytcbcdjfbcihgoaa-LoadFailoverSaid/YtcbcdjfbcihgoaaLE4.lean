/- Part of a proof: functions of the program over an ideal memory, and what they compute. No condition. -/
import Derived.Test.YtcbcdjfbcihgoaaLE3
set_option linter.unusedVariables false
set_option linter.unusedSimpArgs false
namespace Go.Ideal
open Go.Proofs
set_option maxRecDepth 100000
noncomputable section
variable {K : KT} {a : IAct} {h : Heap}
namespace ZU
def D : Nat → DI
  | 11 => ⟨[0, 0, 0, 0, 8, 0, 32, 1, 129, 385, 923, 1947, 3995, 8191, 16383, 32767], [0, 1, 2, 3, 4, 5, 6, 7, 8, 9, 10, 11, 12, 13, 14, 15], []⟩
  | _ => ⟨[], [], []⟩
abbrev I := ICx PP 119 D
def c0 : Code := bodyN Try.f59
def c1 : Code := cR c0
def c2 : Code := cR c1
def c3 : Code := cR c2
def c4 : Code := cR c3
def c5 : Code := cL c3
def c6 : Code := cL c5
def c7 : Code := cR c6
def c8 : Code := cL c7
def c9 : Code := cR c7
def c10 : Code := cR c9
def c11 : Code := cL c10
def c12 : Code := cR c10
def c13 : Code := cR c12
def c14 : Code := cL c13
def c15 : Code := cR c13
def c16 : Code := cL c12
def c17 : Code := cL c9
def c18 : Code := cL c6
def c19 : Code := cL c2
def c20 : Code := cL c1
def c21 : Code := cL c0
abbrev q1 (K : KT) : QT := finK PP Try.f59.results.toList K
def j13 (K : KT) (x3 x4 x5 x6 x8 : IV) (h : Heap) : Prop :=
 oV x8 h fun v1 =>
 oV x8 h fun v2 =>
 oV x8 h fun v3 =>
 oD (Z2 PP Z8 x5 3) h fun v4 =>
 oD (Z1 PP Z0 v4 h) h fun v5 =>
 oD (Z2 PP Z8 x5 4) h fun v6 =>
 oD (Z1 PP Z0 v6 h) h fun v7 =>
 oP sT (nilI v1 h) h fun v8 =>
 oD (Z2 PP Za v8 0) h fun v9 =>
 oS (Z9 PP Zy v9 (.bool true) h) h fun h1 => oB ((Zb (Z1 PP Z0 v6 h1) v7 h1) ∧ (Zb (Z1 PP Z0 v4 h1) v5 h1) ∧ True) <|
 oP sT (nilI v2 h1) h1 fun v10 =>
 oD (Z2 PP Za v10 2) h1 fun v11 =>
 oS (Z9 PP Z0 v11 v5 h1) h1 fun h2 => oB ((Zb (Z1 PP Z0 v6 h2) v7 h2) ∧ True) <|
 oP sT (nilI v3 h2) h2 fun v12 =>
 oD (Z2 PP Za v12 3) h2 fun v13 =>
 oS (Z9 PP Z0 v13 v7 h2) h2 fun h3 => oB (True) <|
 oD (Z1 PP Z6 x3 h3) h3 fun v14 =>
 oD (Z1 PP Z3 x4 h3) h3 fun v15 =>
 Z5 PP Z1U [v14, v15] h3 fun v16 h4 =>
 oD (Zg v16 0) h4 fun v17 =>
 oD (Zg v16 1) h4 fun v18 =>
 oS (Z9 PP Z3 x6 v17 h4) h4 fun h5 =>
 oV v18 h5 fun v19 =>
 Zd PP [.c x6 Z3, .v v19] h5 K
abbrev q2 (j13 : G5) (K : KT) : QT := Z4 (fun a h => j13 K (a 3) (a 4) (a 5) (a 6) (a 8) h) (q1 K)
abbrev q3 (j13 : G5) (K : KT) : QT := Zq 0 (q2 j13 K)
def j5g (j13 : G5) (K : KT) (x6 : IV) (h : Heap) : Prop :=
 Z5 PP Zv [.int .i64 4] h fun v1 h1 =>
 oD (Zg v1 0) h1 fun v2 =>
 oD (Zg v1 1) h1 fun v3 =>
 oS (Z9 PP Z3 x6 v2 h1) h1 fun h2 =>
 oV v3 h2 fun v4 =>
 Zd PP [.c x6 Z3, .v v4] h2 K
abbrev j5 : G1 := j5g j13
def j8g (j13 : G5) (K : KT) (x6 : IV) (h : Heap) : Prop :=
 Z5 PP Zv [.int .i64 6] h fun v1 h1 =>
 oD (Zg v1 0) h1 fun v2 =>
 oD (Zg v1 1) h1 fun v3 =>
 oS (Z9 PP Z3 x6 v2 h1) h1 fun h2 =>
 oV v3 h2 fun v4 =>
 Zd PP [.c x6 Z3, .v v4] h2 K
abbrev j8 : G1 := j8g j13
def j11g (j13 : G5) (K : KT) (x6 : IV) (h : Heap) : Prop :=
 Z5 PP Zv [.int .i64 12] h fun v1 h1 =>
 oD (Zg v1 0) h1 fun v2 =>
 oD (Zg v1 1) h1 fun v3 =>
 oS (Z9 PP Z3 x6 v2 h1) h1 fun h2 =>
 oV v3 h2 fun v4 =>
 Zd PP [.c x6 Z3, .v v4] h2 K
abbrev j11 : G1 := j11g j13
def j12g (j13 : G5) (K : KT) (x3 x4 x5 x6 x8 x9 : IV) (h : Heap) : Prop :=
 oD (Z1 PP Z6 x3 h) h fun v1 =>
 oD (Z2 PP Z8 x5 2) h fun v2 =>
 oD (Z1 PP Z0 v2 h) h fun v3 =>
 oD (Z2 PP Z8 x5 3) h fun v4 =>
 oD (Z1 PP Z0 v4 h) h fun v5 =>
 Z5 PP Z1T [v1, v3, v5] h fun v6 h1 =>
 oD (unI .not v6) h1 fun v7 =>
 oV v7 h1 fun v8 =>
 oG (gW v8 false) (some x9) h1 fun v9 =>
 oG (gW v8 false) (some v9) h1 fun v10 =>
 oG (gW v10 true) (Z1 PP Z6 x3 h1) h1 fun v11 =>
 oG (gW v10 true) (Z2 PP Z8 x5 2) h1 fun v12 =>
 oG (gW v10 true) (Z1 PP Z0 v12 h1) h1 fun v13 =>
 oG (gW v10 true) (Z2 PP Z8 x5 4) h1 fun v14 =>
 oG (gW v10 true) (Z1 PP Z0 v14 h1) h1 fun v15 =>
 Zm PP (gW v10 true) Z1T [v11, v13, v15] h1 fun v16 h2 =>
 oG (gW v10 true) (unI .not v16) h2 fun v17 =>
 oG (gW v10 true) (some v17) h2 fun v18 =>
 oG (gW v18 false) (Z1 PP Z6 x3 h2) h2 fun v19 =>
 oG (gW v18 false) (Z2 PP Z8 x5 3) h2 fun v20 =>
 oG (gW v18 false) (Z1 PP Z0 v20 h2) h2 fun v21 =>
 oG (gW v18 false) (Z2 PP Z8 x5 4) h2 fun v22 =>
 oG (gW v18 false) (Z1 PP Z0 v22 h2) h2 fun v23 =>
 Zm PP (gW v18 false) Z26 [v19, v21, v23] h2 fun v24 h3 =>
 oP (gW v10 true) (Ze v18 (.bool true) v24 h3) h3 fun v25 =>
 oP (gW v8 false) (Ze v10 v25 (.bool false) h3) h3 fun v26 =>
 oP sT (Ze v8 (.bool true) v26 h3) h3 fun v27 =>
 oV v27 h3 fun v28 =>
 bK' v28
   (Z5 PP Zv [.int .i64 11] h3 fun v29 h4 =>
   oD (Zg v29 0) h4 fun v30 =>
   oD (Zg v29 1) h4 fun v31 =>
   oS (Z9 PP Z3 x6 v30 h4) h4 fun h5 =>
   oV v31 h5 fun v32 =>
   Zd PP [.c x6 Z3, .v v32] h5 K)
   (j13 K x3 x4 x5 x6 x8 h3)
abbrev j12 : G6 := j12g j13
def j10 (K : KT) (x3 x4 x5 x6 x8 x9 x51 : IV) (h : Heap) : Prop := bK' x51 (j11 K x6 h) (j12 K x3 x4 x5 x6 x8 x9 h)
abbrev q4 (j10 : G7) (j13 : G5) (K : KT) : QT := Z4 (fun a h => j10 K (a 3) (a 4) (a 5) (a 6) (a 8) (a 9) (a 51) h) (q3 j13 K)
def j9g (j10 : G7) (j13 : G5) (K : KT) (x3 x4 x5 x6 x8 x9 : IV) (h : Heap) : Prop :=
 oD (Z1 PP Z6 x3 h) h fun v1 =>
 oD (Z1 PP Z3 x4 h) h fun v2 =>
 oD (Z2 PP Z8 x5 3) h fun v3 =>
 oD (Z1 PP Z0 v3 h) h fun v4 =>
 Z5 PP Z2i [v1, v2, v4] h fun v5 h1 =>
 oV v5 h1 fun v6 =>
 oG (gW v6 false) (some x9) h1 fun v7 =>
 oG (gW v6 false) (some v7) h1 fun v8 =>
 oG (gW v8 true) (Z1 PP Z6 x3 h1) h1 fun v9 =>
 oG (gW v8 true) (Z1 PP Z3 x4 h1) h1 fun v10 =>
 oG (gW v8 true) (Z2 PP Z8 x5 4) h1 fun v11 =>
 oG (gW v8 true) (Z1 PP Z0 v11 h1) h1 fun v12 =>
 Zm PP (gW v8 true) Z2i [v9, v10, v12] h1 fun v13 h2 =>
 oP (gW v6 false) (Ze v8 v13 (.bool false) h2) h2 fun v14 =>
 oP sT (Ze v6 (.bool true) v14 h2) h2 fun v15 =>
 oV v15 h2 fun v16 =>
 j10 K x3 x4 x5 x6 x8 x9 v16 h2
abbrev j9 : G6 := j9g j10 j13
def j7 (K : KT) (x3 x4 x5 x6 x8 x9 x26 : IV) (h : Heap) : Prop := bK' x26 (j8 K x6 h) (j9 K x3 x4 x5 x6 x8 x9 h)
abbrev q5 (j7 : G7) (j13 : G5) (K : KT) : QT := Z4 (fun a h => j7 K (a 3) (a 4) (a 5) (a 6) (a 8) (a 9) (a 26) h) (q3 j13 K)
def j6g (j7 : G7) (j13 : G5) (K : KT) (x3 x4 x5 x6 x8 x9 : IV) (h : Heap) : Prop :=
 oD (Z2 PP Z3 x4 3) h fun v1 =>
 oD (Z1 PP Zl v1 h) h fun v2 =>
 oD (Z2 PP Z8 x5 3) h fun v3 =>
 oD (Z1 PP Z0 v3 h) h fun v4 =>
 oD (Zf PP Zl v2 v4 h) h fun v5 =>
 oD (Z2 PP Zj v5 0) h fun v6 =>
 oD (Z1 PP Z0 v6 h) h fun v7 =>
 oD (Z7 PP .neq Z0 v7 (.int .i64 1)) h fun v8 =>
 oV v8 h fun v9 =>
 oG (gW v9 false) (some x9) h fun v10 =>
 oG (gW v9 false) (some v10) h fun v11 =>
 oG (gW v11 true) (Z2 PP Z3 x4 3) h fun v12 =>
 oG (gW v11 true) (Z1 PP Zl v12 h) h fun v13 =>
 oG (gW v11 true) (Z2 PP Z8 x5 4) h fun v14 =>
 oG (gW v11 true) (Z1 PP Z0 v14 h) h fun v15 =>
 oG (gW v11 true) (Zf PP Zl v13 v15 h) h fun v16 =>
 oG (gW v11 true) (Z2 PP Zj v16 0) h fun v17 =>
 oG (gW v11 true) (Z1 PP Z0 v17 h) h fun v18 =>
 oG (gW v11 true) (Z7 PP .neq Z0 v18 (.int .i64 1)) h fun v19 =>
 oP (gW v9 false) (Ze v11 v19 (.bool false) h) h fun v20 =>
 oP sT (Ze v9 (.bool true) v20 h) h fun v21 =>
 oV v21 h fun v22 =>
 j7 K x3 x4 x5 x6 x8 x9 v22 h
abbrev j6 : G6 := j6g j7 j13
def j4 (K : KT) (x3 x4 x5 x6 x8 x9 x18 : IV) (h : Heap) : Prop := bK' x18 (j5 K x6 h) (j6 K x3 x4 x5 x6 x8 x9 h)
abbrev q6 (j4 : G7) (j13 : G5) (K : KT) : QT := Z4 (fun a h => j4 K (a 3) (a 4) (a 5) (a 6) (a 8) (a 9) (a 18) h) (q3 j13 K)
def j3g (j4 : G7) (j13 : G5) (K : KT) (x3 x4 x5 x6 x8 x9 : IV) (h : Heap) : Prop :=
 oV x8 h fun v1 =>
 oP sT (nilI v1 h) h fun v2 =>
 oD (Z2 PP Za v2 0) h fun v3 =>
 oD (Z1 PP Zy v3 h) h fun v4 =>
 oV v4 h fun v5 =>
 j4 K x3 x4 x5 x6 x8 x9 v5 h
abbrev j3 : G6 := j3g j4 j13
abbrev q7 (j3 : G6) (K : KT) : QT := Z4 (fun a h => j3 K (a 3) (a 4) (a 5) (a 6) (a 8) (a 9) h) (q1 K)
def j2g (j3 : G6) (K : KT) (x3 x4 x5 x6 x8 : IV) (h : Heap) : Prop :=
 oD (Z2 PP Z8 x5 4) h fun v1 =>
 oD (Z1 PP Z0 v1 h) h fun v2 =>
 oD (Z7 PP .geq Z0 v2 (.int .i64 0)) h fun v3 =>
 oV v3 h fun v4 =>
 j3 K x3 x4 x5 x6 x8 v4 h
abbrev j2 : G5 := j2g j3
abbrev q8 (j2 : G5) (K : KT) : QT := Z4 (fun a h => j2 K (a 3) (a 4) (a 5) (a 6) (a 8) h) (q1 K)
def j1g (j2 : G5) (K : KT) (x3 x4 x5 x6 : IV) (h : Heap) : Prop :=
 oD (Z2 PP Z3 x4 2) h fun v1 =>
 oD (Z1 PP Zh v1 h) h fun v2 =>
 oD (Z2 PP Z8 x5 2) h fun v3 =>
 oD (Z1 PP Z0 v3 h) h fun v4 =>
 oD (Zf PP Zh v2 v4 h) h fun v5 =>
 oV v5 h fun v6 =>
 j2 K x3 x4 x5 x6 v6 h
abbrev j1 : G4 := j1g j2
abbrev q9 (j1 : G4) (K : KT) : QT := Z4 (fun a h => j1 K (a 3) (a 4) (a 5) (a 6) h) (q1 K)
def eg (j1 : G4) (K : KT) (x0 x1 x2 : IV) (h : Heap) : Prop :=
 oA (Zi Z6 x0 h) h fun v1 h1 =>
 oA (Zi Z3 x1 h1) h1 fun v2 h2 =>
 oA (Zi Z8 x2 h2) h2 fun v3 h3 =>
 oA (Zp PP Z3 h3) h3 fun v4 h4 =>
 oV (.int .i64 0) h4 fun v5 =>
 j1 K v1 v2 v3 v4 h4
abbrev e : G3 := eg j1
theorem u4 (p : j13 K (a 3) (a 4) (a 5) (a 6) (a 8) h) : I c4 (q1 K) a h := ICx.to p
theorem j5_ok (j13 : G5) : I c8 (q3 j13 K) a h = j5g j13 K (a 6) h := by kernel_rfl
theorem u8 (p : j5 K (a 6) h) : I c8 (q3 j13 K) a h := ICx.to p (j5_ok j13)
theorem j8_ok (j13 : G5) : I c11 (q3 j13 K) a h = j8g j13 K (a 6) h := by kernel_rfl
theorem u11 (p : j8 K (a 6) h) : I c11 (q3 j13 K) a h := ICx.to p (j8_ok j13)
theorem j11_ok (j13 : G5) : I c14 (q3 j13 K) a h = j11g j13 K (a 6) h := by kernel_rfl
theorem u14 (p : j11 K (a 6) h) : I c14 (q3 j13 K) a h := ICx.to p (j11_ok j13)
theorem j12_ok (j13 : G5) : I c15 (q3 j13 K) a h = j12g j13 K (a 3) (a 4) (a 5) (a 6) (a 8) (a 9) h := by kernel_rfl
theorem u15 (p : j12 K (a 3) (a 4) (a 5) (a 6) (a 8) (a 9) h) : I c15 (q3 j13 K) a h := ICx.to p (j12_ok j13)
theorem u13 (p : j10 K (a 3) (a 4) (a 5) (a 6) (a 8) (a 9) (a 51) h) : I c13 (q3 j13 K) a h := ICx.cnd (o := (Go.Operand.tmp 51)) u14 u15 p
theorem j9_ok (j10 : G7) (j13 : G5) : I c16 (q4 j10 j13 K) a h = j9g j10 j13 K (a 3) (a 4) (a 5) (a 6) (a 8) (a 9) h := by kernel_rfl
theorem u16 (p : j9 K (a 3) (a 4) (a 5) (a 6) (a 8) (a 9) h) : I c16 (q4 j10 j13 K) a h := ICx.to p (j9_ok j10 j13)
theorem u12 (p : j9 K (a 3) (a 4) (a 5) (a 6) (a 8) (a 9) h) : I c12 (q3 j13 K) a h := ICx.sq (fun _ _ => u13) (u16 p)
theorem u10 (p : j7 K (a 3) (a 4) (a 5) (a 6) (a 8) (a 9) (a 26) h) : I c10 (q3 j13 K) a h := ICx.cnd (o := (Go.Operand.tmp 26)) u11 u12 p
theorem j6_ok (j7 : G7) (j13 : G5) : I c17 (q5 j7 j13 K) a h = j6g j7 j13 K (a 3) (a 4) (a 5) (a 6) (a 8) (a 9) h := by kernel_rfl
theorem u17 (p : j6 K (a 3) (a 4) (a 5) (a 6) (a 8) (a 9) h) : I c17 (q5 j7 j13 K) a h := ICx.to p (j6_ok j7 j13)
theorem u9 (p : j6 K (a 3) (a 4) (a 5) (a 6) (a 8) (a 9) h) : I c9 (q3 j13 K) a h := ICx.sq (fun _ _ => u10) (u17 p)
theorem u7 (p : j4 K (a 3) (a 4) (a 5) (a 6) (a 8) (a 9) (a 18) h) : I c7 (q3 j13 K) a h := ICx.cnd (o := (Go.Operand.tmp 18)) u8 u9 p
theorem j3_ok (j4 : G7) (j13 : G5) : I c18 (q6 j4 j13 K) a h = j3g j4 j13 K (a 3) (a 4) (a 5) (a 6) (a 8) (a 9) h := by kernel_rfl
theorem u18 (p : j3 K (a 3) (a 4) (a 5) (a 6) (a 8) (a 9) h) : I c18 (q6 j4 j13 K) a h := ICx.to p (j3_ok j4 j13)
theorem u6 (p : j3 K (a 3) (a 4) (a 5) (a 6) (a 8) (a 9) h) : I c6 (q3 j13 K) a h := ICx.sq (fun _ _ => u7) (u18 p)
theorem u5 (p : j3 K (a 3) (a 4) (a 5) (a 6) (a 8) (a 9) h) : I c5 (q2 j13 K) a h := ICx.blk (u6 p)
theorem u3 (p : j3 K (a 3) (a 4) (a 5) (a 6) (a 8) (a 9) h) : I c3 (q1 K) a h := ICx.sq (fun _ _ => u4) (u5 p)
theorem j2_ok (j3 : G6) : I c19 (q7 j3 K) a h = j2g j3 K (a 3) (a 4) (a 5) (a 6) (a 8) h := by kernel_rfl
theorem u19 (p : j2 K (a 3) (a 4) (a 5) (a 6) (a 8) h) : I c19 (q7 j3 K) a h := ICx.to p (j2_ok j3)
theorem u2 (p : j2 K (a 3) (a 4) (a 5) (a 6) (a 8) h) : I c2 (q1 K) a h := ICx.sq (fun _ _ => u3) (u19 p)
theorem j1_ok (j2 : G5) : I c20 (q8 j2 K) a h = j1g j2 K (a 3) (a 4) (a 5) (a 6) h := by kernel_rfl
theorem u20 (p : j1 K (a 3) (a 4) (a 5) (a 6) h) : I c20 (q8 j2 K) a h := ICx.to p (j1_ok j2)
theorem u1 (p : j1 K (a 3) (a 4) (a 5) (a 6) h) : I c1 (q1 K) a h := ICx.sq (fun _ _ => u2) (u20 p)
theorem e_ok (j1 : G4) : I c21 (q9 j1 K) a h = eg j1 K (a 0) (a 1) (a 2) h := by kernel_rfl
theorem u21 (p : e K (a 0) (a 1) (a 2) h) : I c21 (q9 j1 K) a h := ICx.to p (e_ok j1)
theorem u0 (p : e K (a 0) (a 1) (a 2) h) : I c0 (q1 K) a h := ICx.sq (fun _ _ => u1) (u21 p)
theorem call {x0 x1 x2 : IV} (p : e K x0 x1 x2 h) : Z5 PP Z3C [x0, x1, x2] h K :=
  ICx.fn Try.mixed Try.func59 rfl (Nat.le_of_ble_eq_true rfl) (u0 (a := actI [x0, x1, x2]) p)
end ZU
namespace ZV
def D : Nat → DI
  | 2 => ⟨[0, 1, 3, 7, 15, 31, 63, 127, 255, 511, 1023, 2047, 4095, 2047, 10239, 26623, 59391, 131071, 262143, 524287, 1048575], [0, 1, 2, 3, 4, 5, 6, 7, 8, 9, 10, 11, 12, 13, 14, 15, 16, 17, 18, 19, 20], []⟩
  | 4 => ⟨[0, 1, 0, 4, 12, 28, 63, 127, 255, 511, 255, 1279, 3327, 7423, 16383, 32767, 65535, 131071, 262143, 131071, 655359, 1703935, 3801087, 8388607, 16777215, 33554431], [0, 1, 2, 3, 4, 5, 6, 7, 8, 9, 10, 11, 12, 13, 14, 15, 16, 17, 18, 19, 20, 21, 22, 23, 24, 25], []⟩
  | _ => ⟨[], [], []⟩
abbrev I := ICx PP 141 D
def c0 : Code := bodyN Try.f60
def c1 : Code := cR c0
def c2 : Code := cR c1
def c3 : Code := cR c2
def c4 : Code := cR c3
def c5 : Code := cR c4
def c6 : Code := cR c5
def c7 : Code := cR c6
def c8 : Code := cR c7
def c9 : Code := cL c7
def c10 : Code := cR c9
def c11 : Code := cL c10
def c12 : Code := cR c11
def c13 : Code := cL c12
def c14 : Code := cR c12
def c15 : Code := cR c14
def c16 : Code := cL c15
def c17 : Code := cR c15
def c18 : Code := cL c14
def c19 : Code := cL c11
def c20 : Code := cL c9
def c21 : Code := cL c6
def c22 : Code := cL c5
def c23 : Code := cL c4
def c24 : Code := cL c3
def c25 : Code := cL c2
def c26 : Code := cL c25
def c27 : Code := cR c26
def c28 : Code := cL c27
def c29 : Code := cR c27
def c30 : Code := cL c26
def c31 : Code := cL c1
def c32 : Code := cL c0
abbrev q1 (K : KT) : QT := finK PP Try.f60.results.toList K
def j18 (K : KT) (x3 x4 x6 : IV) (h : Heap) : Prop :=
 oD (Z1 PP Z6 x3 h) h fun v1 =>
 oD (Z1 PP Z3 x4 h) h fun v2 =>
 Z5 PP Z1U [v1, v2] h fun v3 h1 =>
 oD (Zg v3 0) h1 fun v4 =>
 oD (Zg v3 1) h1 fun v5 =>
 oS (Z9 PP Z3 x6 v4 h1) h1 fun h2 =>
 oV v5 h2 fun v6 =>
 Zd PP [.c x6 Z3, .v v6] h2 K
abbrev q2 (j18 : G3) (K : KT) : QT := Z4 (fun a h => j18 K (a 3) (a 4) (a 6) h) (q1 K)
abbrev q3 (j18 : G3) (K : KT) : QT := Zq 1 (q2 j18 K)
def j13g (j18 : G3) (K : KT) (x3 x4 x6 : IV) (h : Heap) : Prop :=
 j18 K x3 x4 x6 h
abbrev j13 : G3 := j13g j18
def j16g (j18 : G3) (K : KT) (x3 x4 x5 x6 x8 : IV) (h : Heap) : Prop :=
 oV x8 h fun v1 =>
 oV x8 h fun v2 =>
 oV x8 h fun v3 =>
 oV x8 h fun v4 =>
 oV x8 h fun v5 =>
 oD (Z2 PP Z8 x5 3) h fun v6 =>
 oD (Z1 PP Z0 v6 h) h fun v7 =>
 oP sT (nilI v1 h) h fun v8 =>
 oD (Z2 PP Za v8 2) h fun v9 =>
 oS (Z9 PP Z0 v9 v7 h) h fun h1 =>
 oP sT (nilI v2 h1) h1 fun v10 =>
 oD (Z2 PP Za v10 3) h1 fun v11 =>
 oS (Z9 PP Z0 v11 (.int .i64 (-1)) h1) h1 fun h2 =>
 oP sT (nilI v3 h2) h2 fun v12 =>
 oD (Z2 PP Za v12 4) h2 fun v13 =>
 oS (Z9 PP Z0 v13 (.int .i64 (-1)) h2) h2 fun h3 =>
 oP sT (nilI v4 h3) h3 fun v14 =>
 oD (Z2 PP Za v14 5) h3 fun v15 =>
 oS (Z9 PP Z0 v15 (.int .i64 (-1)) h3) h3 fun h4 =>
 oP sT (nilI v5 h4) h4 fun v16 =>
 oD (Z2 PP Za v16 1) h4 fun v17 =>
 oS (Z9 PP Zy v17 (.bool false) h4) h4 fun h5 =>
 j18 K x3 x4 x6 h5
abbrev j16 : G5 := j16g j18
def j17g (j18 : G3) (K : KT) (x3 x4 x5 x6 x8 : IV) (h : Heap) : Prop :=
 oV x8 h fun v1 =>
 oV x8 h fun v2 =>
 oD (Z2 PP Z8 x5 3) h fun v3 =>
 oD (Z1 PP Z0 v3 h) h fun v4 =>
 oP sT (nilI v1 h) h fun v5 =>
 oD (Z2 PP Za v5 2) h fun v6 =>
 oS (Z9 PP Z0 v6 v4 h) h fun h1 =>
 oP sT (nilI v2 h1) h1 fun v7 =>
 oD (Z2 PP Za v7 5) h1 fun v8 =>
 oS (Z9 PP Z0 v8 (.int .i64 (-1)) h1) h1 fun h2 =>
 j18 K x3 x4 x6 h2
abbrev j17 : G5 := j17g j18
def j15 (K : KT) (x3 x4 x5 x6 x8 x113 : IV) (h : Heap) : Prop := bK' x113 (j16 K x3 x4 x5 x6 x8 h) (j17 K x3 x4 x5 x6 x8 h)
abbrev q4 (j15 : G6) (j18 : G3) (K : KT) : QT := Z4 (fun a h => j15 K (a 3) (a 4) (a 5) (a 6) (a 8) (a 113) h) (q3 j18 K)
def j14g (j15 : G6) (j18 : G3) (K : KT) (x3 x4 x5 x6 x8 x98 : IV) (h : Heap) : Prop :=
 oV x8 h fun v1 =>
 oP sT (nilI v1 h) h fun v2 =>
 oD (Z2 PP Za v2 3) h fun v3 =>
 oD (Z1 PP Z0 v3 h) h fun v4 =>
 oD (Z7 PP .eql Z0 x98 v4) h fun v5 =>
 oV v5 h fun v6 =>
 j15 K x3 x4 x5 x6 x8 v6 h
abbrev j14 : G6 := j14g j15 j18
def j12 (K : KT) (x3 x4 x5 x6 x8 x98 x107 : IV) (h : Heap) : Prop := bK' x107 (j13 K x3 x4 x6 h) (j14 K x3 x4 x5 x6 x8 x98 h)
abbrev q5 (j12 : G7) (j18 : G3) (K : KT) : QT := Z4 (fun a h => j12 K (a 3) (a 4) (a 5) (a 6) (a 8) (a 98) (a 107) h) (q3 j18 K)
def j11g (j12 : G7) (j18 : G3) (K : KT) (x3 x4 x5 x6 x8 x98 : IV) (h : Heap) : Prop :=
 oV x8 h fun v1 =>
 oP sT (nilI v1 h) h fun v2 =>
 oD (Z2 PP Za v2 2) h fun v3 =>
 oD (Z1 PP Z0 v3 h) h fun v4 =>
 oD (Z7 PP .eql Z0 x98 v4) h fun v5 =>
 oV v5 h fun v6 =>
 j12 K x3 x4 x5 x6 x8 x98 v6 h
abbrev j11 : G6 := j11g j12 j18
abbrev q6 (j11 : G6) (j18 : G3) (K : KT) : QT := Z4 (fun a h => j11 K (a 3) (a 4) (a 5) (a 6) (a 8) (a 98) h) (q2 j18 K)
def j10g (j11 : G6) (j18 : G3) (K : KT) (x3 x4 x5 x6 x8 : IV) (h : Heap) : Prop :=
 oD (Z2 PP Z8 x5 3) h fun v1 =>
 oD (Z1 PP Z0 v1 h) h fun v2 =>
 j11 K x3 x4 x5 x6 x8 v2 h
abbrev j10 : G5 := j10g j11 j18
abbrev q7 (j10 : G5) (K : KT) : QT := Z4 (fun a h => j10 K (a 3) (a 4) (a 5) (a 6) (a 8) h) (q1 K)
def j9g (j10 : G5) (K : KT) (x3 x4 x5 x6 x8 : IV) (h : Heap) : Prop :=
 oV x8 h fun v1 =>
 oD (Z2 PP Z8 x5 5) h fun v2 =>
 oD (Z1 PP Z0 v2 h) h fun v3 =>
 oP sT (nilI v1 h) h fun v4 =>
 oD (Z2 PP Za v4 6) h fun v5 =>
 oS (Z9 PP Z0 v5 v3 h) h fun h1 =>
 j10 K x3 x4 x5 x6 x8 h1
abbrev j9 : G5 := j9g j10
abbrev q8 (j9 : G5) (K : KT) : QT := Z4 (fun a h => j9 K (a 3) (a 4) (a 5) (a 6) (a 8) h) (q1 K)
def j8g (j9 : G5) (K : KT) (x3 x4 x5 x6 x8 : IV) (h : Heap) : Prop :=
 oV x8 h fun v1 =>
 oD (Z2 PP Z8 x5 3) h fun v2 =>
 oD (Z1 PP Z0 v2 h) h fun v3 =>
 oD (Z2 PP Z8 x5 5) h fun v4 =>
 oD (Z1 PP Z0 v4 h) h fun v5 =>
 oD (Z2 PP Z8 x5 8) h fun v6 =>
 oD (Z1 PP Z0 v6 h) h fun v7 =>
 oD (Z2 PP Z8 x5 6) h fun v8 =>
 oD (Z1 PP Z0 v8 h) h fun v9 =>
 oD (Z2 PP Z8 x5 7) h fun v10 =>
 oD (Z1 PP Z0 v10 h) h fun v11 =>
 oD (Zo PP Zu [(0, v3), (1, v5), (2, v7), (3, v9), (4, v11)]) h fun v12 =>
 oP sT (nilI v1 h) h fun v13 =>
 oD (Z2 PP Za v13 7) h fun v14 =>
 oS (Z9 PP Zu v14 v12 h) h fun h1 =>
 j9 K x3 x4 x5 x6 x8 h1
abbrev j8 : G5 := j8g j9
abbrev q9 (j8 : G5) (K : KT) : QT := Z4 (fun a h => j8 K (a 3) (a 4) (a 5) (a 6) (a 8) h) (q1 K)
def j7g (j8 : G5) (K : KT) (x3 x4 x5 x6 x8 x9 : IV) (h : Heap) : Prop :=
 oV x9 h fun v1 =>
 oD (Z7 PP .neq Z3W v1 (.int .i64 0)) h fun v2 =>
 bK' v2
   (oV x9 h fun v3 =>
   Z5 PP Zv [v3] h fun v4 h1 =>
   oD (Zg v4 0) h1 fun v5 =>
   oD (Zg v4 1) h1 fun v6 =>
   oS (Z9 PP Z3 x6 v5 h1) h1 fun h2 =>
   oV v6 h2 fun v7 =>
   Zd PP [.c x6 Z3, .v v7] h2 K)
   (j8 K x3 x4 x5 x6 x8 h)
abbrev j7 : G6 := j7g j8
abbrev q10 (j7 : G6) (K : KT) : QT := Z4 (fun a h => j7 K (a 3) (a 4) (a 5) (a 6) (a 8) (a 9) h) (q1 K)
def j6g (j7 : G6) (K : KT) (x3 x4 x5 x6 x8 : IV) (h : Heap) : Prop :=
 oD (Z1 PP Z6 x3 h) h fun v1 =>
 oD (Z1 PP Z3 x4 h) h fun v2 =>
 oD (Z1 PP Z8 x5 h) h fun v3 =>
 Z5 PP Z3Q [v1, v2, v3] h fun v4 h1 =>
 oV v4 h1 fun v5 =>
 j7 K x3 x4 x5 x6 x8 v5 h1
abbrev j6 : G5 := j6g j7
abbrev q11 (j6 : G5) (K : KT) : QT := Z4 (fun a h => j6 K (a 3) (a 4) (a 5) (a 6) (a 8) h) (q1 K)
abbrev q12 (j6 : G5) (K : KT) : QT := Zq 0 (q11 j6 K)
def j4g (j6 : G5) (K : KT) (x6 : IV) (h : Heap) : Prop :=
 Z5 PP Zv [.int .i64 4] h fun v1 h1 =>
 oD (Zg v1 0) h1 fun v2 =>
 oD (Zg v1 1) h1 fun v3 =>
 oS (Z9 PP Z3 x6 v2 h1) h1 fun h2 =>
 oV v3 h2 fun v4 =>
 Zd PP [.c x6 Z3, .v v4] h2 K
abbrev j4 : G1 := j4g j6
def j5g (j6 : G5) (K : KT) (x3 x4 x5 x6 x8 : IV) (h : Heap) : Prop :=
 oD (Z2 PP Z8 x5 3) h fun v1 =>
 oD (Z1 PP Z0 v1 h) h fun v2 =>
 oV x8 h fun v3 =>
 oP sT (nilI v3 h) h fun v4 =>
 oD (Z2 PP Za v4 2) h fun v5 =>
 oD (Z1 PP Z0 v5 h) h fun v6 =>
 oD (Z7 PP .neq Z0 v2 v6) h fun v7 =>
 oV v7 h fun v8 =>
 oG (gW v8 true) (Z2 PP Z8 x5 3) h fun v9 =>
 oG (gW v8 true) (Z1 PP Z0 v9 h) h fun v10 =>
 oG (gW v8 true) (some x8) h fun v11 =>
 oP (gW v8 true) (nilI v11 h) h fun v12 =>
 oG (gW v8 true) (Z2 PP Za v12 3) h fun v13 =>
 oG (gW v8 true) (Z1 PP Z0 v13 h) h fun v14 =>
 oG (gW v8 true) (Z7 PP .neq Z0 v10 v14) h fun v15 =>
 oP sT (Ze v8 v15 (.bool false) h) h fun v16 =>
 oV v16 h fun v17 =>
 oG (gW v17 true) (Z2 PP Z8 x5 3) h fun v18 =>
 oG (gW v17 true) (Z1 PP Z0 v18 h) h fun v19 =>
 oG (gW v17 true) (some x8) h fun v20 =>
 oP (gW v17 true) (nilI v20 h) h fun v21 =>
 oG (gW v17 true) (Z2 PP Za v21 5) h fun v22 =>
 oG (gW v17 true) (Z1 PP Z0 v22 h) h fun v23 =>
 oG (gW v17 true) (Z7 PP .neq Z0 v19 v23) h fun v24 =>
 oP sT (Ze v17 v24 (.bool false) h) h fun v25 =>
 oV v25 h fun v26 =>
 bK' v26
   (Z5 PP Zv [.int .i64 5] h fun v27 h1 =>
   oD (Zg v27 0) h1 fun v28 =>
   oD (Zg v27 1) h1 fun v29 =>
   oS (Z9 PP Z3 x6 v28 h1) h1 fun h2 =>
   oV v29 h2 fun v30 =>
   Zd PP [.c x6 Z3, .v v30] h2 K)
   (j6 K x3 x4 x5 x6 x8 h)
abbrev j5 : G5 := j5g j6
def j3 (K : KT) (x3 x4 x5 x6 x8 x15 : IV) (h : Heap) : Prop := bK' x15 (j4 K x6 h) (j5 K x3 x4 x5 x6 x8 h)
abbrev q13 (j3 : G6) (j6 : G5) (K : KT) : QT := Z4 (fun a h => j3 K (a 3) (a 4) (a 5) (a 6) (a 8) (a 15) h) (q12 j6 K)
def j2g (j3 : G6) (j6 : G5) (K : KT) (x3 x4 x5 x6 x8 : IV) (h : Heap) : Prop :=
 oV x8 h fun v1 =>
 oP sT (nilI v1 h) h fun v2 =>
 oD (Z2 PP Za v2 0) h fun v3 =>
 oD (Z1 PP Zy v3 h) h fun v4 =>
 oD (unI .not v4) h fun v5 =>
 oV v5 h fun v6 =>
 oG (gW v6 false) (some x8) h fun v7 =>
 oP (gW v6 false) (nilI v7 h) h fun v8 =>
 oG (gW v6 false) (Z2 PP Za v8 1) h fun v9 =>
 oG (gW v6 false) (Z1 PP Zy v9 h) h fun v10 =>
 oG (gW v6 false) (some v10) h fun v11 =>
 oG (gW v11 true) (Z2 PP Z8 x5 3) h fun v12 =>
 oG (gW v11 true) (Z1 PP Z0 v12 h) h fun v13 =>
 oG (gW v11 true) (some x8) h fun v14 =>
 oP (gW v11 true) (nilI v14 h) h fun v15 =>
 oG (gW v11 true) (Z2 PP Za v15 3) h fun v16 =>
 oG (gW v11 true) (Z1 PP Z0 v16 h) h fun v17 =>
 oG (gW v11 true) (Z7 PP .neq Z0 v13 v17) h fun v18 =>
 oP (gW v6 false) (Ze v11 v18 (.bool false) h) h fun v19 =>
 oP sT (Ze v6 (.bool true) v19 h) h fun v20 =>
 oV v20 h fun v21 =>
 j3 K x3 x4 x5 x6 x8 v21 h
abbrev j2 : G5 := j2g j3 j6
abbrev q14 (j2 : G5) (K : KT) : QT := Z4 (fun a h => j2 K (a 3) (a 4) (a 5) (a 6) (a 8) h) (q1 K)
def j1g (j2 : G5) (K : KT) (x3 x4 x5 x6 : IV) (h : Heap) : Prop :=
 oD (Z2 PP Z3 x4 2) h fun v1 =>
 oD (Z1 PP Zh v1 h) h fun v2 =>
 oD (Z2 PP Z8 x5 2) h fun v3 =>
 oD (Z1 PP Z0 v3 h) h fun v4 =>
 oD (Zf PP Zh v2 v4 h) h fun v5 =>
 oV v5 h fun v6 =>
 j2 K x3 x4 x5 x6 v6 h
abbrev j1 : G4 := j1g j2
abbrev q15 (j1 : G4) (K : KT) : QT := Z4 (fun a h => j1 K (a 3) (a 4) (a 5) (a 6) h) (q1 K)
def eg (j1 : G4) (K : KT) (x0 x1 x2 : IV) (h : Heap) : Prop :=
 oA (Zi Z6 x0 h) h fun v1 h1 =>
 oA (Zi Z3 x1 h1) h1 fun v2 h2 =>
 oA (Zi Z8 x2 h2) h2 fun v3 h3 =>
 oA (Zp PP Z3 h3) h3 fun v4 h4 =>
 oV (.int .i64 0) h4 fun v5 =>
 j1 K v1 v2 v3 v4 h4
abbrev e : G3 := eg j1
theorem u8 (p : j18 K (a 3) (a 4) (a 6) h) : I c8 (q1 K) a h := ICx.to p
theorem j13_ok (j18 : G3) : I c13 (q3 j18 K) a h = j13g j18 K (a 3) (a 4) (a 6) h := by kernel_rfl
theorem u13 (p : j13 K (a 3) (a 4) (a 6) h) : I c13 (q3 j18 K) a h := ICx.to p (j13_ok j18)
theorem j16_ok (j18 : G3) : I c16 (q3 j18 K) a h = j16g j18 K (a 3) (a 4) (a 5) (a 6) (a 8) h := by kernel_rfl
theorem u16 (p : j16 K (a 3) (a 4) (a 5) (a 6) (a 8) h) : I c16 (q3 j18 K) a h := ICx.to p (j16_ok j18)
theorem j17_ok (j18 : G3) : I c17 (q3 j18 K) a h = j17g j18 K (a 3) (a 4) (a 5) (a 6) (a 8) h := by kernel_rfl
theorem u17 (p : j17 K (a 3) (a 4) (a 5) (a 6) (a 8) h) : I c17 (q3 j18 K) a h := ICx.to p (j17_ok j18)
theorem u15 (p : j15 K (a 3) (a 4) (a 5) (a 6) (a 8) (a 113) h) : I c15 (q3 j18 K) a h := ICx.cnd (o := (Go.Operand.tmp 113)) u16 u17 p
theorem j14_ok (j15 : G6) (j18 : G3) : I c18 (q4 j15 j18 K) a h = j14g j15 j18 K (a 3) (a 4) (a 5) (a 6) (a 8) (a 98) h := by kernel_rfl
theorem u18 (p : j14 K (a 3) (a 4) (a 5) (a 6) (a 8) (a 98) h) : I c18 (q4 j15 j18 K) a h := ICx.to p (j14_ok j15 j18)
theorem u14 (p : j14 K (a 3) (a 4) (a 5) (a 6) (a 8) (a 98) h) : I c14 (q3 j18 K) a h := ICx.sq (fun _ _ => u15) (u18 p)
theorem u12 (p : j12 K (a 3) (a 4) (a 5) (a 6) (a 8) (a 98) (a 107) h) : I c12 (q3 j18 K) a h := ICx.cnd (o := (Go.Operand.tmp 107)) u13 u14 p
theorem j11_ok (j12 : G7) (j18 : G3) : I c19 (q5 j12 j18 K) a h = j11g j12 j18 K (a 3) (a 4) (a 5) (a 6) (a 8) (a 98) h := by kernel_rfl
theorem u19 (p : j11 K (a 3) (a 4) (a 5) (a 6) (a 8) (a 98) h) : I c19 (q5 j12 j18 K) a h := ICx.to p (j11_ok j12 j18)
theorem u11 (p : j11 K (a 3) (a 4) (a 5) (a 6) (a 8) (a 98) h) : I c11 (q3 j18 K) a h := ICx.sq (fun _ _ => u12) (u19 p)
theorem u10 (p : j11 K (a 3) (a 4) (a 5) (a 6) (a 8) (a 98) h) : I c10 (q2 j18 K) a h := ICx.blk (u11 p)
theorem j10_ok (j11 : G6) (j18 : G3) : I c20 (q6 j11 j18 K) a h = j10g j11 j18 K (a 3) (a 4) (a 5) (a 6) (a 8) h := by kernel_rfl
theorem u20 (p : j10 K (a 3) (a 4) (a 5) (a 6) (a 8) h) : I c20 (q6 j11 j18 K) a h := ICx.to p (j10_ok j11 j18)
theorem u9 (p : j10 K (a 3) (a 4) (a 5) (a 6) (a 8) h) : I c9 (q2 j18 K) a h := ICx.sq (fun _ _ => u10) (u20 p)
theorem u7 (p : j10 K (a 3) (a 4) (a 5) (a 6) (a 8) h) : I c7 (q1 K) a h := ICx.sq (fun _ _ => u8) (u9 p)
theorem j9_ok (j10 : G5) : I c21 (q7 j10 K) a h = j9g j10 K (a 3) (a 4) (a 5) (a 6) (a 8) h := by kernel_rfl
theorem u21 (p : j9 K (a 3) (a 4) (a 5) (a 6) (a 8) h) : I c21 (q7 j10 K) a h := ICx.to p (j9_ok j10)
theorem u6 (p : j9 K (a 3) (a 4) (a 5) (a 6) (a 8) h) : I c6 (q1 K) a h := ICx.sq (fun _ _ => u7) (u21 p)
theorem j8_ok (j9 : G5) : I c22 (q8 j9 K) a h = j8g j9 K (a 3) (a 4) (a 5) (a 6) (a 8) h := by kernel_rfl
theorem u22 (p : j8 K (a 3) (a 4) (a 5) (a 6) (a 8) h) : I c22 (q8 j9 K) a h := ICx.to p (j8_ok j9)
theorem u5 (p : j8 K (a 3) (a 4) (a 5) (a 6) (a 8) h) : I c5 (q1 K) a h := ICx.sq (fun _ _ => u6) (u22 p)
theorem j7_ok (j8 : G5) : I c23 (q9 j8 K) a h = j7g j8 K (a 3) (a 4) (a 5) (a 6) (a 8) (a 9) h := by kernel_rfl
theorem u23 (p : j7 K (a 3) (a 4) (a 5) (a 6) (a 8) (a 9) h) : I c23 (q9 j8 K) a h := ICx.to p (j7_ok j8)
theorem u4 (p : j7 K (a 3) (a 4) (a 5) (a 6) (a 8) (a 9) h) : I c4 (q1 K) a h := ICx.sq (fun _ _ => u5) (u23 p)
theorem j6_ok (j7 : G6) : I c24 (q10 j7 K) a h = j6g j7 K (a 3) (a 4) (a 5) (a 6) (a 8) h := by kernel_rfl
theorem u24 (p : j6 K (a 3) (a 4) (a 5) (a 6) (a 8) h) : I c24 (q10 j7 K) a h := ICx.to p (j6_ok j7)
theorem u3 (p : j6 K (a 3) (a 4) (a 5) (a 6) (a 8) h) : I c3 (q1 K) a h := ICx.sq (fun _ _ => u4) (u24 p)
theorem j4_ok (j6 : G5) : I c28 (q12 j6 K) a h = j4g j6 K (a 6) h := by kernel_rfl
theorem u28 (p : j4 K (a 6) h) : I c28 (q12 j6 K) a h := ICx.to p (j4_ok j6)
theorem j5_ok (j6 : G5) : I c29 (q12 j6 K) a h = j5g j6 K (a 3) (a 4) (a 5) (a 6) (a 8) h := by kernel_rfl
theorem u29 (p : j5 K (a 3) (a 4) (a 5) (a 6) (a 8) h) : I c29 (q12 j6 K) a h := ICx.to p (j5_ok j6)
theorem u27 (p : j3 K (a 3) (a 4) (a 5) (a 6) (a 8) (a 15) h) : I c27 (q12 j6 K) a h := ICx.cnd (o := (Go.Operand.tmp 15)) u28 u29 p
theorem j2_ok (j3 : G6) (j6 : G5) : I c30 (q13 j3 j6 K) a h = j2g j3 j6 K (a 3) (a 4) (a 5) (a 6) (a 8) h := by kernel_rfl
theorem u30 (p : j2 K (a 3) (a 4) (a 5) (a 6) (a 8) h) : I c30 (q13 j3 j6 K) a h := ICx.to p (j2_ok j3 j6)
theorem u26 (p : j2 K (a 3) (a 4) (a 5) (a 6) (a 8) h) : I c26 (q12 j6 K) a h := ICx.sq (fun _ _ => u27) (u30 p)
theorem u25 (p : j2 K (a 3) (a 4) (a 5) (a 6) (a 8) h) : I c25 (q11 j6 K) a h := ICx.blk (u26 p)
theorem u2 (p : j2 K (a 3) (a 4) (a 5) (a 6) (a 8) h) : I c2 (q1 K) a h := ICx.sq (fun _ _ => u3) (u25 p)
theorem j1_ok (j2 : G5) : I c31 (q14 j2 K) a h = j1g j2 K (a 3) (a 4) (a 5) (a 6) h := by kernel_rfl
theorem u31 (p : j1 K (a 3) (a 4) (a 5) (a 6) h) : I c31 (q14 j2 K) a h := ICx.to p (j1_ok j2)
theorem u1 (p : j1 K (a 3) (a 4) (a 5) (a 6) h) : I c1 (q1 K) a h := ICx.sq (fun _ _ => u2) (u31 p)
theorem e_ok (j1 : G4) : I c32 (q15 j1 K) a h = eg j1 K (a 0) (a 1) (a 2) h := by kernel_rfl
theorem u32 (p : e K (a 0) (a 1) (a 2) h) : I c32 (q15 j1 K) a h := ICx.to p (e_ok j1)
theorem u0 (p : e K (a 0) (a 1) (a 2) h) : I c0 (q1 K) a h := ICx.sq (fun _ _ => u1) (u32 p)
theorem call {x0 x1 x2 : IV} (p : e K x0 x1 x2 h) : Z5 PP Z3D [x0, x1, x2] h K :=
  ICx.fn Try.mixed Try.func60 rfl (Nat.le_of_ble_eq_true rfl) (u0 (a := actI [x0, x1, x2]) p)
end ZV
namespace Z27
def D : Nat → DI
  | 4 => ⟨[0, 1, 0, 4, 12, 28, 63, 127], [0, 1, 2, 3, 4, 5, 6, 7], []⟩
  | 6 => ⟨[0, 0, 2, 6, 14, 0, 32, 126, 255, 511, 1023], [0, 1, 2, 3, 4, 5, 6, 7, 8, 9, 10], []⟩
  | _ => ⟨[], [], []⟩
abbrev I := ICx PP 43 D
def c0 : Code := bodyN Try.f61
def c1 : Code := cR c0
def c2 : Code := cR c1
def c3 : Code := cR c2
def c4 : Code := cL c2
def c5 : Code := cL c4
def c6 : Code := cR c5
def c7 : Code := cL c6
def c8 : Code := cR c6
def c9 : Code := cL c5
def c10 : Code := cL c1
def c11 : Code := cL c0
abbrev q1 (K : KT) : QT := finK PP Try.f61.results.toList K
def j6 (K : KT) (x2 x3 x4 x6 : IV) (h : Heap) : Prop :=
 oV x6 h fun v1 =>
 oV x6 h fun v2 =>
 oP sT (nilI v2 h) h fun v3 =>
 oD (Z2 PP Za v3 7) h fun v4 =>
 oD (Z1 PP Zu v4 h) h fun v5 =>
 oD (Z2 PP Z8 x3 1) h fun v6 =>
 oD (Z1 PP Z0 v6 h) h fun v7 =>
 Z5 PP Z3R [v5, v7] h fun v8 h1 => oB (True) <|
 oP sT (nilI v1 h1) h1 fun v9 =>
 oD (Z2 PP Za v9 7) h1 fun v10 =>
 oS (Z9 PP Zu v10 v8 h1) h1 fun h2 => oB (True) <|
 oD (Z1 PP Z3 x2 h2) h2 fun v11 =>
 oS (Z9 PP Z3 x4 v11 h2) h2 fun h3 =>
 oV (.int .i64 0) h3 fun v12 =>
 Zd PP [.c x4 Z3, .v v12] h3 K
abbrev q2 (j6 : G4) (K : KT) : QT := Z4 (fun a h => j6 K (a 2) (a 3) (a 4) (a 6) h) (q1 K)
abbrev q3 (j6 : G4) (K : KT) : QT := Zq 0 (q2 j6 K)
def j4g (j6 : G4) (K : KT) (x4 : IV) (h : Heap) : Prop :=
 Z5 PP Zv [.int .i64 4] h fun v1 h1 =>
 oD (Zg v1 0) h1 fun v2 =>
 oD (Zg v1 1) h1 fun v3 =>
 oS (Z9 PP Z3 x4 v2 h1) h1 fun h2 =>
 oV v3 h2 fun v4 =>
 Zd PP [.c x4 Z3, .v v4] h2 K
abbrev j4 : G1 := j4g j6
def j5g (j6 : G4) (K : KT) (x2 x3 x4 x6 : IV) (h : Heap) : Prop :=
 oD (Z2 PP Z8 x3 5) h fun v1 =>
 oD (Z1 PP Z0 v1 h) h fun v2 =>
 oV x6 h fun v3 =>
 oP sT (nilI v3 h) h fun v4 =>
 oD (Z2 PP Za v4 6) h fun v5 =>
 oD (Z1 PP Z0 v5 h) h fun v6 =>
 oD (Z7 PP .neq Z0 v2 v6) h fun v7 =>
 oV v7 h fun v8 =>
 bK' v8
   (Z5 PP Zv [.int .i64 7] h fun v9 h1 =>
   oD (Zg v9 0) h1 fun v10 =>
   oD (Zg v9 1) h1 fun v11 =>
   oS (Z9 PP Z3 x4 v10 h1) h1 fun h2 =>
   oV v11 h2 fun v12 =>
   Zd PP [.c x4 Z3, .v v12] h2 K)
   (j6 K x2 x3 x4 x6 h)
abbrev j5 : G4 := j5g j6
def j3 (K : KT) (x2 x3 x4 x6 x12 : IV) (h : Heap) : Prop := bK' x12 (j4 K x4 h) (j5 K x2 x3 x4 x6 h)
abbrev q4 (j3 : G5) (j6 : G4) (K : KT) : QT := Z4 (fun a h => j3 K (a 2) (a 3) (a 4) (a 6) (a 12) h) (q3 j6 K)
def j2g (j3 : G5) (j6 : G4) (K : KT) (x2 x3 x4 x6 : IV) (h : Heap) : Prop :=
 oV x6 h fun v1 =>
 oP sT (nilI v1 h) h fun v2 =>
 oD (Z2 PP Za v2 0) h fun v3 =>
 oD (Z1 PP Zy v3 h) h fun v4 =>
 oD (unI .not v4) h fun v5 =>
 oV v5 h fun v6 =>
 j3 K x2 x3 x4 x6 v6 h
abbrev j2 : G4 := j2g j3 j6
abbrev q5 (j2 : G4) (K : KT) : QT := Z4 (fun a h => j2 K (a 2) (a 3) (a 4) (a 6) h) (q1 K)
def j1g (j2 : G4) (K : KT) (x2 x3 x4 : IV) (h : Heap) : Prop :=
 oD (Z2 PP Z3 x2 2) h fun v1 =>
 oD (Z1 PP Zh v1 h) h fun v2 =>
 oD (Z2 PP Z8 x3 2) h fun v3 =>
 oD (Z1 PP Z0 v3 h) h fun v4 =>
 oD (Zf PP Zh v2 v4 h) h fun v5 =>
 oV v5 h fun v6 =>
 j2 K x2 x3 x4 v6 h
abbrev j1 : G3 := j1g j2
abbrev q6 (j1 : G3) (K : KT) : QT := Z4 (fun a h => j1 K (a 2) (a 3) (a 4) h) (q1 K)
def eg (j1 : G3) (K : KT) (x0 x1 : IV) (h : Heap) : Prop :=
 oA (Zi Z3 x0 h) h fun v1 h1 =>
 oA (Zi Z8 x1 h1) h1 fun v2 h2 =>
 oA (Zp PP Z3 h2) h2 fun v3 h3 =>
 oV (.int .i64 0) h3 fun v4 =>
 j1 K v1 v2 v3 h3
abbrev e : G2 := eg j1
theorem u3 (p : j6 K (a 2) (a 3) (a 4) (a 6) h) : I c3 (q1 K) a h := ICx.to p
theorem j4_ok (j6 : G4) : I c7 (q3 j6 K) a h = j4g j6 K (a 4) h := by kernel_rfl
theorem u7 (p : j4 K (a 4) h) : I c7 (q3 j6 K) a h := ICx.to p (j4_ok j6)
theorem j5_ok (j6 : G4) : I c8 (q3 j6 K) a h = j5g j6 K (a 2) (a 3) (a 4) (a 6) h := by kernel_rfl
theorem u8 (p : j5 K (a 2) (a 3) (a 4) (a 6) h) : I c8 (q3 j6 K) a h := ICx.to p (j5_ok j6)
theorem u6 (p : j3 K (a 2) (a 3) (a 4) (a 6) (a 12) h) : I c6 (q3 j6 K) a h := ICx.cnd (o := (Go.Operand.tmp 12)) u7 u8 p
theorem j2_ok (j3 : G5) (j6 : G4) : I c9 (q4 j3 j6 K) a h = j2g j3 j6 K (a 2) (a 3) (a 4) (a 6) h := by kernel_rfl
theorem u9 (p : j2 K (a 2) (a 3) (a 4) (a 6) h) : I c9 (q4 j3 j6 K) a h := ICx.to p (j2_ok j3 j6)
theorem u5 (p : j2 K (a 2) (a 3) (a 4) (a 6) h) : I c5 (q3 j6 K) a h := ICx.sq (fun _ _ => u6) (u9 p)
theorem u4 (p : j2 K (a 2) (a 3) (a 4) (a 6) h) : I c4 (q2 j6 K) a h := ICx.blk (u5 p)
theorem u2 (p : j2 K (a 2) (a 3) (a 4) (a 6) h) : I c2 (q1 K) a h := ICx.sq (fun _ _ => u3) (u4 p)
theorem j1_ok (j2 : G4) : I c10 (q5 j2 K) a h = j1g j2 K (a 2) (a 3) (a 4) h := by kernel_rfl
theorem u10 (p : j1 K (a 2) (a 3) (a 4) h) : I c10 (q5 j2 K) a h := ICx.to p (j1_ok j2)
theorem u1 (p : j1 K (a 2) (a 3) (a 4) h) : I c1 (q1 K) a h := ICx.sq (fun _ _ => u2) (u10 p)
theorem e_ok (j1 : G3) : I c11 (q6 j1 K) a h = eg j1 K (a 0) (a 1) h := by kernel_rfl
theorem u11 (p : e K (a 0) (a 1) h) : I c11 (q6 j1 K) a h := ICx.to p (e_ok j1)
theorem u0 (p : e K (a 0) (a 1) h) : I c0 (q1 K) a h := ICx.sq (fun _ _ => u1) (u11 p)
theorem call {x0 x1 : IV} (p : e K x0 x1 h) : Z5 PP Z3E [x0, x1] h K :=
  ICx.fn Try.mixed Try.func61 rfl (Nat.le_of_ble_eq_true rfl) (u0 (a := actI [x0, x1]) p)
end Z27
namespace Z17
def D : Nat → DI
  | 5 => ⟨[0, 1, 0, 4, 12, 28, 63, 127, 255, 511, 255, 1279, 3327, 7423, 16383, 32767, 65535, 131071, 262143, 131071, 655359, 1703935, 3801087, 8388607, 16777215, 33554431], [0, 1, 2, 3, 4, 5, 6, 7, 8, 9, 10, 11, 12, 13, 14, 15, 16, 17, 18, 19, 20, 21, 22, 23, 24, 25], []⟩
  | 11 => ⟨[0, 0, 2, 0, 8, 31, 63, 127, 255, 255, 767, 255, 2303, 6399, 14591, 32767, 65535, 131071, 262143, 262143, 786431, 262143, 2359295, 6553599, 14942207, 33554431, 67108863, 134217727], [0, 1, 2, 3, 4, 5, 6, 7, 8, 9, 10, 11, 12, 13, 14, 15, 16, 17, 18, 19, 20, 21, 22, 23, 24, 25, 26, 27], []⟩
  | _ => ⟨[], [], []⟩
abbrev I := ICx PP 118 D
def c0 : Code := bodyN Try.f62
def c1 : Code := cR c0
def c2 : Code := cR c1
def c3 : Code := cR c2
def c4 : Code := cL c2
def c5 : Code := cL c4
def c6 : Code := cR c5
def c7 : Code := cL c6
def c8 : Code := cR c6
def c9 : Code := cR c8
def c10 : Code := cL c9
def c11 : Code := cR c9
def c12 : Code := cR c11
def c13 : Code := cL c12
def c14 : Code := cR c12
def c15 : Code := cR c14
def c16 : Code := cL c15
def c17 : Code := cR c15
def c18 : Code := cR c17
def c19 : Code := cL c18
def c20 : Code := cR c18
def c21 : Code := cL c17
def c22 : Code := cL c14
def c23 : Code := cL c11
def c24 : Code := cL c8
def c25 : Code := cL c5
def c26 : Code := cL c1
def c27 : Code := cL c0
abbrev q1 (K : KT) : QT := finK PP Try.f62.results.toList K
def j18 (K : KT) (x3 x4 x5 x6 x8 : IV) (h : Heap) : Prop :=
 oV x8 h fun v1 =>
 oD (Z2 PP Z8 x5 3) h fun v2 =>
 oD (Z1 PP Z0 v2 h) h fun v3 =>
 oP sT (nilI v1 h) h fun v4 =>
 oD (Z2 PP Za v4 4) h fun v5 =>
 oS (Z9 PP Z0 v5 v3 h) h fun h1 =>
 oD (Z1 PP Z6 x3 h1) h1 fun v6 =>
 oD (Z1 PP Z3 x4 h1) h1 fun v7 =>
 Z5 PP Z1U [v6, v7] h1 fun v8 h2 =>
 oD (Zg v8 0) h2 fun v9 =>
 oD (Zg v8 1) h2 fun v10 =>
 oS (Z9 PP Z3 x6 v9 h2) h2 fun h3 =>
 oV v10 h3 fun v11 =>
 Zd PP [.c x6 Z3, .v v11] h3 K
abbrev q2 (j18 : G5) (K : KT) : QT := Z4 (fun a h => j18 K (a 3) (a 4) (a 5) (a 6) (a 8) h) (q1 K)
abbrev q3 (j18 : G5) (K : KT) : QT := Zq 0 (q2 j18 K)
def j4g (j18 : G5) (K : KT) (x6 : IV) (h : Heap) : Prop :=
 Z5 PP Zv [.int .i64 4] h fun v1 h1 =>
 oD (Zg v1 0) h1 fun v2 =>
 oD (Zg v1 1) h1 fun v3 =>
 oS (Z9 PP Z3 x6 v2 h1) h1 fun h2 =>
 oV v3 h2 fun v4 =>
 Zd PP [.c x6 Z3, .v v4] h2 K
abbrev j4 : G1 := j4g j18
def j7g (j18 : G5) (K : KT) (x3 x4 x5 x6 x8 : IV) (h : Heap) : Prop :=
 j18 K x3 x4 x5 x6 x8 h
abbrev j7 : G5 := j7g j18
def j10g (j18 : G5) (K : KT) (x6 : IV) (h : Heap) : Prop :=
 Z5 PP Zv [.int .i64 5] h fun v1 h1 =>
 oD (Zg v1 0) h1 fun v2 =>
 oD (Zg v1 1) h1 fun v3 =>
 oS (Z9 PP Z3 x6 v2 h1) h1 fun h2 =>
 oV v3 h2 fun v4 =>
 Zd PP [.c x6 Z3, .v v4] h2 K
abbrev j10 : G1 := j10g j18
def j13g (j18 : G5) (K : KT) (x6 : IV) (h : Heap) : Prop :=
 Z5 PP Zv [.int .i64 6] h fun v1 h1 =>
 oD (Zg v1 0) h1 fun v2 =>
 oD (Zg v1 1) h1 fun v3 =>
 oS (Z9 PP Z3 x6 v2 h1) h1 fun h2 =>
 oV v3 h2 fun v4 =>
 Zd PP [.c x6 Z3, .v v4] h2 K
abbrev j13 : G1 := j13g j18
def j16g (j18 : G5) (K : KT) (x6 : IV) (h : Heap) : Prop :=
 Z5 PP Zv [.int .i64 12] h fun v1 h1 =>
 oD (Zg v1 0) h1 fun v2 =>
 oD (Zg v1 1) h1 fun v3 =>
 oS (Z9 PP Z3 x6 v2 h1) h1 fun h2 =>
 oV v3 h2 fun v4 =>
 Zd PP [.c x6 Z3, .v v4] h2 K
abbrev j16 : G1 := j16g j18
def j17g (j18 : G5) (K : KT) (x3 x4 x5 x6 x8 : IV) (h : Heap) : Prop :=
 oD (Z1 PP Z6 x3 h) h fun v1 =>
 oD (Z2 PP Z8 x5 2) h fun v2 =>
 oD (Z1 PP Z0 v2 h) h fun v3 =>
 oD (Z2 PP Z8 x5 3) h fun v4 =>
 oD (Z1 PP Z0 v4 h) h fun v5 =>
 Z5 PP Z1T [v1, v3, v5] h fun v6 h1 => oB (True) <|
 oD (unI .not v6) h1 fun v7 =>
 oV v7 h1 fun v8 =>
 oG (gW v8 false) (Z1 PP Z6 x3 h1) h1 fun v9 =>
 oG (gW v8 false) (Z2 PP Z8 x5 3) h1 fun v10 =>
 oG (gW v8 false) (Z1 PP Z0 v10 h1) h1 fun v11 =>
 oG (gW v8 false) (some x8) h1 fun v12 =>
 oP (gW v8 false) (nilI v12 h1) h1 fun v13 =>
 oG (gW v8 false) (Z2 PP Za v13 2) h1 fun v14 =>
 oG (gW v8 false) (Z1 PP Z0 v14 h1) h1 fun v15 =>
 Zm PP (gW v8 false) Z26 [v9, v11, v15] h1 fun v16 h2 => oB (True) <|
 oP sT (Ze v8 (.bool true) v16 h2) h2 fun v17 =>
 oV v17 h2 fun v18 =>
 oG (gW v18 false) (Z1 PP Z6 x3 h2) h2 fun v19 =>
 oG (gW v18 false) (Z2 PP Z8 x5 3) h2 fun v20 =>
 oG (gW v18 false) (Z1 PP Z0 v20 h2) h2 fun v21 =>
 oG (gW v18 false) (some x8) h2 fun v22 =>
 oP (gW v18 false) (nilI v22 h2) h2 fun v23 =>
 oG (gW v18 false) (Z2 PP Za v23 5) h2 fun v24 =>
 oG (gW v18 false) (Z1 PP Z0 v24 h2) h2 fun v25 =>
 Zm PP (gW v18 false) Z26 [v19, v21, v25] h2 fun v26 h3 => oB (True) <|
 oP sT (Ze v18 (.bool true) v26 h3) h3 fun v27 =>
 oV v27 h3 fun v28 =>
 bK' v28
   (Z5 PP Zv [.int .i64 11] h3 fun v29 h4 =>
   oD (Zg v29 0) h4 fun v30 =>
   oD (Zg v29 1) h4 fun v31 =>
   oS (Z9 PP Z3 x6 v30 h4) h4 fun h5 =>
   oV v31 h5 fun v32 =>
   Zd PP [.c x6 Z3, .v v32] h5 K)
   (j18 K x3 x4 x5 x6 x8 h3)
abbrev j17 : G5 := j17g j18
def j15 (K : KT) (x3 x4 x5 x6 x8 x68 : IV) (h : Heap) : Prop := bK' x68 (j16 K x6 h) (j17 K x3 x4 x5 x6 x8 h)
abbrev q4 (j15 : G6) (j18 : G5) (K : KT) : QT := Z4 (fun a h => j15 K (a 3) (a 4) (a 5) (a 6) (a 8) (a 68) h) (q3 j18 K)
def j14g (j15 : G6) (j18 : G5) (K : KT) (x3 x4 x5 x6 x8 : IV) (h : Heap) : Prop :=
 oD (Z1 PP Z6 x3 h) h fun v1 =>
 oD (Z1 PP Z3 x4 h) h fun v2 =>
 oD (Z2 PP Z8 x5 3) h fun v3 =>
 oD (Z1 PP Z0 v3 h) h fun v4 =>
 Z5 PP Z2i [v1, v2, v4] h fun v5 h1 =>
 oV v5 h1 fun v6 =>
 j15 K x3 x4 x5 x6 x8 v6 h1
abbrev j14 : G5 := j14g j15 j18
def j12 (K : KT) (x3 x4 x5 x6 x8 x56 : IV) (h : Heap) : Prop := bK' x56 (j13 K x6 h) (j14 K x3 x4 x5 x6 x8 h)
abbrev q5 (j12 : G6) (j18 : G5) (K : KT) : QT := Z4 (fun a h => j12 K (a 3) (a 4) (a 5) (a 6) (a 8) (a 56) h) (q3 j18 K)
def j11g (j12 : G6) (j18 : G5) (K : KT) (x3 x4 x5 x6 x8 : IV) (h : Heap) : Prop :=
 oD (Z2 PP Z3 x4 3) h fun v1 =>
 oD (Z1 PP Zl v1 h) h fun v2 =>
 oD (Z2 PP Z8 x5 3) h fun v3 =>
 oD (Z1 PP Z0 v3 h) h fun v4 =>
 oD (Zf PP Zl v2 v4 h) h fun v5 =>
 oD (Z2 PP Zj v5 0) h fun v6 =>
 oD (Z1 PP Z0 v6 h) h fun v7 =>
 oD (Z7 PP .neq Z0 v7 (.int .i64 1)) h fun v8 =>
 oV v8 h fun v9 =>
 j12 K x3 x4 x5 x6 x8 v9 h
abbrev j11 : G5 := j11g j12 j18
def j9 (K : KT) (x3 x4 x5 x6 x8 x27 : IV) (h : Heap) : Prop := bK' x27 (j10 K x6 h) (j11 K x3 x4 x5 x6 x8 h)
abbrev q6 (j9 : G6) (j18 : G5) (K : KT) : QT := Z4 (fun a h => j9 K (a 3) (a 4) (a 5) (a 6) (a 8) (a 27) h) (q3 j18 K)
def j8g (j9 : G6) (j18 : G5) (K : KT) (x3 x4 x5 x6 x8 : IV) (h : Heap) : Prop :=
 oD (Z2 PP Z8 x5 3) h fun v1 =>
 oD (Z1 PP Z0 v1 h) h fun v2 =>
 oV x8 h fun v3 =>
 oP sT (nilI v3 h) h fun v4 =>
 oD (Z2 PP Za v4 2) h fun v5 =>
 oD (Z1 PP Z0 v5 h) h fun v6 =>
 oD (Z7 PP .eql Z0 v2 v6) h fun v7 =>
 oV v7 h fun v8 =>
 oG (gW v8 false) (Z2 PP Z8 x5 3) h fun v9 =>
 oG (gW v8 false) (Z1 PP Z0 v9 h) h fun v10 =>
 oG (gW v8 false) (some x8) h fun v11 =>
 oP (gW v8 false) (nilI v11 h) h fun v12 =>
 oG (gW v8 false) (Z2 PP Za v12 3) h fun v13 =>
 oG (gW v8 false) (Z1 PP Z0 v13 h) h fun v14 =>
 oG (gW v8 false) (Z7 PP .eql Z0 v10 v14) h fun v15 =>
 oP sT (Ze v8 (.bool true) v15 h) h fun v16 =>
 oV v16 h fun v17 =>
 oG (gW v17 false) (Z2 PP Z8 x5 3) h fun v18 =>
 oG (gW v17 false) (Z1 PP Z0 v18 h) h fun v19 =>
 oG (gW v17 false) (some x8) h fun v20 =>
 oP (gW v17 false) (nilI v20 h) h fun v21 =>
 oG (gW v17 false) (Z2 PP Za v21 5) h fun v22 =>
 oG (gW v17 false) (Z1 PP Z0 v22 h) h fun v23 =>
 oG (gW v17 false) (Z7 PP .eql Z0 v19 v23) h fun v24 =>
 oP sT (Ze v17 (.bool true) v24 h) h fun v25 =>
 oV v25 h fun v26 =>
 j9 K x3 x4 x5 x6 x8 v26 h
abbrev j8 : G5 := j8g j9 j18
def j6 (K : KT) (x3 x4 x5 x6 x8 x23 : IV) (h : Heap) : Prop := bK' x23 (j7 K x3 x4 x5 x6 x8 h) (j8 K x3 x4 x5 x6 x8 h)
abbrev q7 (j6 : G6) (j18 : G5) (K : KT) : QT := Z4 (fun a h => j6 K (a 3) (a 4) (a 5) (a 6) (a 8) (a 23) h) (q3 j18 K)
def j5g (j6 : G6) (j18 : G5) (K : KT) (x3 x4 x5 x6 x8 : IV) (h : Heap) : Prop :=
 oD (Z2 PP Z8 x5 3) h fun v1 =>
 oD (Z1 PP Z0 v1 h) h fun v2 =>
 oD (Z7 PP .lss Z0 v2 (.int .i64 0)) h fun v3 =>
 oV v3 h fun v4 =>
 j6 K x3 x4 x5 x6 x8 v4 h
abbrev j5 : G5 := j5g j6 j18
def j3 (K : KT) (x3 x4 x5 x6 x8 x14 : IV) (h : Heap) : Prop := bK' x14 (j4 K x6 h) (j5 K x3 x4 x5 x6 x8 h)
abbrev q8 (j3 : G6) (j18 : G5) (K : KT) : QT := Z4 (fun a h => j3 K (a 3) (a 4) (a 5) (a 6) (a 8) (a 14) h) (q3 j18 K)
def j2g (j3 : G6) (j18 : G5) (K : KT) (x3 x4 x5 x6 x8 : IV) (h : Heap) : Prop :=
 oV x8 h fun v1 =>
 oP sT (nilI v1 h) h fun v2 =>
 oD (Z2 PP Za v2 0) h fun v3 =>
 oD (Z1 PP Zy v3 h) h fun v4 =>
 oD (unI .not v4) h fun v5 =>
 oV v5 h fun v6 =>
 j3 K x3 x4 x5 x6 x8 v6 h
abbrev j2 : G5 := j2g j3 j18
abbrev q9 (j2 : G5) (K : KT) : QT := Z4 (fun a h => j2 K (a 3) (a 4) (a 5) (a 6) (a 8) h) (q1 K)
def j1g (j2 : G5) (K : KT) (x3 x4 x5 x6 : IV) (h : Heap) : Prop :=
 oD (Z2 PP Z3 x4 2) h fun v1 =>
 oD (Z1 PP Zh v1 h) h fun v2 =>
 oD (Z2 PP Z8 x5 2) h fun v3 =>
 oD (Z1 PP Z0 v3 h) h fun v4 =>
 oD (Zf PP Zh v2 v4 h) h fun v5 =>
 oV v5 h fun v6 =>
 j2 K x3 x4 x5 x6 v6 h
abbrev j1 : G4 := j1g j2
abbrev q10 (j1 : G4) (K : KT) : QT := Z4 (fun a h => j1 K (a 3) (a 4) (a 5) (a 6) h) (q1 K)
def eg (j1 : G4) (K : KT) (x0 x1 x2 : IV) (h : Heap) : Prop :=
 oA (Zi Z6 x0 h) h fun v1 h1 =>
 oA (Zi Z3 x1 h1) h1 fun v2 h2 =>
 oA (Zi Z8 x2 h2) h2 fun v3 h3 =>
 oA (Zp PP Z3 h3) h3 fun v4 h4 =>
 oV (.int .i64 0) h4 fun v5 =>
 j1 K v1 v2 v3 v4 h4
abbrev e : G3 := eg j1
theorem u3 (p : j18 K (a 3) (a 4) (a 5) (a 6) (a 8) h) : I c3 (q1 K) a h := ICx.to p
theorem j4_ok (j18 : G5) : I c7 (q3 j18 K) a h = j4g j18 K (a 6) h := by kernel_rfl
theorem u7 (p : j4 K (a 6) h) : I c7 (q3 j18 K) a h := ICx.to p (j4_ok j18)
theorem j7_ok (j18 : G5) : I c10 (q3 j18 K) a h = j7g j18 K (a 3) (a 4) (a 5) (a 6) (a 8) h := by kernel_rfl
theorem u10 (p : j7 K (a 3) (a 4) (a 5) (a 6) (a 8) h) : I c10 (q3 j18 K) a h := ICx.to p (j7_ok j18)
theorem j10_ok (j18 : G5) : I c13 (q3 j18 K) a h = j10g j18 K (a 6) h := by kernel_rfl
theorem u13 (p : j10 K (a 6) h) : I c13 (q3 j18 K) a h := ICx.to p (j10_ok j18)
theorem j13_ok (j18 : G5) : I c16 (q3 j18 K) a h = j13g j18 K (a 6) h := by kernel_rfl
theorem u16 (p : j13 K (a 6) h) : I c16 (q3 j18 K) a h := ICx.to p (j13_ok j18)
theorem j16_ok (j18 : G5) : I c19 (q3 j18 K) a h = j16g j18 K (a 6) h := by kernel_rfl
theorem u19 (p : j16 K (a 6) h) : I c19 (q3 j18 K) a h := ICx.to p (j16_ok j18)
theorem j17_ok (j18 : G5) : I c20 (q3 j18 K) a h = j17g j18 K (a 3) (a 4) (a 5) (a 6) (a 8) h := by kernel_rfl
theorem u20 (p : j17 K (a 3) (a 4) (a 5) (a 6) (a 8) h) : I c20 (q3 j18 K) a h := ICx.to p (j17_ok j18)
theorem u18 (p : j15 K (a 3) (a 4) (a 5) (a 6) (a 8) (a 68) h) : I c18 (q3 j18 K) a h := ICx.cnd (o := (Go.Operand.tmp 68)) u19 u20 p
theorem j14_ok (j15 : G6) (j18 : G5) : I c21 (q4 j15 j18 K) a h = j14g j15 j18 K (a 3) (a 4) (a 5) (a 6) (a 8) h := by kernel_rfl
theorem u21 (p : j14 K (a 3) (a 4) (a 5) (a 6) (a 8) h) : I c21 (q4 j15 j18 K) a h := ICx.to p (j14_ok j15 j18)
theorem u17 (p : j14 K (a 3) (a 4) (a 5) (a 6) (a 8) h) : I c17 (q3 j18 K) a h := ICx.sq (fun _ _ => u18) (u21 p)
theorem u15 (p : j12 K (a 3) (a 4) (a 5) (a 6) (a 8) (a 56) h) : I c15 (q3 j18 K) a h := ICx.cnd (o := (Go.Operand.tmp 56)) u16 u17 p
theorem j11_ok (j12 : G6) (j18 : G5) : I c22 (q5 j12 j18 K) a h = j11g j12 j18 K (a 3) (a 4) (a 5) (a 6) (a 8) h := by kernel_rfl
theorem u22 (p : j11 K (a 3) (a 4) (a 5) (a 6) (a 8) h) : I c22 (q5 j12 j18 K) a h := ICx.to p (j11_ok j12 j18)
theorem u14 (p : j11 K (a 3) (a 4) (a 5) (a 6) (a 8) h) : I c14 (q3 j18 K) a h := ICx.sq (fun _ _ => u15) (u22 p)
theorem u12 (p : j9 K (a 3) (a 4) (a 5) (a 6) (a 8) (a 27) h) : I c12 (q3 j18 K) a h := ICx.cnd (o := (Go.Operand.tmp 27)) u13 u14 p
theorem j8_ok (j9 : G6) (j18 : G5) : I c23 (q6 j9 j18 K) a h = j8g j9 j18 K (a 3) (a 4) (a 5) (a 6) (a 8) h := by kernel_rfl
theorem u23 (p : j8 K (a 3) (a 4) (a 5) (a 6) (a 8) h) : I c23 (q6 j9 j18 K) a h := ICx.to p (j8_ok j9 j18)
theorem u11 (p : j8 K (a 3) (a 4) (a 5) (a 6) (a 8) h) : I c11 (q3 j18 K) a h := ICx.sq (fun _ _ => u12) (u23 p)
theorem u9 (p : j6 K (a 3) (a 4) (a 5) (a 6) (a 8) (a 23) h) : I c9 (q3 j18 K) a h := ICx.cnd (o := (Go.Operand.tmp 23)) u10 u11 p
theorem j5_ok (j6 : G6) (j18 : G5) : I c24 (q7 j6 j18 K) a h = j5g j6 j18 K (a 3) (a 4) (a 5) (a 6) (a 8) h := by kernel_rfl
theorem u24 (p : j5 K (a 3) (a 4) (a 5) (a 6) (a 8) h) : I c24 (q7 j6 j18 K) a h := ICx.to p (j5_ok j6 j18)
theorem u8 (p : j5 K (a 3) (a 4) (a 5) (a 6) (a 8) h) : I c8 (q3 j18 K) a h := ICx.sq (fun _ _ => u9) (u24 p)
theorem u6 (p : j3 K (a 3) (a 4) (a 5) (a 6) (a 8) (a 14) h) : I c6 (q3 j18 K) a h := ICx.cnd (o := (Go.Operand.tmp 14)) u7 u8 p
theorem j2_ok (j3 : G6) (j18 : G5) : I c25 (q8 j3 j18 K) a h = j2g j3 j18 K (a 3) (a 4) (a 5) (a 6) (a 8) h := by kernel_rfl
theorem u25 (p : j2 K (a 3) (a 4) (a 5) (a 6) (a 8) h) : I c25 (q8 j3 j18 K) a h := ICx.to p (j2_ok j3 j18)
theorem u5 (p : j2 K (a 3) (a 4) (a 5) (a 6) (a 8) h) : I c5 (q3 j18 K) a h := ICx.sq (fun _ _ => u6) (u25 p)
theorem u4 (p : j2 K (a 3) (a 4) (a 5) (a 6) (a 8) h) : I c4 (q2 j18 K) a h := ICx.blk (u5 p)
theorem u2 (p : j2 K (a 3) (a 4) (a 5) (a 6) (a 8) h) : I c2 (q1 K) a h := ICx.sq (fun _ _ => u3) (u4 p)
theorem j1_ok (j2 : G5) : I c26 (q9 j2 K) a h = j1g j2 K (a 3) (a 4) (a 5) (a 6) h := by kernel_rfl
theorem u26 (p : j1 K (a 3) (a 4) (a 5) (a 6) h) : I c26 (q9 j2 K) a h := ICx.to p (j1_ok j2)
theorem u1 (p : j1 K (a 3) (a 4) (a 5) (a 6) h) : I c1 (q1 K) a h := ICx.sq (fun _ _ => u2) (u26 p)
theorem e_ok (j1 : G4) : I c27 (q10 j1 K) a h = eg j1 K (a 0) (a 1) (a 2) h := by kernel_rfl
theorem u27 (p : e K (a 0) (a 1) (a 2) h) : I c27 (q10 j1 K) a h := ICx.to p (e_ok j1)
theorem u0 (p : e K (a 0) (a 1) (a 2) h) : I c0 (q1 K) a h := ICx.sq (fun _ _ => u1) (u27 p)
theorem call {x0 x1 x2 : IV} (p : e K x0 x1 x2 h) : Z5 PP Z3F [x0, x1, x2] h K :=
  ICx.fn Try.mixed Try.func62 rfl (Nat.le_of_ble_eq_true rfl) (u0 (a := actI [x0, x1, x2]) p)
end Z17
namespace Z1J
def D : Nat → DI
  | 4 => ⟨[0, 1, 0, 4, 12, 28, 63, 127], [0, 1, 2, 3, 4, 5, 6, 7], []⟩
  | _ => ⟨[], [], []⟩
abbrev I := ICx PP 53 D
def c0 : Code := bodyN Try.f63
def c1 : Code := cR c0
def c2 : Code := cR c1
def c3 : Code := cR c2
def c4 : Code := cL c2
def c5 : Code := cL c4
def c6 : Code := cR c5
def c7 : Code := cL c6
def c8 : Code := cR c6
def c9 : Code := cR c8
def c10 : Code := cL c9
def c11 : Code := cR c9
def c12 : Code := cL c8
def c13 : Code := cL c5
def c14 : Code := cL c1
def c15 : Code := cL c0
abbrev q1 (K : KT) : QT := finK PP Try.f63.results.toList K
def j9 (K : KT) (x2 x3 x4 x6 : IV) (h : Heap) : Prop :=
 oV x6 h fun v1 =>
 oV x6 h fun v2 =>
 oD (Z2 PP Z8 x3 3) h fun v3 =>
 oD (Z1 PP Z0 v3 h) h fun v4 =>
 oP sT (nilI v1 h) h fun v5 =>
 oD (Z2 PP Za v5 3) h fun v6 =>
 oS (Z9 PP Z0 v6 v4 h) h fun h1 =>
 oP sT (nilI v2 h1) h1 fun v7 =>
 oD (Z2 PP Za v7 4) h1 fun v8 =>
 oS (Z9 PP Z0 v8 (.int .i64 (-1)) h1) h1 fun h2 =>
 oD (Z1 PP Z3 x2 h2) h2 fun v9 =>
 oS (Z9 PP Z3 x4 v9 h2) h2 fun h3 =>
 oV (.int .i64 0) h3 fun v10 =>
 Zd PP [.c x4 Z3, .v v10] h3 K
abbrev q2 (j9 : G4) (K : KT) : QT := Z4 (fun a h => j9 K (a 2) (a 3) (a 4) (a 6) h) (q1 K)
abbrev q3 (j9 : G4) (K : KT) : QT := Zq 0 (q2 j9 K)
def j4g (j9 : G4) (K : KT) (x4 : IV) (h : Heap) : Prop :=
 Z5 PP Zv [.int .i64 4] h fun v1 h1 =>
 oD (Zg v1 0) h1 fun v2 =>
 oD (Zg v1 1) h1 fun v3 =>
 oS (Z9 PP Z3 x4 v2 h1) h1 fun h2 =>
 oV v3 h2 fun v4 =>
 Zd PP [.c x4 Z3, .v v4] h2 K
abbrev j4 : G1 := j4g j9
def j7g (j9 : G4) (K : KT) (x4 : IV) (h : Heap) : Prop :=
 Z5 PP Zv [.int .i64 5] h fun v1 h1 =>
 oD (Zg v1 0) h1 fun v2 =>
 oD (Zg v1 1) h1 fun v3 =>
 oS (Z9 PP Z3 x4 v2 h1) h1 fun h2 =>
 oV v3 h2 fun v4 =>
 Zd PP [.c x4 Z3, .v v4] h2 K
abbrev j7 : G1 := j7g j9
def j8g (j9 : G4) (K : KT) (x2 x3 x4 x6 : IV) (h : Heap) : Prop :=
 oD (Z2 PP Z3 x2 3) h fun v1 =>
 oD (Z1 PP Zl v1 h) h fun v2 =>
 oD (Z2 PP Z8 x3 3) h fun v3 =>
 oD (Z1 PP Z0 v3 h) h fun v4 =>
 oD (Zf PP Zl v2 v4 h) h fun v5 =>
 oD (Z2 PP Zj v5 0) h fun v6 =>
 oD (Z1 PP Z0 v6 h) h fun v7 =>
 oD (Z7 PP .eql Z0 v7 (.int .i64 3)) h fun v8 =>
 oV v8 h fun v9 =>
 bK' v9
   (Z5 PP Zv [.int .i64 6] h fun v10 h1 =>
   oD (Zg v10 0) h1 fun v11 =>
   oD (Zg v10 1) h1 fun v12 =>
   oS (Z9 PP Z3 x4 v11 h1) h1 fun h2 =>
   oV v12 h2 fun v13 =>
   Zd PP [.c x4 Z3, .v v13] h2 K)
   (j9 K x2 x3 x4 x6 h)
abbrev j8 : G4 := j8g j9
def j6 (K : KT) (x2 x3 x4 x6 x21 : IV) (h : Heap) : Prop := bK' x21 (j7 K x4 h) (j8 K x2 x3 x4 x6 h)
abbrev q4 (j6 : G5) (j9 : G4) (K : KT) : QT := Z4 (fun a h => j6 K (a 2) (a 3) (a 4) (a 6) (a 21) h) (q3 j9 K)
def j5g (j6 : G5) (j9 : G4) (K : KT) (x2 x3 x4 x6 : IV) (h : Heap) : Prop :=
 oD (Z2 PP Z8 x3 3) h fun v1 =>
 oD (Z1 PP Z0 v1 h) h fun v2 =>
 oV x6 h fun v3 =>
 oP sT (nilI v3 h) h fun v4 =>
 oD (Z2 PP Za v4 4) h fun v5 =>
 oD (Z1 PP Z0 v5 h) h fun v6 =>
 oD (Z7 PP .neq Z0 v2 v6) h fun v7 =>
 oV v7 h fun v8 =>
 j6 K x2 x3 x4 x6 v8 h
abbrev j5 : G4 := j5g j6 j9
def j3 (K : KT) (x2 x3 x4 x6 x12 : IV) (h : Heap) : Prop := bK' x12 (j4 K x4 h) (j5 K x2 x3 x4 x6 h)
abbrev q5 (j3 : G5) (j9 : G4) (K : KT) : QT := Z4 (fun a h => j3 K (a 2) (a 3) (a 4) (a 6) (a 12) h) (q3 j9 K)
def j2g (j3 : G5) (j9 : G4) (K : KT) (x2 x3 x4 x6 : IV) (h : Heap) : Prop :=
 oV x6 h fun v1 =>
 oP sT (nilI v1 h) h fun v2 =>
 oD (Z2 PP Za v2 0) h fun v3 =>
 oD (Z1 PP Zy v3 h) h fun v4 =>
 oD (unI .not v4) h fun v5 =>
 oV v5 h fun v6 =>
 j3 K x2 x3 x4 x6 v6 h
abbrev j2 : G4 := j2g j3 j9
abbrev q6 (j2 : G4) (K : KT) : QT := Z4 (fun a h => j2 K (a 2) (a 3) (a 4) (a 6) h) (q1 K)
def j1g (j2 : G4) (K : KT) (x2 x3 x4 : IV) (h : Heap) : Prop :=
 oD (Z2 PP Z3 x2 2) h fun v1 =>
 oD (Z1 PP Zh v1 h) h fun v2 =>
 oD (Z2 PP Z8 x3 2) h fun v3 =>
 oD (Z1 PP Z0 v3 h) h fun v4 =>
 oD (Zf PP Zh v2 v4 h) h fun v5 =>
 oV v5 h fun v6 =>
 j2 K x2 x3 x4 v6 h
abbrev j1 : G3 := j1g j2
abbrev q7 (j1 : G3) (K : KT) : QT := Z4 (fun a h => j1 K (a 2) (a 3) (a 4) h) (q1 K)
def eg (j1 : G3) (K : KT) (x0 x1 : IV) (h : Heap) : Prop :=
 oA (Zi Z3 x0 h) h fun v1 h1 =>
 oA (Zi Z8 x1 h1) h1 fun v2 h2 =>
 oA (Zp PP Z3 h2) h2 fun v3 h3 =>
 oV (.int .i64 0) h3 fun v4 =>
 j1 K v1 v2 v3 h3
abbrev e : G2 := eg j1
theorem u3 (p : j9 K (a 2) (a 3) (a 4) (a 6) h) : I c3 (q1 K) a h := ICx.to p
theorem j4_ok (j9 : G4) : I c7 (q3 j9 K) a h = j4g j9 K (a 4) h := by kernel_rfl
theorem u7 (p : j4 K (a 4) h) : I c7 (q3 j9 K) a h := ICx.to p (j4_ok j9)
theorem j7_ok (j9 : G4) : I c10 (q3 j9 K) a h = j7g j9 K (a 4) h := by kernel_rfl
theorem u10 (p : j7 K (a 4) h) : I c10 (q3 j9 K) a h := ICx.to p (j7_ok j9)
theorem j8_ok (j9 : G4) : I c11 (q3 j9 K) a h = j8g j9 K (a 2) (a 3) (a 4) (a 6) h := by kernel_rfl
theorem u11 (p : j8 K (a 2) (a 3) (a 4) (a 6) h) : I c11 (q3 j9 K) a h := ICx.to p (j8_ok j9)
theorem u9 (p : j6 K (a 2) (a 3) (a 4) (a 6) (a 21) h) : I c9 (q3 j9 K) a h := ICx.cnd (o := (Go.Operand.tmp 21)) u10 u11 p
theorem j5_ok (j6 : G5) (j9 : G4) : I c12 (q4 j6 j9 K) a h = j5g j6 j9 K (a 2) (a 3) (a 4) (a 6) h := by kernel_rfl
theorem u12 (p : j5 K (a 2) (a 3) (a 4) (a 6) h) : I c12 (q4 j6 j9 K) a h := ICx.to p (j5_ok j6 j9)
theorem u8 (p : j5 K (a 2) (a 3) (a 4) (a 6) h) : I c8 (q3 j9 K) a h := ICx.sq (fun _ _ => u9) (u12 p)
theorem u6 (p : j3 K (a 2) (a 3) (a 4) (a 6) (a 12) h) : I c6 (q3 j9 K) a h := ICx.cnd (o := (Go.Operand.tmp 12)) u7 u8 p
theorem j2_ok (j3 : G5) (j9 : G4) : I c13 (q5 j3 j9 K) a h = j2g j3 j9 K (a 2) (a 3) (a 4) (a 6) h := by kernel_rfl
theorem u13 (p : j2 K (a 2) (a 3) (a 4) (a 6) h) : I c13 (q5 j3 j9 K) a h := ICx.to p (j2_ok j3 j9)
theorem u5 (p : j2 K (a 2) (a 3) (a 4) (a 6) h) : I c5 (q3 j9 K) a h := ICx.sq (fun _ _ => u6) (u13 p)
theorem u4 (p : j2 K (a 2) (a 3) (a 4) (a 6) h) : I c4 (q2 j9 K) a h := ICx.blk (u5 p)
theorem u2 (p : j2 K (a 2) (a 3) (a 4) (a 6) h) : I c2 (q1 K) a h := ICx.sq (fun _ _ => u3) (u4 p)
theorem j1_ok (j2 : G4) : I c14 (q6 j2 K) a h = j1g j2 K (a 2) (a 3) (a 4) h := by kernel_rfl
theorem u14 (p : j1 K (a 2) (a 3) (a 4) h) : I c14 (q6 j2 K) a h := ICx.to p (j1_ok j2)
theorem u1 (p : j1 K (a 2) (a 3) (a 4) h) : I c1 (q1 K) a h := ICx.sq (fun _ _ => u2) (u14 p)
theorem e_ok (j1 : G3) : I c15 (q7 j1 K) a h = eg j1 K (a 0) (a 1) h := by kernel_rfl
theorem u15 (p : e K (a 0) (a 1) h) : I c15 (q7 j1 K) a h := ICx.to p (e_ok j1)
theorem u0 (p : e K (a 0) (a 1) h) : I c0 (q1 K) a h := ICx.sq (fun _ _ => u1) (u15 p)
theorem call {x0 x1 : IV} (p : e K x0 x1 h) : Z5 PP Z3G [x0, x1] h K :=
  ICx.fn Try.mixed Try.func63 rfl (Nat.le_of_ble_eq_true rfl) (u0 (a := actI [x0, x1]) p)
end Z1J
namespace Z1h
def D : Nat → DI
  | 4 => ⟨[0, 1, 0, 4, 12, 28, 63, 127, 255, 511, 255, 1279, 3327, 7423, 16383, 32767, 65535, 131071, 262143, 131071, 655359, 1703935, 3801087, 8388607, 16777215, 33554431], [0, 1, 2, 3, 4, 5, 6, 7, 8, 9, 10, 11, 12, 13, 14, 15, 16, 17, 18, 19, 20, 21, 22, 23, 24, 25], []⟩
  | 10 => ⟨[0, 0, 2, 0, 8, 31, 63, 127, 255, 255, 767, 255, 2303, 6399, 14591, 32767, 65535, 131071, 262143, 262143, 786431, 262143, 2359295, 6553599, 14942207, 33554431, 67108863, 134217727], [0, 1, 2, 3, 4, 5, 6, 7, 8, 9, 10, 11, 12, 13, 14, 15, 16, 17, 18, 19, 20, 21, 22, 23, 24, 25, 26, 27], []⟩
  | _ => ⟨[], [], []⟩
abbrev I := ICx PP 127 D
def c0 : Code := bodyN Try.f64
def c1 : Code := cR c0
def c2 : Code := cR c1
def c3 : Code := cR c2
def c4 : Code := cL c2
def c5 : Code := cL c4
def c6 : Code := cR c5
def c7 : Code := cL c6
def c8 : Code := cR c6
def c9 : Code := cR c8
def c10 : Code := cL c9
def c11 : Code := cR c9
def c12 : Code := cR c11
def c13 : Code := cL c12
def c14 : Code := cR c12
def c15 : Code := cR c14
def c16 : Code := cL c15
def c17 : Code := cR c15
def c18 : Code := cL c14
def c19 : Code := cL c11
def c20 : Code := cL c8
def c21 : Code := cL c5
def c22 : Code := cL c1
def c23 : Code := cL c0
abbrev q1 (K : KT) : QT := finK PP Try.f64.results.toList K
def j15 (K : KT) (x3 x4 x5 x6 x8 : IV) (h : Heap) : Prop :=
 oV x8 h fun v1 =>
 oD (Z2 PP Z8 x5 3) h fun v2 =>
 oD (Z1 PP Z0 v2 h) h fun v3 =>
 oP sT (nilI v1 h) h fun v4 =>
 oD (Z2 PP Za v4 5) h fun v5 =>
 oS (Z9 PP Z0 v5 v3 h) h fun h1 =>
 oD (Z1 PP Z6 x3 h1) h1 fun v6 =>
 oD (Z1 PP Z3 x4 h1) h1 fun v7 =>
 Z5 PP Z1U [v6, v7] h1 fun v8 h2 =>
 oD (Zg v8 0) h2 fun v9 =>
 oD (Zg v8 1) h2 fun v10 =>
 oS (Z9 PP Z3 x6 v9 h2) h2 fun h3 =>
 oV v10 h3 fun v11 =>
 Zd PP [.c x6 Z3, .v v11] h3 K
abbrev q2 (j15 : G5) (K : KT) : QT := Z4 (fun a h => j15 K (a 3) (a 4) (a 5) (a 6) (a 8) h) (q1 K)
abbrev q3 (j15 : G5) (K : KT) : QT := Zq 0 (q2 j15 K)
def j4g (j15 : G5) (K : KT) (x6 : IV) (h : Heap) : Prop :=
 Z5 PP Zv [.int .i64 4] h fun v1 h1 =>
 oD (Zg v1 0) h1 fun v2 =>
 oD (Zg v1 1) h1 fun v3 =>
 oS (Z9 PP Z3 x6 v2 h1) h1 fun h2 =>
 oV v3 h2 fun v4 =>
 Zd PP [.c x6 Z3, .v v4] h2 K
abbrev j4 : G1 := j4g j15
def j7g (j15 : G5) (K : KT) (x6 : IV) (h : Heap) : Prop :=
 Z5 PP Zv [.int .i64 5] h fun v1 h1 =>
 oD (Zg v1 0) h1 fun v2 =>
 oD (Zg v1 1) h1 fun v3 =>
 oS (Z9 PP Z3 x6 v2 h1) h1 fun h2 =>
 oV v3 h2 fun v4 =>
 Zd PP [.c x6 Z3, .v v4] h2 K
abbrev j7 : G1 := j7g j15
def j10g (j15 : G5) (K : KT) (x6 : IV) (h : Heap) : Prop :=
 Z5 PP Zv [.int .i64 6] h fun v1 h1 =>
 oD (Zg v1 0) h1 fun v2 =>
 oD (Zg v1 1) h1 fun v3 =>
 oS (Z9 PP Z3 x6 v2 h1) h1 fun h2 =>
 oV v3 h2 fun v4 =>
 Zd PP [.c x6 Z3, .v v4] h2 K
abbrev j10 : G1 := j10g j15
def j13g (j15 : G5) (K : KT) (x6 : IV) (h : Heap) : Prop :=
 Z5 PP Zv [.int .i64 12] h fun v1 h1 =>
 oD (Zg v1 0) h1 fun v2 =>
 oD (Zg v1 1) h1 fun v3 =>
 oS (Z9 PP Z3 x6 v2 h1) h1 fun h2 =>
 oV v3 h2 fun v4 =>
 Zd PP [.c x6 Z3, .v v4] h2 K
abbrev j13 : G1 := j13g j15
def j14g (j15 : G5) (K : KT) (x3 x4 x5 x6 x8 : IV) (h : Heap) : Prop :=
 oD (Z1 PP Z6 x3 h) h fun v1 =>
 oD (Z2 PP Z8 x5 2) h fun v2 =>
 oD (Z1 PP Z0 v2 h) h fun v3 =>
 oD (Z2 PP Z8 x5 3) h fun v4 =>
 oD (Z1 PP Z0 v4 h) h fun v5 =>
 Z5 PP Z1T [v1, v3, v5] h fun v6 h1 => oB (True) <|
 oD (unI .not v6) h1 fun v7 =>
 oV v7 h1 fun v8 =>
 oG (gW v8 false) (Z1 PP Z6 x3 h1) h1 fun v9 =>
 oG (gW v8 false) (Z2 PP Z8 x5 3) h1 fun v10 =>
 oG (gW v8 false) (Z1 PP Z0 v10 h1) h1 fun v11 =>
 oG (gW v8 false) (some x8) h1 fun v12 =>
 oP (gW v8 false) (nilI v12 h1) h1 fun v13 =>
 oG (gW v8 false) (Z2 PP Za v13 3) h1 fun v14 =>
 oG (gW v8 false) (Z1 PP Z0 v14 h1) h1 fun v15 =>
 Zm PP (gW v8 false) Z26 [v9, v11, v15] h1 fun v16 h2 => oB (True) <|
 oP sT (Ze v8 (.bool true) v16 h2) h2 fun v17 =>
 oV v17 h2 fun v18 =>
 oG (gW v18 false) (Z1 PP Z6 x3 h2) h2 fun v19 =>
 oG (gW v18 false) (Z2 PP Z8 x5 3) h2 fun v20 =>
 oG (gW v18 false) (Z1 PP Z0 v20 h2) h2 fun v21 =>
 oG (gW v18 false) (some x8) h2 fun v22 =>
 oP (gW v18 false) (nilI v22 h2) h2 fun v23 =>
 oG (gW v18 false) (Z2 PP Za v23 4) h2 fun v24 =>
 oG (gW v18 false) (Z1 PP Z0 v24 h2) h2 fun v25 =>
 Zm PP (gW v18 false) Z26 [v19, v21, v25] h2 fun v26 h3 => oB (True) <|
 oP sT (Ze v18 (.bool true) v26 h3) h3 fun v27 =>
 oV v27 h3 fun v28 =>
 bK' v28
   (Z5 PP Zv [.int .i64 11] h3 fun v29 h4 =>
   oD (Zg v29 0) h4 fun v30 =>
   oD (Zg v29 1) h4 fun v31 =>
   oS (Z9 PP Z3 x6 v30 h4) h4 fun h5 =>
   oV v31 h5 fun v32 =>
   Zd PP [.c x6 Z3, .v v32] h5 K)
   (j15 K x3 x4 x5 x6 x8 h3)
abbrev j14 : G5 := j14g j15
def j12 (K : KT) (x3 x4 x5 x6 x8 x77 : IV) (h : Heap) : Prop := bK' x77 (j13 K x6 h) (j14 K x3 x4 x5 x6 x8 h)
abbrev q4 (j12 : G6) (j15 : G5) (K : KT) : QT := Z4 (fun a h => j12 K (a 3) (a 4) (a 5) (a 6) (a 8) (a 77) h) (q3 j15 K)
def j11g (j12 : G6) (j15 : G5) (K : KT) (x3 x4 x5 x6 x8 : IV) (h : Heap) : Prop :=
 oD (Z1 PP Z6 x3 h) h fun v1 =>
 oD (Z1 PP Z3 x4 h) h fun v2 =>
 oD (Z2 PP Z8 x5 3) h fun v3 =>
 oD (Z1 PP Z0 v3 h) h fun v4 =>
 Z5 PP Z2i [v1, v2, v4] h fun v5 h1 =>
 oV v5 h1 fun v6 =>
 j12 K x3 x4 x5 x6 x8 v6 h1
abbrev j11 : G5 := j11g j12 j15
def j9 (K : KT) (x3 x4 x5 x6 x8 x65 : IV) (h : Heap) : Prop := bK' x65 (j10 K x6 h) (j11 K x3 x4 x5 x6 x8 h)
abbrev q5 (j9 : G6) (j15 : G5) (K : KT) : QT := Z4 (fun a h => j9 K (a 3) (a 4) (a 5) (a 6) (a 8) (a 65) h) (q3 j15 K)
def j8g (j9 : G6) (j15 : G5) (K : KT) (x3 x4 x5 x6 x8 : IV) (h : Heap) : Prop :=
 oD (Z2 PP Z3 x4 3) h fun v1 =>
 oD (Z1 PP Zl v1 h) h fun v2 =>
 oD (Z2 PP Z8 x5 3) h fun v3 =>
 oD (Z1 PP Z0 v3 h) h fun v4 =>
 oD (Zf PP Zl v2 v4 h) h fun v5 =>
 oD (Z2 PP Zj v5 0) h fun v6 =>
 oD (Z1 PP Z0 v6 h) h fun v7 =>
 oD (Z7 PP .neq Z0 v7 (.int .i64 1)) h fun v8 =>
 oV v8 h fun v9 =>
 j9 K x3 x4 x5 x6 x8 v9 h
abbrev j8 : G5 := j8g j9 j15
def j6 (K : KT) (x3 x4 x5 x6 x8 x36 : IV) (h : Heap) : Prop := bK' x36 (j7 K x6 h) (j8 K x3 x4 x5 x6 x8 h)
abbrev q6 (j6 : G6) (j15 : G5) (K : KT) : QT := Z4 (fun a h => j6 K (a 3) (a 4) (a 5) (a 6) (a 8) (a 36) h) (q3 j15 K)
def j5g (j6 : G6) (j15 : G5) (K : KT) (x3 x4 x5 x6 x8 : IV) (h : Heap) : Prop :=
 oD (Z2 PP Z8 x5 3) h fun v1 =>
 oD (Z1 PP Z0 v1 h) h fun v2 =>
 oV x8 h fun v3 =>
 oP sT (nilI v3 h) h fun v4 =>
 oD (Z2 PP Za v4 2) h fun v5 =>
 oD (Z1 PP Z0 v5 h) h fun v6 =>
 oD (Z7 PP .eql Z0 v2 v6) h fun v7 =>
 oV v7 h fun v8 =>
 oG (gW v8 false) (Z2 PP Z8 x5 3) h fun v9 =>
 oG (gW v8 false) (Z1 PP Z0 v9 h) h fun v10 =>
 oG (gW v8 false) (some x8) h fun v11 =>
 oP (gW v8 false) (nilI v11 h) h fun v12 =>
 oG (gW v8 false) (Z2 PP Za v12 3) h fun v13 =>
 oG (gW v8 false) (Z1 PP Z0 v13 h) h fun v14 =>
 oG (gW v8 false) (Z7 PP .eql Z0 v10 v14) h fun v15 =>
 oP sT (Ze v8 (.bool true) v15 h) h fun v16 =>
 oV v16 h fun v17 =>
 oG (gW v17 false) (Z2 PP Z8 x5 3) h fun v18 =>
 oG (gW v17 false) (Z1 PP Z0 v18 h) h fun v19 =>
 oG (gW v17 false) (some x8) h fun v20 =>
 oP (gW v17 false) (nilI v20 h) h fun v21 =>
 oG (gW v17 false) (Z2 PP Za v21 4) h fun v22 =>
 oG (gW v17 false) (Z1 PP Z0 v22 h) h fun v23 =>
 oG (gW v17 false) (Z7 PP .eql Z0 v19 v23) h fun v24 =>
 oP sT (Ze v17 (.bool true) v24 h) h fun v25 =>
 oV v25 h fun v26 =>
 j6 K x3 x4 x5 x6 x8 v26 h
abbrev j5 : G5 := j5g j6 j15
def j3 (K : KT) (x3 x4 x5 x6 x8 x14 : IV) (h : Heap) : Prop := bK' x14 (j4 K x6 h) (j5 K x3 x4 x5 x6 x8 h)
abbrev q7 (j3 : G6) (j15 : G5) (K : KT) : QT := Z4 (fun a h => j3 K (a 3) (a 4) (a 5) (a 6) (a 8) (a 14) h) (q3 j15 K)
def j2g (j3 : G6) (j15 : G5) (K : KT) (x3 x4 x5 x6 x8 : IV) (h : Heap) : Prop :=
 oV x8 h fun v1 =>
 oP sT (nilI v1 h) h fun v2 =>
 oD (Z2 PP Za v2 0) h fun v3 =>
 oD (Z1 PP Zy v3 h) h fun v4 =>
 oD (unI .not v4) h fun v5 =>
 oV v5 h fun v6 =>
 oG (gW v6 false) (some x8) h fun v7 =>
 oP (gW v6 false) (nilI v7 h) h fun v8 =>
 oG (gW v6 false) (Z2 PP Za v8 1) h fun v9 =>
 oG (gW v6 false) (Z1 PP Zy v9 h) h fun v10 =>
 oP sT (Ze v6 (.bool true) v10 h) h fun v11 =>
 oV v11 h fun v12 =>
 oG (gW v12 false) (some x8) h fun v13 =>
 oP (gW v12 false) (nilI v13 h) h fun v14 =>
 oG (gW v12 false) (Z2 PP Za v14 5) h fun v15 =>
 oG (gW v12 false) (Z1 PP Z0 v15 h) h fun v16 =>
 oG (gW v12 false) (Z7 PP .geq Z0 v16 (.int .i64 0)) h fun v17 =>
 oP sT (Ze v12 (.bool true) v17 h) h fun v18 =>
 oV v18 h fun v19 =>
 j3 K x3 x4 x5 x6 x8 v19 h
abbrev j2 : G5 := j2g j3 j15
abbrev q8 (j2 : G5) (K : KT) : QT := Z4 (fun a h => j2 K (a 3) (a 4) (a 5) (a 6) (a 8) h) (q1 K)
def j1g (j2 : G5) (K : KT) (x3 x4 x5 x6 : IV) (h : Heap) : Prop :=
 oD (Z2 PP Z3 x4 2) h fun v1 =>
 oD (Z1 PP Zh v1 h) h fun v2 =>
 oD (Z2 PP Z8 x5 2) h fun v3 =>
 oD (Z1 PP Z0 v3 h) h fun v4 =>
 oD (Zf PP Zh v2 v4 h) h fun v5 =>
 oV v5 h fun v6 =>
 j2 K x3 x4 x5 x6 v6 h
abbrev j1 : G4 := j1g j2
abbrev q9 (j1 : G4) (K : KT) : QT := Z4 (fun a h => j1 K (a 3) (a 4) (a 5) (a 6) h) (q1 K)
def eg (j1 : G4) (K : KT) (x0 x1 x2 : IV) (h : Heap) : Prop :=
 oA (Zi Z6 x0 h) h fun v1 h1 =>
 oA (Zi Z3 x1 h1) h1 fun v2 h2 =>
 oA (Zi Z8 x2 h2) h2 fun v3 h3 =>
 oA (Zp PP Z3 h3) h3 fun v4 h4 =>
 oV (.int .i64 0) h4 fun v5 =>
 j1 K v1 v2 v3 v4 h4
abbrev e : G3 := eg j1
theorem u3 (p : j15 K (a 3) (a 4) (a 5) (a 6) (a 8) h) : I c3 (q1 K) a h := ICx.to p
theorem j4_ok (j15 : G5) : I c7 (q3 j15 K) a h = j4g j15 K (a 6) h := by kernel_rfl
theorem u7 (p : j4 K (a 6) h) : I c7 (q3 j15 K) a h := ICx.to p (j4_ok j15)
theorem j7_ok (j15 : G5) : I c10 (q3 j15 K) a h = j7g j15 K (a 6) h := by kernel_rfl
theorem u10 (p : j7 K (a 6) h) : I c10 (q3 j15 K) a h := ICx.to p (j7_ok j15)
theorem j10_ok (j15 : G5) : I c13 (q3 j15 K) a h = j10g j15 K (a 6) h := by kernel_rfl
theorem u13 (p : j10 K (a 6) h) : I c13 (q3 j15 K) a h := ICx.to p (j10_ok j15)
theorem j13_ok (j15 : G5) : I c16 (q3 j15 K) a h = j13g j15 K (a 6) h := by kernel_rfl
theorem u16 (p : j13 K (a 6) h) : I c16 (q3 j15 K) a h := ICx.to p (j13_ok j15)
theorem j14_ok (j15 : G5) : I c17 (q3 j15 K) a h = j14g j15 K (a 3) (a 4) (a 5) (a 6) (a 8) h := by kernel_rfl
theorem u17 (p : j14 K (a 3) (a 4) (a 5) (a 6) (a 8) h) : I c17 (q3 j15 K) a h := ICx.to p (j14_ok j15)
theorem u15 (p : j12 K (a 3) (a 4) (a 5) (a 6) (a 8) (a 77) h) : I c15 (q3 j15 K) a h := ICx.cnd (o := (Go.Operand.tmp 77)) u16 u17 p
theorem j11_ok (j12 : G6) (j15 : G5) : I c18 (q4 j12 j15 K) a h = j11g j12 j15 K (a 3) (a 4) (a 5) (a 6) (a 8) h := by kernel_rfl
theorem u18 (p : j11 K (a 3) (a 4) (a 5) (a 6) (a 8) h) : I c18 (q4 j12 j15 K) a h := ICx.to p (j11_ok j12 j15)
theorem u14 (p : j11 K (a 3) (a 4) (a 5) (a 6) (a 8) h) : I c14 (q3 j15 K) a h := ICx.sq (fun _ _ => u15) (u18 p)
theorem u12 (p : j9 K (a 3) (a 4) (a 5) (a 6) (a 8) (a 65) h) : I c12 (q3 j15 K) a h := ICx.cnd (o := (Go.Operand.tmp 65)) u13 u14 p
theorem j8_ok (j9 : G6) (j15 : G5) : I c19 (q5 j9 j15 K) a h = j8g j9 j15 K (a 3) (a 4) (a 5) (a 6) (a 8) h := by kernel_rfl
theorem u19 (p : j8 K (a 3) (a 4) (a 5) (a 6) (a 8) h) : I c19 (q5 j9 j15 K) a h := ICx.to p (j8_ok j9 j15)
theorem u11 (p : j8 K (a 3) (a 4) (a 5) (a 6) (a 8) h) : I c11 (q3 j15 K) a h := ICx.sq (fun _ _ => u12) (u19 p)
theorem u9 (p : j6 K (a 3) (a 4) (a 5) (a 6) (a 8) (a 36) h) : I c9 (q3 j15 K) a h := ICx.cnd (o := (Go.Operand.tmp 36)) u10 u11 p
theorem j5_ok (j6 : G6) (j15 : G5) : I c20 (q6 j6 j15 K) a h = j5g j6 j15 K (a 3) (a 4) (a 5) (a 6) (a 8) h := by kernel_rfl
theorem u20 (p : j5 K (a 3) (a 4) (a 5) (a 6) (a 8) h) : I c20 (q6 j6 j15 K) a h := ICx.to p (j5_ok j6 j15)
theorem u8 (p : j5 K (a 3) (a 4) (a 5) (a 6) (a 8) h) : I c8 (q3 j15 K) a h := ICx.sq (fun _ _ => u9) (u20 p)
theorem u6 (p : j3 K (a 3) (a 4) (a 5) (a 6) (a 8) (a 14) h) : I c6 (q3 j15 K) a h := ICx.cnd (o := (Go.Operand.tmp 14)) u7 u8 p
theorem j2_ok (j3 : G6) (j15 : G5) : I c21 (q7 j3 j15 K) a h = j2g j3 j15 K (a 3) (a 4) (a 5) (a 6) (a 8) h := by kernel_rfl
theorem u21 (p : j2 K (a 3) (a 4) (a 5) (a 6) (a 8) h) : I c21 (q7 j3 j15 K) a h := ICx.to p (j2_ok j3 j15)
theorem u5 (p : j2 K (a 3) (a 4) (a 5) (a 6) (a 8) h) : I c5 (q3 j15 K) a h := ICx.sq (fun _ _ => u6) (u21 p)
theorem u4 (p : j2 K (a 3) (a 4) (a 5) (a 6) (a 8) h) : I c4 (q2 j15 K) a h := ICx.blk (u5 p)
theorem u2 (p : j2 K (a 3) (a 4) (a 5) (a 6) (a 8) h) : I c2 (q1 K) a h := ICx.sq (fun _ _ => u3) (u4 p)
theorem j1_ok (j2 : G5) : I c22 (q8 j2 K) a h = j1g j2 K (a 3) (a 4) (a 5) (a 6) h := by kernel_rfl
theorem u22 (p : j1 K (a 3) (a 4) (a 5) (a 6) h) : I c22 (q8 j2 K) a h := ICx.to p (j1_ok j2)
theorem u1 (p : j1 K (a 3) (a 4) (a 5) (a 6) h) : I c1 (q1 K) a h := ICx.sq (fun _ _ => u2) (u22 p)
theorem e_ok (j1 : G4) : I c23 (q9 j1 K) a h = eg j1 K (a 0) (a 1) (a 2) h := by kernel_rfl
theorem u23 (p : e K (a 0) (a 1) (a 2) h) : I c23 (q9 j1 K) a h := ICx.to p (e_ok j1)
theorem u0 (p : e K (a 0) (a 1) (a 2) h) : I c0 (q1 K) a h := ICx.sq (fun _ _ => u1) (u23 p)
theorem call {x0 x1 x2 : IV} (p : e K x0 x1 x2 h) : Z5 PP Z3H [x0, x1, x2] h K :=
  ICx.fn Try.mixed Try.func64 rfl (Nat.le_of_ble_eq_true rfl) (u0 (a := actI [x0, x1, x2]) p)
end Z1h
namespace Z2H
def D : Nat → DI
  | _ => ⟨[], [], []⟩
abbrev I := ICx PP 31 D
def c0 : Code := bodyN Try.f65
def c1 : Code := cR c0
def c2 : Code := cR c1
def c3 : Code := cR c2
def c4 : Code := cL c2
def c5 : Code := cL c1
def c6 : Code := cL c0
abbrev q1 (K : KT) : QT := finK PP Try.f65.results.toList K
def j3 (K : KT) (x2 x4 x6 : IV) (h : Heap) : Prop :=
 oV x6 h fun v1 =>
 oP sT (nilI v1 h) h fun v2 =>
 oD (Z2 PP Za v2 5) h fun v3 =>
 oS (Z9 PP Z0 v3 (.int .i64 (-1)) h) h fun h1 =>
 oD (Z1 PP Z3 x2 h1) h1 fun v4 =>
 oS (Z9 PP Z3 x4 v4 h1) h1 fun h2 =>
 oV (.int .i64 0) h2 fun v5 =>
 Zd PP [.c x4 Z3, .v v5] h2 K
abbrev q2 (j3 : G3) (K : KT) : QT := Z4 (fun a h => j3 K (a 2) (a 4) (a 6) h) (q1 K)
def j2g (j3 : G3) (K : KT) (x2 x4 x6 : IV) (h : Heap) : Prop :=
 oV x6 h fun v1 =>
 oP sT (nilI v1 h) h fun v2 =>
 oD (Z2 PP Za v2 0) h fun v3 =>
 oD (Z1 PP Zy v3 h) h fun v4 =>
 oD (unI .not v4) h fun v5 =>
 oV v5 h fun v6 =>
 oG (gW v6 false) (some x6) h fun v7 =>
 oP (gW v6 false) (nilI v7 h) h fun v8 =>
 oG (gW v6 false) (Z2 PP Za v8 5) h fun v9 =>
 oG (gW v6 false) (Z1 PP Z0 v9 h) h fun v10 =>
 oG (gW v6 false) (Z7 PP .lss Z0 v10 (.int .i64 0)) h fun v11 =>
 oP sT (Ze v6 (.bool true) v11 h) h fun v12 =>
 bK' v12
   (Z5 PP Zv [.int .i64 4] h fun v13 h1 =>
   oD (Zg v13 0) h1 fun v14 =>
   oD (Zg v13 1) h1 fun v15 =>
   oS (Z9 PP Z3 x4 v14 h1) h1 fun h2 =>
   oV v15 h2 fun v16 =>
   Zd PP [.c x4 Z3, .v v16] h2 K)
   (j3 K x2 x4 x6 h)
abbrev j2 : G3 := j2g j3
abbrev q3 (j2 : G3) (K : KT) : QT := Z4 (fun a h => j2 K (a 2) (a 4) (a 6) h) (q1 K)
def j1g (j2 : G3) (K : KT) (x2 x3 x4 : IV) (h : Heap) : Prop :=
 oD (Z2 PP Z3 x2 2) h fun v1 =>
 oD (Z1 PP Zh v1 h) h fun v2 =>
 oD (Z2 PP Z8 x3 2) h fun v3 =>
 oD (Z1 PP Z0 v3 h) h fun v4 =>
 oD (Zf PP Zh v2 v4 h) h fun v5 =>
 oV v5 h fun v6 =>
 j2 K x2 x4 v6 h
abbrev j1 : G3 := j1g j2
abbrev q4 (j1 : G3) (K : KT) : QT := Z4 (fun a h => j1 K (a 2) (a 3) (a 4) h) (q1 K)
def eg (j1 : G3) (K : KT) (x0 x1 : IV) (h : Heap) : Prop :=
 oA (Zi Z3 x0 h) h fun v1 h1 =>
 oA (Zi Z8 x1 h1) h1 fun v2 h2 =>
 oA (Zp PP Z3 h2) h2 fun v3 h3 =>
 oV (.int .i64 0) h3 fun v4 =>
 j1 K v1 v2 v3 h3
abbrev e : G2 := eg j1
theorem u3 (p : j3 K (a 2) (a 4) (a 6) h) : I c3 (q1 K) a h := ICx.to p
theorem j2_ok (j3 : G3) : I c4 (q2 j3 K) a h = j2g j3 K (a 2) (a 4) (a 6) h := by kernel_rfl
theorem u4 (p : j2 K (a 2) (a 4) (a 6) h) : I c4 (q2 j3 K) a h := ICx.to p (j2_ok j3)
theorem u2 (p : j2 K (a 2) (a 4) (a 6) h) : I c2 (q1 K) a h := ICx.sq (fun _ _ => u3) (u4 p)
theorem j1_ok (j2 : G3) : I c5 (q3 j2 K) a h = j1g j2 K (a 2) (a 3) (a 4) h := by kernel_rfl
theorem u5 (p : j1 K (a 2) (a 3) (a 4) h) : I c5 (q3 j2 K) a h := ICx.to p (j1_ok j2)
theorem u1 (p : j1 K (a 2) (a 3) (a 4) h) : I c1 (q1 K) a h := ICx.sq (fun _ _ => u2) (u5 p)
theorem e_ok (j1 : G3) : I c6 (q4 j1 K) a h = eg j1 K (a 0) (a 1) h := by kernel_rfl
theorem u6 (p : e K (a 0) (a 1) h) : I c6 (q4 j1 K) a h := ICx.to p (e_ok j1)
theorem u0 (p : e K (a 0) (a 1) h) : I c0 (q1 K) a h := ICx.sq (fun _ _ => u1) (u6 p)
theorem call {x0 x1 : IV} (p : e K x0 x1 h) : Z5 PP Z3I [x0, x1] h K :=
  ICx.fn Try.mixed Try.func65 rfl (Nat.le_of_ble_eq_true rfl) (u0 (a := actI [x0, x1]) p)
end Z2H
end
end Go.Ideal
namespace Go.Ideal
open Go.Proofs
set_option maxRecDepth 100000
noncomputable section
variable {K : KT} {a : IAct} {h : Heap}
namespace Z1i
def D : Nat → DI
  | 5 => ⟨[0, 1, 3, 7, 15, 0, 32, 127, 255], [0, 1, 2, 3, 4, 5, 6, 7, 8], []⟩
  | 11 => ⟨[0, 1, 0, 4, 12, 28, 63, 127, 255, 511, 1023], [0, 1, 2, 3, 4, 5, 6, 7, 8, 9, 10], []⟩
  | _ => ⟨[], [], []⟩
abbrev I := ICx PP 82 D
def c0 : Code := bodyN Try.f66
def c1 : Code := cR c0
def c2 : Code := cR c1
def c3 : Code := cR c2
def c4 : Code := cR c3
def c5 : Code := cL c3
def c6 : Code := cL c5
def c7 : Code := cR c6
def c8 : Code := cL c7
def c9 : Code := cR c7
def c10 : Code := cL c6
def c11 : Code := cL c2
def c12 : Code := cR c11
def c13 : Code := cL c12
def c14 : Code := cR c13
def c15 : Code := cL c13
def c16 : Code := cL c15
def c17 : Code := cR c16
def c18 : Code := cL c17
def c19 : Code := cR c17
def c20 : Code := cL c16
def c21 : Code := cR c12
def c22 : Code := cL c11
def c23 : Code := cL c1
def c24 : Code := cL c0
abbrev q1 (K : KT) : QT := finK PP Try.f66.results.toList K
def j14 (K : KT) (x3 x4 x6 x8 : IV) (h : Heap) : Prop :=
 oV x8 h fun v1 =>
 oP sT (nilI v1 h) h fun v2 =>
 oD (Z2 PP Za v2 1) h fun v3 =>
 oS (Z9 PP Zy v3 (.bool false) h) h fun h1 =>
 oD (Z1 PP Z6 x3 h1) h1 fun v4 =>
 oD (Z1 PP Z3 x4 h1) h1 fun v5 =>
 Z5 PP Z1U [v4, v5] h1 fun v6 h2 =>
 oD (Zg v6 0) h2 fun v7 =>
 oD (Zg v6 1) h2 fun v8 =>
 oS (Z9 PP Z3 x6 v7 h2) h2 fun h3 =>
 oV v8 h3 fun v9 =>
 Zd PP [.c x6 Z3, .v v9] h3 K
abbrev q2 (j14 : G4) (K : KT) : QT := Z4 (fun a h => j14 K (a 3) (a 4) (a 6) (a 8) h) (q1 K)
abbrev q3 (j14 : G4) (K : KT) : QT := Zq 1 (q2 j14 K)
def j12g (j14 : G4) (K : KT) (x6 : IV) (h : Heap) : Prop :=
 Z5 PP Zv [.int .i64 4] h fun v1 h1 =>
 oD (Zg v1 0) h1 fun v2 =>
 oD (Zg v1 1) h1 fun v3 =>
 oS (Z9 PP Z3 x6 v2 h1) h1 fun h2 =>
 oV v3 h2 fun v4 =>
 Zd PP [.c x6 Z3, .v v4] h2 K
abbrev j12 : G1 := j12g j14
def j13g (j14 : G4) (K : KT) (x3 x4 x6 x8 : IV) (h : Heap) : Prop :=
 oD (Z2 PP Z3 x4 3) h fun v1 =>
 oD (Z1 PP Zl v1 h) h fun v2 =>
 oV x8 h fun v3 =>
 oP sT (nilI v3 h) h fun v4 =>
 oD (Z2 PP Za v4 2) h fun v5 =>
 oD (Z1 PP Z0 v5 h) h fun v6 =>
 oD (Zf PP Zl v2 v6 h) h fun v7 =>
 oD (Z2 PP Zj v7 0) h fun v8 =>
 oD (Z1 PP Z0 v8 h) h fun v9 =>
 oD (Z7 PP .eql Z0 v9 (.int .i64 3)) h fun v10 =>
 oV v10 h fun v11 =>
 bK' v11
   (Z5 PP Zv [.int .i64 6] h fun v12 h1 =>
   oD (Zg v12 0) h1 fun v13 =>
   oD (Zg v12 1) h1 fun v14 =>
   oS (Z9 PP Z3 x6 v13 h1) h1 fun h2 =>
   oV v14 h2 fun v15 =>
   Zd PP [.c x6 Z3, .v v15] h2 K)
   (j14 K x3 x4 x6 x8 h)
abbrev j13 : G4 := j13g j14
def j11 (K : KT) (x3 x4 x6 x8 x51 : IV) (h : Heap) : Prop := bK' x51 (j12 K x6 h) (j13 K x3 x4 x6 x8 h)
abbrev q4 (j11 : G5) (j14 : G4) (K : KT) : QT := Z4 (fun a h => j11 K (a 3) (a 4) (a 6) (a 8) (a 51) h) (q3 j14 K)
def j10g (j11 : G5) (j14 : G4) (K : KT) (x3 x4 x6 x8 : IV) (h : Heap) : Prop :=
 oV x8 h fun v1 =>
 oP sT (nilI v1 h) h fun v2 =>
 oD (Z2 PP Za v2 1) h fun v3 =>
 oD (Z1 PP Zy v3 h) h fun v4 =>
 oD (unI .not v4) h fun v5 =>
 oV v5 h fun v6 =>
 j11 K x3 x4 x6 x8 v6 h
abbrev j10 : G4 := j10g j11 j14
abbrev q5 (j10 : G4) (K : KT) : QT := Z4 (fun a h => j10 K (a 3) (a 4) (a 6) (a 8) h) (q1 K)
def j8g (j10 : G4) (K : KT) (x4 x6 x8 : IV) (h : Heap) : Prop :=
 oV x8 h fun v1 =>
 oV x8 h fun v2 =>
 oP sT (nilI v1 h) h fun v3 =>
 oD (Z2 PP Za v3 1) h fun v4 =>
 oS (Z9 PP Zy v4 (.bool true) h) h fun h1 =>
 oP sT (nilI v2 h1) h1 fun v5 =>
 oD (Z2 PP Za v5 5) h1 fun v6 =>
 oS (Z9 PP Z0 v6 (.int .i64 (-1)) h1) h1 fun h2 =>
 oD (Z1 PP Z3 x4 h2) h2 fun v7 =>
 oS (Z9 PP Z3 x6 v7 h2) h2 fun h3 =>
 oV (.int .i64 0) h3 fun v8 =>
 Zd PP [.c x6 Z3, .v v8] h3 K
abbrev j8 : G3 := j8g j10
abbrev q6 (j8 : G3) (j10 : G4) (K : KT) : QT := Z4 (fun a h => j8 K (a 4) (a 6) (a 8) h) (q5 j10 K)
abbrev q7 (j8 : G3) (j10 : G4) (K : KT) : QT := Zq 0 (q6 j8 j10 K)
def j6g (j8 : G3) (j10 : G4) (K : KT) (x6 : IV) (h : Heap) : Prop :=
 Z5 PP Zv [.int .i64 4] h fun v1 h1 =>
 oD (Zg v1 0) h1 fun v2 =>
 oD (Zg v1 1) h1 fun v3 =>
 oS (Z9 PP Z3 x6 v2 h1) h1 fun h2 =>
 oV v3 h2 fun v4 =>
 Zd PP [.c x6 Z3, .v v4] h2 K
abbrev j6 : G1 := j6g j8 j10
def j7g (j8 : G3) (j10 : G4) (K : KT) (x4 x5 x6 x8 : IV) (h : Heap) : Prop :=
 oV x8 h fun v1 =>
 oP sT (nilI v1 h) h fun v2 =>
 oD (Z2 PP Za v2 7) h fun v3 =>
 oD (Z2 PP Zu v3 4) h fun v4 =>
 oD (Z1 PP Z0 v4 h) h fun v5 =>
 oD (Z2 PP Z8 x5 1) h fun v6 =>
 oD (Z1 PP Z0 v6 h) h fun v7 =>
 oD (Z7 PP .gtr Z0 v5 v7) h fun v8 =>
 oV v8 h fun v9 =>
 bK' v9
   (Z5 PP Zv [.int .i64 9] h fun v10 h1 =>
   oD (Zg v10 0) h1 fun v11 =>
   oD (Zg v10 1) h1 fun v12 =>
   oS (Z9 PP Z3 x6 v11 h1) h1 fun h2 =>
   oV v12 h2 fun v13 =>
   Zd PP [.c x6 Z3, .v v13] h2 K)
   (j8 K x4 x6 x8 h)
abbrev j7 : G4 := j7g j8 j10
def j5 (K : KT) (x4 x5 x6 x8 x17 : IV) (h : Heap) : Prop := bK' x17 (j6 K x6 h) (j7 K x4 x5 x6 x8 h)
abbrev q8 (j5 : G5) (j8 : G3) (j10 : G4) (K : KT) : QT := Z4 (fun a h => j5 K (a 4) (a 5) (a 6) (a 8) (a 17) h) (q7 j8 j10 K)
def j4g (j5 : G5) (j8 : G3) (j10 : G4) (K : KT) (x4 x5 x6 x8 : IV) (h : Heap) : Prop :=
 oV x8 h fun v1 =>
 oP sT (nilI v1 h) h fun v2 =>
 oD (Z2 PP Za v2 0) h fun v3 =>
 oD (Z1 PP Zy v3 h) h fun v4 =>
 oD (unI .not v4) h fun v5 =>
 oV v5 h fun v6 =>
 oG (gW v6 false) (some x8) h fun v7 =>
 oP (gW v6 false) (nilI v7 h) h fun v8 =>
 oG (gW v6 false) (Z2 PP Za v8 1) h fun v9 =>
 oG (gW v6 false) (Z1 PP Zy v9 h) h fun v10 =>
 oP sT (Ze v6 (.bool true) v10 h) h fun v11 =>
 oV v11 h fun v12 =>
 j5 K x4 x5 x6 x8 v12 h
abbrev j4 : G4 := j4g j5 j8 j10
def j9g (j10 : G4) (K : KT) (x3 x4 x6 x8 : IV) (h : Heap) : Prop :=
 j10 K x3 x4 x6 x8 h
abbrev j9 : G4 := j9g j10
def j3 (K : KT) (x3 x4 x5 x6 x8 x16 : IV) (h : Heap) : Prop := bK' x16 (j4 K x4 x5 x6 x8 h) (j9 K x3 x4 x6 x8 h)
abbrev q9 (j3 : G6) (j10 : G4) (K : KT) : QT := Z4 (fun a h => j3 K (a 3) (a 4) (a 5) (a 6) (a 8) (a 16) h) (q5 j10 K)
def j2g (j3 : G6) (j10 : G4) (K : KT) (x3 x4 x5 x6 x8 : IV) (h : Heap) : Prop :=
 oD (Z2 PP Z8 x5 8) h fun v1 =>
 oD (Z1 PP Z0 v1 h) h fun v2 =>
 oD (Z7 PP .eql Z0 v2 (.int .i64 1)) h fun v3 =>
 j3 K x3 x4 x5 x6 x8 v3 h
abbrev j2 : G5 := j2g j3 j10
abbrev q10 (j2 : G5) (K : KT) : QT := Z4 (fun a h => j2 K (a 3) (a 4) (a 5) (a 6) (a 8) h) (q1 K)
def j1g (j2 : G5) (K : KT) (x3 x4 x5 x6 : IV) (h : Heap) : Prop :=
 oD (Z2 PP Z3 x4 2) h fun v1 =>
 oD (Z1 PP Zh v1 h) h fun v2 =>
 oD (Z2 PP Z8 x5 2) h fun v3 =>
 oD (Z1 PP Z0 v3 h) h fun v4 =>
 oD (Zf PP Zh v2 v4 h) h fun v5 =>
 oV v5 h fun v6 =>
 j2 K x3 x4 x5 x6 v6 h
abbrev j1 : G4 := j1g j2
abbrev q11 (j1 : G4) (K : KT) : QT := Z4 (fun a h => j1 K (a 3) (a 4) (a 5) (a 6) h) (q1 K)
def eg (j1 : G4) (K : KT) (x0 x1 x2 : IV) (h : Heap) : Prop :=
 oA (Zi Z6 x0 h) h fun v1 h1 =>
 oA (Zi Z3 x1 h1) h1 fun v2 h2 =>
 oA (Zi Z8 x2 h2) h2 fun v3 h3 =>
 oA (Zp PP Z3 h3) h3 fun v4 h4 =>
 oV (.int .i64 0) h4 fun v5 =>
 j1 K v1 v2 v3 v4 h4
abbrev e : G3 := eg j1
theorem u4 (p : j14 K (a 3) (a 4) (a 6) (a 8) h) : I c4 (q1 K) a h := ICx.to p
theorem j12_ok (j14 : G4) : I c8 (q3 j14 K) a h = j12g j14 K (a 6) h := by kernel_rfl
theorem u8 (p : j12 K (a 6) h) : I c8 (q3 j14 K) a h := ICx.to p (j12_ok j14)
theorem j13_ok (j14 : G4) : I c9 (q3 j14 K) a h = j13g j14 K (a 3) (a 4) (a 6) (a 8) h := by kernel_rfl
theorem u9 (p : j13 K (a 3) (a 4) (a 6) (a 8) h) : I c9 (q3 j14 K) a h := ICx.to p (j13_ok j14)
theorem u7 (p : j11 K (a 3) (a 4) (a 6) (a 8) (a 51) h) : I c7 (q3 j14 K) a h := ICx.cnd (o := (Go.Operand.tmp 51)) u8 u9 p
theorem j10_ok (j11 : G5) (j14 : G4) : I c10 (q4 j11 j14 K) a h = j10g j11 j14 K (a 3) (a 4) (a 6) (a 8) h := by kernel_rfl
theorem u10 (p : j10 K (a 3) (a 4) (a 6) (a 8) h) : I c10 (q4 j11 j14 K) a h := ICx.to p (j10_ok j11 j14)
theorem u6 (p : j10 K (a 3) (a 4) (a 6) (a 8) h) : I c6 (q3 j14 K) a h := ICx.sq (fun _ _ => u7) (u10 p)
theorem u5 (p : j10 K (a 3) (a 4) (a 6) (a 8) h) : I c5 (q2 j14 K) a h := ICx.blk (u6 p)
theorem u3 (p : j10 K (a 3) (a 4) (a 6) (a 8) h) : I c3 (q1 K) a h := ICx.sq (fun _ _ => u4) (u5 p)
theorem j8_ok (j10 : G4) : I c14 (q5 j10 K) a h = j8g j10 K (a 4) (a 6) (a 8) h := by kernel_rfl
theorem u14 (p : j8 K (a 4) (a 6) (a 8) h) : I c14 (q5 j10 K) a h := ICx.to p (j8_ok j10)
theorem j6_ok (j8 : G3) (j10 : G4) : I c18 (q7 j8 j10 K) a h = j6g j8 j10 K (a 6) h := by kernel_rfl
theorem u18 (p : j6 K (a 6) h) : I c18 (q7 j8 j10 K) a h := ICx.to p (j6_ok j8 j10)
theorem j7_ok (j8 : G3) (j10 : G4) : I c19 (q7 j8 j10 K) a h = j7g j8 j10 K (a 4) (a 5) (a 6) (a 8) h := by kernel_rfl
theorem u19 (p : j7 K (a 4) (a 5) (a 6) (a 8) h) : I c19 (q7 j8 j10 K) a h := ICx.to p (j7_ok j8 j10)
theorem u17 (p : j5 K (a 4) (a 5) (a 6) (a 8) (a 17) h) : I c17 (q7 j8 j10 K) a h := ICx.cnd (o := (Go.Operand.tmp 17)) u18 u19 p
theorem j4_ok (j5 : G5) (j8 : G3) (j10 : G4) : I c20 (q8 j5 j8 j10 K) a h = j4g j5 j8 j10 K (a 4) (a 5) (a 6) (a 8) h := by kernel_rfl
theorem u20 (p : j4 K (a 4) (a 5) (a 6) (a 8) h) : I c20 (q8 j5 j8 j10 K) a h := ICx.to p (j4_ok j5 j8 j10)
theorem u16 (p : j4 K (a 4) (a 5) (a 6) (a 8) h) : I c16 (q7 j8 j10 K) a h := ICx.sq (fun _ _ => u17) (u20 p)
theorem u15 (p : j4 K (a 4) (a 5) (a 6) (a 8) h) : I c15 (q6 j8 j10 K) a h := ICx.blk (u16 p)
theorem u13 (p : j4 K (a 4) (a 5) (a 6) (a 8) h) : I c13 (q5 j10 K) a h := ICx.sq (fun _ _ => u14) (u15 p)
theorem j9_ok (j10 : G4) : I c21 (q5 j10 K) a h = j9g j10 K (a 3) (a 4) (a 6) (a 8) h := by kernel_rfl
theorem u21 (p : j9 K (a 3) (a 4) (a 6) (a 8) h) : I c21 (q5 j10 K) a h := ICx.to p (j9_ok j10)
theorem u12 (p : j3 K (a 3) (a 4) (a 5) (a 6) (a 8) (a 16) h) : I c12 (q5 j10 K) a h := ICx.cnd (o := (Go.Operand.tmp 16)) u13 u21 p
theorem j2_ok (j3 : G6) (j10 : G4) : I c22 (q9 j3 j10 K) a h = j2g j3 j10 K (a 3) (a 4) (a 5) (a 6) (a 8) h := by kernel_rfl
theorem u22 (p : j2 K (a 3) (a 4) (a 5) (a 6) (a 8) h) : I c22 (q9 j3 j10 K) a h := ICx.to p (j2_ok j3 j10)
theorem u11 (p : j2 K (a 3) (a 4) (a 5) (a 6) (a 8) h) : I c11 (q5 j10 K) a h := ICx.sq (fun _ _ => u12) (u22 p)
theorem u2 (p : j2 K (a 3) (a 4) (a 5) (a 6) (a 8) h) : I c2 (q1 K) a h := ICx.sq (fun _ _ => u3) (u11 p)
theorem j1_ok (j2 : G5) : I c23 (q10 j2 K) a h = j1g j2 K (a 3) (a 4) (a 5) (a 6) h := by kernel_rfl
theorem u23 (p : j1 K (a 3) (a 4) (a 5) (a 6) h) : I c23 (q10 j2 K) a h := ICx.to p (j1_ok j2)
theorem u1 (p : j1 K (a 3) (a 4) (a 5) (a 6) h) : I c1 (q1 K) a h := ICx.sq (fun _ _ => u2) (u23 p)
theorem e_ok (j1 : G4) : I c24 (q11 j1 K) a h = eg j1 K (a 0) (a 1) (a 2) h := by kernel_rfl
theorem u24 (p : e K (a 0) (a 1) (a 2) h) : I c24 (q11 j1 K) a h := ICx.to p (e_ok j1)
theorem u0 (p : e K (a 0) (a 1) (a 2) h) : I c0 (q1 K) a h := ICx.sq (fun _ _ => u1) (u24 p)
theorem call {x0 x1 x2 : IV} (p : e K x0 x1 x2 h) : Z5 PP Z3J [x0, x1, x2] h K :=
  ICx.fn Try.mixed Try.func66 rfl (Nat.le_of_ble_eq_true rfl) (u0 (a := actI [x0, x1, x2]) p)
end Z1i
namespace ZQ
def D : Nat → DI
  | 9 => ⟨[0, 1, 3, 7, 0, 16, 63, 127], [0, 1, 2, 3, 4, 5, 6, 7], []⟩
  | 13 => ⟨[0, 1, 0, 4, 12, 28, 63, 127, 255, 255, 767, 2047, 4095, 8191, 16383, 32767, 65535, 131071, 262143, 524287], [0, 1, 2, 3, 4, 5, 6, 7, 8, 9, 10, 11, 12, 13, 14, 15, 16, 17, 18, 19], []⟩
  | 15 => ⟨[0, 1, 0, 4, 12, 28, 63, 127, 255, 255, 767, 2047, 4095, 8191, 16383, 32767, 32767, 98303, 262143, 524287, 1048575], [0, 1, 2, 3, 4, 5, 6, 7, 8, 9, 10, 11, 12, 13, 14, 15, 16, 17, 18, 19, 20], []⟩
  | _ => ⟨[], [], []⟩
abbrev I := ICx PP 121 D
def c0 : Code := bodyN Try.f67
def c1 : Code := cR c0
def c2 : Code := cR c1
def c3 : Code := cR c2
def c4 : Code := cR c3
def c5 : Code := cR c4
def c6 : Code := cR c5
def c7 : Code := cL c5
def c8 : Code := cL c7
def c9 : Code := cR c8
def c10 : Code := cL c9
def c11 : Code := cR c9
def c12 : Code := cR c11
def c13 : Code := cL c12
def c14 : Code := cR c12
def c15 : Code := cR c14
def c16 : Code := cL c15
def c17 : Code := cR c15
def c18 : Code := cL c14
def c19 : Code := cL c11
def c20 : Code := cL c8
def c21 : Code := cL c4
def c22 : Code := cR c21
def c23 : Code := cL c22
def c24 : Code := cL c23
def c25 : Code := cR c24
def c26 : Code := cR c25
def c27 : Code := cL c25
def c28 : Code := cL c24
def c29 : Code := cL c21
def c30 : Code := cL c3
def c31 : Code := cL c2
def c32 : Code := cL c1
def c33 : Code := cL c0
abbrev q1 (K : KT) : QT := finK PP Try.f67.results.toList K
def j17 (K : KT) (x4 x5 x6 x8 : IV) (h : Heap) : Prop :=
 oV x8 h fun v1 =>
 oD (Z2 PP Z8 x5 8) h fun v2 =>
 oD (Z1 PP Z0 v2 h) h fun v3 =>
 oP sT (nilI v1 h) h fun v4 =>
 oD (Z2 PP Zj v4 2) h fun v5 =>
 oS (Z9 PP Z0 v5 v3 h) h fun h1 =>
 oD (Z1 PP Z3 x4 h1) h1 fun v6 =>
 oS (Z9 PP Z3 x6 v6 h1) h1 fun h2 =>
 oV (.int .i64 0) h2 fun v7 =>
 Zd PP [.c x6 Z3, .v v7] h2 K
abbrev q2 (j17 : G4) (K : KT) : QT := Z4 (fun a h => j17 K (a 4) (a 5) (a 6) (a 8) h) (q1 K)
abbrev q3 (j17 : G4) (K : KT) : QT := Zq 2 (q2 j17 K)
def j9g (j17 : G4) (K : KT) (x6 : IV) (h : Heap) : Prop :=
 Z5 PP Zv [.int .i64 4] h fun v1 h1 =>
 oD (Zg v1 0) h1 fun v2 =>
 oD (Zg v1 1) h1 fun v3 =>
 oS (Z9 PP Z3 x6 v2 h1) h1 fun h2 =>
 oV v3 h2 fun v4 =>
 Zd PP [.c x6 Z3, .v v4] h2 K
abbrev j9 : G1 := j9g j17
def j12g (j17 : G4) (K : KT) (x6 : IV) (h : Heap) : Prop :=
 Z5 PP Zv [.int .i64 13] h fun v1 h1 =>
 oD (Zg v1 0) h1 fun v2 =>
 oD (Zg v1 1) h1 fun v3 =>
 oS (Z9 PP Z3 x6 v2 h1) h1 fun h2 =>
 oV v3 h2 fun v4 =>
 Zd PP [.c x6 Z3, .v v4] h2 K
abbrev j12 : G1 := j12g j17
def j15g (j17 : G4) (K : KT) (x6 : IV) (h : Heap) : Prop :=
 Z5 PP Zv [.int .i64 12] h fun v1 h1 =>
 oD (Zg v1 0) h1 fun v2 =>
 oD (Zg v1 1) h1 fun v3 =>
 oS (Z9 PP Z3 x6 v2 h1) h1 fun h2 =>
 oV v3 h2 fun v4 =>
 Zd PP [.c x6 Z3, .v v4] h2 K
abbrev j15 : G1 := j15g j17
def j16g (j17 : G4) (K : KT) (x3 x4 x5 x6 x8 x10 : IV) (h : Heap) : Prop :=
 oD (Z2 PP Z8 x5 8) h fun v1 =>
 oD (Z1 PP Z0 v1 h) h fun v2 =>
 oV x8 h fun v3 =>
 oP sT (nilI v3 h) h fun v4 =>
 oD (Z2 PP Zj v4 1) h fun v5 =>
 oD (Z1 PP Z0 v5 h) h fun v6 =>
 oD (Z7 PP .neq Z0 v2 v6) h fun v7 =>
 oV v7 h fun v8 =>
 oG (gW v8 true) (Z1 PP Z3 x4 h) h fun v9 =>
 oG (gW v8 true) (Z2 PP Z8 x5 8) h fun v10 =>
 oG (gW v8 true) (Z1 PP Z0 v10 h) h fun v11 =>
 Zm PP (gW v8 true) Z1V [v9, v11] h fun v12 h1 => oB (True) <|
 oG (gW v8 true) (unI .not v12) h1 fun v13 =>
 oP sT (Ze v8 v13 (.bool false) h1) h1 fun v14 =>
 oV v14 h1 fun v15 =>
 oG (gW v15 true) (some x10) h1 fun v16 =>
 oG (gW v15 true) (Z2 PP Z6 x3 7) h1 fun v17 =>
 oG (gW v15 true) (Z1 PP Z0 v17 h1) h1 fun v18 =>
 oG (gW v15 true) (Z7 PP .geq Z0 v16 v18) h1 fun v19 =>
 oP sT (Ze v15 v19 (.bool false) h1) h1 fun v20 =>
 oV v20 h1 fun v21 =>
 bK' v21
   (Z5 PP Zv [.int .i64 14] h1 fun v22 h2 =>
   oD (Zg v22 0) h2 fun v23 =>
   oD (Zg v22 1) h2 fun v24 =>
   oS (Z9 PP Z3 x6 v23 h2) h2 fun h3 =>
   oV v24 h3 fun v25 =>
   Zd PP [.c x6 Z3, .v v25] h3 K)
   (j17 K x4 x5 x6 x8 h1)
abbrev j16 : G6 := j16g j17
def j14 (K : KT) (x3 x4 x5 x6 x8 x10 x68 : IV) (h : Heap) : Prop := bK' x68 (j15 K x6 h) (j16 K x3 x4 x5 x6 x8 x10 h)
abbrev q4 (j14 : G7) (j17 : G4) (K : KT) : QT := Z4 (fun a h => j14 K (a 3) (a 4) (a 5) (a 6) (a 8) (a 10) (a 68) h) (q3 j17 K)
def j13g (j14 : G7) (j17 : G4) (K : KT) (x3 x4 x5 x6 x8 x10 : IV) (h : Heap) : Prop :=
 oD (Z2 PP Z8 x5 8) h fun v1 =>
 oD (Z1 PP Z0 v1 h) h fun v2 =>
 oV x8 h fun v3 =>
 oP sT (nilI v3 h) h fun v4 =>
 oD (Z2 PP Zj v4 1) h fun v5 =>
 oD (Z1 PP Z0 v5 h) h fun v6 =>
 oD (Z7 PP .neq Z0 v2 v6) h fun v7 =>
 oV v7 h fun v8 =>
 oG (gW v8 true) (Z1 PP Z3 x4 h) h fun v9 =>
 oG (gW v8 true) (Z2 PP Z8 x5 8) h fun v10 =>
 oG (gW v8 true) (Z1 PP Z0 v10 h) h fun v11 =>
 Zm PP (gW v8 true) Z1V [v9, v11] h fun v12 h1 => oB (True) <|
 oG (gW v8 true) (unI .not v12) h1 fun v13 =>
 oP sT (Ze v8 v13 (.bool false) h1) h1 fun v14 =>
 oV v14 h1 fun v15 =>
 oG (gW v15 true) (Z2 PP Z3 x4 5) h1 fun v16 =>
 oG (gW v15 true) (Z1 PP Z0 v16 h1) h1 fun v17 =>
 oG (gW v15 true) (Z7 PP .neq Z0 v17 (.int .i64 0)) h1 fun v18 =>
 oP sT (Ze v15 v18 (.bool false) h1) h1 fun v19 =>
 oV v19 h1 fun v20 =>
 j14 K x3 x4 x5 x6 x8 x10 v20 h1
abbrev j13 : G6 := j13g j14 j17
def j11 (K : KT) (x3 x4 x5 x6 x8 x10 x52 : IV) (h : Heap) : Prop := bK' x52 (j12 K x6 h) (j13 K x3 x4 x5 x6 x8 x10 h)
abbrev q5 (j11 : G7) (j17 : G4) (K : KT) : QT := Z4 (fun a h => j11 K (a 3) (a 4) (a 5) (a 6) (a 8) (a 10) (a 52) h) (q3 j17 K)
def j10g (j11 : G7) (j17 : G4) (K : KT) (x3 x4 x5 x6 x8 x9 x10 : IV) (h : Heap) : Prop :=
 oD (Z2 PP ZD x9 0) h fun v1 =>
 oD (Z1 PP Z0 v1 h) h fun v2 =>
 oD (Z2 PP Z3 x4 6) h fun v3 =>
 oD (Z1 PP Z0 v3 h) h fun v4 =>
 oD (Z7 PP .gtr Z0 v2 v4) h fun v5 =>
 oV v5 h fun v6 =>
 oG (gW v6 false) (Z2 PP ZD x9 1) h fun v7 =>
 oG (gW v6 false) (Z1 PP Z0 v7 h) h fun v8 =>
 oG (gW v6 false) (Z2 PP Z3 x4 7) h fun v9 =>
 oG (gW v6 false) (Z1 PP Z0 v9 h) h fun v10 =>
 oG (gW v6 false) (Z7 PP .lss Z0 v8 v10) h fun v11 =>
 oP sT (Ze v6 (.bool true) v11 h) h fun v12 =>
 oV v12 h fun v13 =>
 j11 K x3 x4 x5 x6 x8 x10 v13 h
abbrev j10 : G7 := j10g j11 j17
def j8 (K : KT) (x3 x4 x5 x6 x8 x9 x10 x41 : IV) (h : Heap) : Prop := bK' x41 (j9 K x6 h) (j10 K x3 x4 x5 x6 x8 x9 x10 h)
abbrev q6 (j8 : G8) (j17 : G4) (K : KT) : QT := Z4 (fun a h => j8 K (a 3) (a 4) (a 5) (a 6) (a 8) (a 9) (a 10) (a 41) h) (q3 j17 K)
def j7g (j8 : G8) (j17 : G4) (K : KT) (x3 x4 x5 x6 x8 x9 x10 : IV) (h : Heap) : Prop :=
 oV x8 h fun v1 =>
 oP sT (nilI v1 h) h fun v2 =>
 oD (Z2 PP Zj v2 2) h fun v3 =>
 oD (Z1 PP Z0 v3 h) h fun v4 =>
 oD (Z2 PP Z8 x5 8) h fun v5 =>
 oD (Z1 PP Z0 v5 h) h fun v6 =>
 oD (Z7 PP .eql Z0 v4 v6) h fun v7 =>
 oV v7 h fun v8 =>
 j8 K x3 x4 x5 x6 x8 x9 x10 v8 h
abbrev j7 : G7 := j7g j8 j17
abbrev q7 (j7 : G7) (K : KT) : QT := Z4 (fun a h => j7 K (a 3) (a 4) (a 5) (a 6) (a 8) (a 9) (a 10) h) (q1 K)
abbrev q8 (j7 : G7) (K : KT) : QT := Zq 0 (q7 j7 K)
def l1 (K : KT) (x3 x4 x5 x6 x8 x9 x10 x11 : IV) (h : Heap) : Prop := ∀ a : IAct, a 3 = x3 → a 4 = x4 → a 5 = x5 → a 6 = x6 → a 8 = x8 → a 9 = x9 → a 10 = x10 → a 11 = x11 → ILoop PP 121 c24 (q8 j7 K) a h
abbrev q9 (l1 : G8) (j7 : G7) (K : KT) : QT := Z4 (fun a h => l1 K (a 3) (a 4) (a 5) (a 6) (a 8) (a 9) (a 10) (a 11) h) (q8 j7 K)
def j6g (l1 : G8) (j7 : G7) (K : KT) (x3 x4 x5 x6 x8 x9 x10 x11 : IV) (h : Heap) : Prop :=
 oV x11 h fun v1 =>
 oD (Z7 PP .add Z0 v1 (.int .i64 1)) h fun v2 =>
 oV v2 h fun v3 =>
 l1 K x3 x4 x5 x6 x8 x9 x10 v3 h
abbrev j6 : G8 := j6g l1 j7
abbrev q10 (j6 : G8) (l1 : G8) (j7 : G7) (K : KT) : QT := Z4 (fun a h => j6 K (a 3) (a 4) (a 5) (a 6) (a 8) (a 9) (a 10) (a 11) h) (q9 l1 j7 K)
def j5g (j6 : G8) (l1 : G8) (j7 : G7) (K : KT) (x3 x4 x5 x6 x8 x9 x10 x11 : IV) (h : Heap) : Prop :=
 oV x11 h fun v1 =>
 oD (Z2 PP Z8 x5 3) h fun v2 =>
 oD (Z1 PP Z0 v2 h) h fun v3 =>
 oD (Z7 PP .neq Z0 v1 v3) h fun v4 =>
 oV v4 h fun v5 =>
 oG (gW v5 true) (Z1 PP Z3 x4 h) h fun v6 =>
 oG (gW v5 true) (some x11) h fun v7 =>
 Zm PP (gW v5 true) Z3S [v6, v7] h fun v8 h1 =>
 oP sT (Ze v5 v8 (.bool false) h1) h1 fun v9 =>
 bK' v9
   (oV x10 h1 fun v10 =>
   oD (Z7 PP .add Z0 v10 (.int .i64 1)) h1 fun v11 =>
   oV v11 h1 fun v12 =>
   j6 K x3 x4 x5 x6 x8 x9 v12 x11 h1)
   (j6 K x3 x4 x5 x6 x8 x9 x10 x11 h1)
abbrev j5 : G8 := j5g j6 l1 j7
abbrev q11 (j5 : G8) (l1 : G8) (j7 : G7) (K : KT) : QT := Z4 (fun a h => j5 K (a 3) (a 4) (a 5) (a 6) (a 8) (a 9) (a 10) (a 11) h) (q9 l1 j7 K)
def b1g (j5 : G8) (l1 : G8) (j7 : G7) (K : KT) (x3 x4 x5 x6 x8 x9 x10 x11 : IV) (h : Heap) : Prop :=
 oV x11 h fun v1 =>
 oD (Z2 PP Z3 x4 3) h fun v2 =>
 oD (Z1 PP Zl v2 h) h fun v3 =>
 oD (lenI PP Zl v3) h fun v4 =>
 oD (Z7 PP .lss Z0 v1 v4) h fun v5 =>
 bK' v5
   (j5 K x3 x4 x5 x6 x8 x9 x10 x11 h)
   (j7 K x3 x4 x5 x6 x8 x9 x10 h)
abbrev b1 : G8 := b1g j5 l1 j7
abbrev q12 (l1 : G8) (j7 : G7) (K : KT) : QT := Z4 (fun a h => l1 K (a 3) (a 4) (a 5) (a 6) (a 8) (a 9) (a 10) (a 11) h) (q7 j7 K)
def j4g (l1 : G8) (j7 : G7) (K : KT) (x3 x4 x5 x6 x8 x9 x10 : IV) (h : Heap) : Prop :=
 oV (.int .i64 0) h fun v1 =>
 l1 K x3 x4 x5 x6 x8 x9 x10 v1 h
abbrev j4 : G7 := j4g l1 j7
abbrev q13 (j4 : G7) (K : KT) : QT := Z4 (fun a h => j4 K (a 3) (a 4) (a 5) (a 6) (a 8) (a 9) (a 10) h) (q1 K)
def j3g (j4 : G7) (K : KT) (x3 x4 x5 x6 x8 x9 : IV) (h : Heap) : Prop :=
 oV (.int .i64 0) h fun v1 =>
 j4 K x3 x4 x5 x6 x8 x9 v1 h
abbrev j3 : G6 := j3g j4
abbrev q14 (j3 : G6) (K : KT) : QT := Z4 (fun a h => j3 K (a 3) (a 4) (a 5) (a 6) (a 8) (a 9) h) (q1 K)
def j2g (j3 : G6) (K : KT) (x3 x4 x5 x6 x8 : IV) (h : Heap) : Prop :=
 oD (Z2 PP Z6 x3 4) h fun v1 =>
 oD (Z1 PP ZI v1 h) h fun v2 =>
 oD (Z2 PP Z8 x5 8) h fun v3 =>
 oD (Z1 PP Z0 v3 h) h fun v4 =>
 oD (Zf PP ZI v2 v4 h) h fun v5 =>
 oD (Z1 PP ZD v5 h) h fun v6 =>
 oA (Zp PP ZD h) h fun v7 h1 =>
 oS (Z9 PP ZD v7 v6 h1) h1 fun h2 =>
 j3 K x3 x4 x5 x6 x8 v7 h2
abbrev j2 : G5 := j2g j3
abbrev q15 (j2 : G5) (K : KT) : QT := Z4 (fun a h => j2 K (a 3) (a 4) (a 5) (a 6) (a 8) h) (q1 K)
def j1g (j2 : G5) (K : KT) (x3 x4 x5 x6 : IV) (h : Heap) : Prop :=
 oD (Z2 PP Z3 x4 3) h fun v1 =>
 oD (Z1 PP Zl v1 h) h fun v2 =>
 oD (Z2 PP Z8 x5 3) h fun v3 =>
 oD (Z1 PP Z0 v3 h) h fun v4 =>
 oD (Zf PP Zl v2 v4 h) h fun v5 =>
 oV v5 h fun v6 =>
 j2 K x3 x4 x5 x6 v6 h
abbrev j1 : G4 := j1g j2
abbrev q16 (j1 : G4) (K : KT) : QT := Z4 (fun a h => j1 K (a 3) (a 4) (a 5) (a 6) h) (q1 K)
def eg (j1 : G4) (K : KT) (x0 x1 x2 : IV) (h : Heap) : Prop :=
 oA (Zi Z6 x0 h) h fun v1 h1 =>
 oA (Zi Z3 x1 h1) h1 fun v2 h2 =>
 oA (Zi Z8 x2 h2) h2 fun v3 h3 =>
 oA (Zp PP Z3 h3) h3 fun v4 h4 =>
 oV (.int .i64 0) h4 fun v5 =>
 j1 K v1 v2 v3 v4 h4
abbrev e : G3 := eg j1
theorem u6 (p : j17 K (a 4) (a 5) (a 6) (a 8) h) : I c6 (q1 K) a h := ICx.to p
theorem j9_ok (j17 : G4) : I c10 (q3 j17 K) a h = j9g j17 K (a 6) h := by kernel_rfl
theorem u10 (p : j9 K (a 6) h) : I c10 (q3 j17 K) a h := ICx.to p (j9_ok j17)
theorem j12_ok (j17 : G4) : I c13 (q3 j17 K) a h = j12g j17 K (a 6) h := by kernel_rfl
theorem u13 (p : j12 K (a 6) h) : I c13 (q3 j17 K) a h := ICx.to p (j12_ok j17)
theorem j15_ok (j17 : G4) : I c16 (q3 j17 K) a h = j15g j17 K (a 6) h := by kernel_rfl
theorem u16 (p : j15 K (a 6) h) : I c16 (q3 j17 K) a h := ICx.to p (j15_ok j17)
theorem j16_ok (j17 : G4) : I c17 (q3 j17 K) a h = j16g j17 K (a 3) (a 4) (a 5) (a 6) (a 8) (a 10) h := by kernel_rfl
theorem u17 (p : j16 K (a 3) (a 4) (a 5) (a 6) (a 8) (a 10) h) : I c17 (q3 j17 K) a h := ICx.to p (j16_ok j17)
theorem u15 (p : j14 K (a 3) (a 4) (a 5) (a 6) (a 8) (a 10) (a 68) h) : I c15 (q3 j17 K) a h := ICx.cnd (o := (Go.Operand.tmp 68)) u16 u17 p
theorem j13_ok (j14 : G7) (j17 : G4) : I c18 (q4 j14 j17 K) a h = j13g j14 j17 K (a 3) (a 4) (a 5) (a 6) (a 8) (a 10) h := by kernel_rfl
theorem u18 (p : j13 K (a 3) (a 4) (a 5) (a 6) (a 8) (a 10) h) : I c18 (q4 j14 j17 K) a h := ICx.to p (j13_ok j14 j17)
theorem u14 (p : j13 K (a 3) (a 4) (a 5) (a 6) (a 8) (a 10) h) : I c14 (q3 j17 K) a h := ICx.sq (fun _ _ => u15) (u18 p)
theorem u12 (p : j11 K (a 3) (a 4) (a 5) (a 6) (a 8) (a 10) (a 52) h) : I c12 (q3 j17 K) a h := ICx.cnd (o := (Go.Operand.tmp 52)) u13 u14 p
theorem j10_ok (j11 : G7) (j17 : G4) : I c19 (q5 j11 j17 K) a h = j10g j11 j17 K (a 3) (a 4) (a 5) (a 6) (a 8) (a 9) (a 10) h := by kernel_rfl
theorem u19 (p : j10 K (a 3) (a 4) (a 5) (a 6) (a 8) (a 9) (a 10) h) : I c19 (q5 j11 j17 K) a h := ICx.to p (j10_ok j11 j17)
theorem u11 (p : j10 K (a 3) (a 4) (a 5) (a 6) (a 8) (a 9) (a 10) h) : I c11 (q3 j17 K) a h := ICx.sq (fun _ _ => u12) (u19 p)
theorem u9 (p : j8 K (a 3) (a 4) (a 5) (a 6) (a 8) (a 9) (a 10) (a 41) h) : I c9 (q3 j17 K) a h := ICx.cnd (o := (Go.Operand.tmp 41)) u10 u11 p
theorem j7_ok (j8 : G8) (j17 : G4) : I c20 (q6 j8 j17 K) a h = j7g j8 j17 K (a 3) (a 4) (a 5) (a 6) (a 8) (a 9) (a 10) h := by kernel_rfl
theorem u20 (p : j7 K (a 3) (a 4) (a 5) (a 6) (a 8) (a 9) (a 10) h) : I c20 (q6 j8 j17 K) a h := ICx.to p (j7_ok j8 j17)
theorem u8 (p : j7 K (a 3) (a 4) (a 5) (a 6) (a 8) (a 9) (a 10) h) : I c8 (q3 j17 K) a h := ICx.sq (fun _ _ => u9) (u20 p)
theorem u7 (p : j7 K (a 3) (a 4) (a 5) (a 6) (a 8) (a 9) (a 10) h) : I c7 (q2 j17 K) a h := ICx.blk (u8 p)
theorem u5 (p : j7 K (a 3) (a 4) (a 5) (a 6) (a 8) (a 9) (a 10) h) : I c5 (q1 K) a h := ICx.sq (fun _ _ => u6) (u7 p)
theorem j6_ok (l1 : G8) (j7 : G7) : I c26 (q9 l1 j7 K) a h = j6g l1 j7 K (a 3) (a 4) (a 5) (a 6) (a 8) (a 9) (a 10) (a 11) h := by kernel_rfl
theorem u26 (p : j6 K (a 3) (a 4) (a 5) (a 6) (a 8) (a 9) (a 10) (a 11) h) : I c26 (q9 l1 j7 K) a h := ICx.to p (j6_ok l1 j7)
theorem j5_ok (j6 : G8) (l1 : G8) (j7 : G7) : I c27 (q10 j6 l1 j7 K) a h = j5g j6 l1 j7 K (a 3) (a 4) (a 5) (a 6) (a 8) (a 9) (a 10) (a 11) h := by kernel_rfl
theorem u27 (p : j5 K (a 3) (a 4) (a 5) (a 6) (a 8) (a 9) (a 10) (a 11) h) : I c27 (q10 j6 l1 j7 K) a h := ICx.to p (j5_ok j6 l1 j7)
theorem u25 (p : j5 K (a 3) (a 4) (a 5) (a 6) (a 8) (a 9) (a 10) (a 11) h) : I c25 (q9 l1 j7 K) a h := ICx.sq (fun _ _ => u26) (u27 p)
theorem b1_ok (j5 : G8) (l1 : G8) (j7 : G7) : I c28 (q11 j5 l1 j7 K) a h = b1g j5 l1 j7 K (a 3) (a 4) (a 5) (a 6) (a 8) (a 9) (a 10) (a 11) h := by kernel_rfl
theorem u28 (p : b1 K (a 3) (a 4) (a 5) (a 6) (a 8) (a 9) (a 10) (a 11) h) : I c28 (q11 j5 l1 j7 K) a h := ICx.to p (b1_ok j5 l1 j7)
theorem u24 (p : b1 K (a 3) (a 4) (a 5) (a 6) (a 8) (a 9) (a 10) (a 11) h) : I c24 (q9 l1 j7 K) a h := ICx.sq (fun _ _ => u25) (u28 p)
theorem u23 (p : l1 K (a 3) (a 4) (a 5) (a 6) (a 8) (a 9) (a 10) (a 11) h) : I c23 (q8 j7 K) a h := ICx.lp (p a rfl rfl rfl rfl rfl rfl rfl rfl)
theorem l1_round {x3 x4 x5 x6 x8 x9 x10 x11 : IV} (p : b1 K x3 x4 x5 x6 x8 x9 x10 x11 h) : l1 K x3 x4 x5 x6 x8 x9 x10 x11 h := by
  intro a e3 e4 e5 e6 e8 e9 e10 e11
  subst e3; subst e4; subst e5; subst e6; subst e8; subst e9; subst e10; subst e11; exact ICx.round Try.mixed (D := D) (L := fun a h => l1 K (a 3) (a 4) (a 5) (a 6) (a 8) (a 9) (a 10) (a 11) h) (fun a h p => p a rfl rfl rfl rfl rfl rfl rfl rfl) (u24 p)
theorem u22 (p : l1 K (a 3) (a 4) (a 5) (a 6) (a 8) (a 9) (a 10) (a 11) h) : I c22 (q7 j7 K) a h := ICx.blk (u23 p)
theorem j4_ok (l1 : G8) (j7 : G7) : I c29 (q12 l1 j7 K) a h = j4g l1 j7 K (a 3) (a 4) (a 5) (a 6) (a 8) (a 9) (a 10) h := by kernel_rfl
theorem u29 (p : j4 K (a 3) (a 4) (a 5) (a 6) (a 8) (a 9) (a 10) h) : I c29 (q12 l1 j7 K) a h := ICx.to p (j4_ok l1 j7)
theorem u21 (p : j4 K (a 3) (a 4) (a 5) (a 6) (a 8) (a 9) (a 10) h) : I c21 (q7 j7 K) a h := ICx.sq (fun _ _ => u22) (u29 p)
theorem u4 (p : j4 K (a 3) (a 4) (a 5) (a 6) (a 8) (a 9) (a 10) h) : I c4 (q1 K) a h := ICx.sq (fun _ _ => u5) (u21 p)
theorem j3_ok (j4 : G7) : I c30 (q13 j4 K) a h = j3g j4 K (a 3) (a 4) (a 5) (a 6) (a 8) (a 9) h := by kernel_rfl
theorem u30 (p : j3 K (a 3) (a 4) (a 5) (a 6) (a 8) (a 9) h) : I c30 (q13 j4 K) a h := ICx.to p (j3_ok j4)
theorem u3 (p : j3 K (a 3) (a 4) (a 5) (a 6) (a 8) (a 9) h) : I c3 (q1 K) a h := ICx.sq (fun _ _ => u4) (u30 p)
theorem j2_ok (j3 : G6) : I c31 (q14 j3 K) a h = j2g j3 K (a 3) (a 4) (a 5) (a 6) (a 8) h := by kernel_rfl
theorem u31 (p : j2 K (a 3) (a 4) (a 5) (a 6) (a 8) h) : I c31 (q14 j3 K) a h := ICx.to p (j2_ok j3)
theorem u2 (p : j2 K (a 3) (a 4) (a 5) (a 6) (a 8) h) : I c2 (q1 K) a h := ICx.sq (fun _ _ => u3) (u31 p)
theorem j1_ok (j2 : G5) : I c32 (q15 j2 K) a h = j1g j2 K (a 3) (a 4) (a 5) (a 6) h := by kernel_rfl
theorem u32 (p : j1 K (a 3) (a 4) (a 5) (a 6) h) : I c32 (q15 j2 K) a h := ICx.to p (j1_ok j2)
theorem u1 (p : j1 K (a 3) (a 4) (a 5) (a 6) h) : I c1 (q1 K) a h := ICx.sq (fun _ _ => u2) (u32 p)
theorem e_ok (j1 : G4) : I c33 (q16 j1 K) a h = eg j1 K (a 0) (a 1) (a 2) h := by kernel_rfl
theorem u33 (p : e K (a 0) (a 1) (a 2) h) : I c33 (q16 j1 K) a h := ICx.to p (e_ok j1)
theorem u0 (p : e K (a 0) (a 1) (a 2) h) : I c0 (q1 K) a h := ICx.sq (fun _ _ => u1) (u33 p)
theorem call {x0 x1 x2 : IV} (p : e K x0 x1 x2 h) : Z5 PP Z3K [x0, x1, x2] h K :=
  ICx.fn Try.mixed Try.func67 rfl (Nat.le_of_ble_eq_true rfl) (u0 (a := actI [x0, x1, x2]) p)
end ZQ
namespace Z19
def D : Nat → DI
  | 2 => ⟨[0, 1, 0, 4, 12, 28, 63, 127, 255, 511, 1023, 2047, 255, 4351, 12543, 28927, 65535, 131071, 262143], [0, 1, 2, 3, 4, 5, 6, 7, 8, 9, 10, 11, 12, 13, 14, 15, 16, 17, 18], []⟩
  | 12 => ⟨[0, 0, 0, 4, 0, 16, 13, 77, 205, 511, 1023, 2047], [0, 1, 2, 3, 4, 5, 6, 7, 8, 9, 10, 11], []⟩
  | _ => ⟨[], [], []⟩
abbrev I := ICx PP 89 D
def c0 : Code := bodyN Try.f68
def c1 : Code := cR c0
def c2 : Code := cR c1
def c3 : Code := cR c2
def c4 : Code := cR c3
def c5 : Code := cL c3
def c6 : Code := cR c5
def c7 : Code := cL c6
def c8 : Code := cL c7
def c9 : Code := cR c8
def c10 : Code := cR c9
def c11 : Code := cL c9
def c12 : Code := cL c8
def c13 : Code := cL c5
def c14 : Code := cL c2
def c15 : Code := cL c14
def c16 : Code := cR c15
def c17 : Code := cL c16
def c18 : Code := cR c16
def c19 : Code := cL c15
def c20 : Code := cL c1
def c21 : Code := cL c0
abbrev q1 (K : KT) : QT := finK PP Try.f68.results.toList K
def j9 (K : KT) (x2 x3 x4 x6 : IV) (h : Heap) : Prop :=
 oV x6 h fun v1 =>
 oV x6 h fun v2 =>
 oD (Z2 PP Z8 x3 8) h fun v3 =>
 oD (Z1 PP Z0 v3 h) h fun v4 =>
 oD (Z2 PP Z8 x3 1) h fun v5 =>
 oD (Z1 PP Z0 v5 h) h fun v6 =>
 oP sT (nilI v1 h) h fun v7 =>
 oD (Z2 PP Zj v7 1) h fun v8 =>
 oS (Z9 PP Z0 v8 v4 h) h fun h1 => oB ((Zb (Z1 PP Z0 v5 h1) v6 h1) ∧ True) <|
 oP sT (nilI v2 h1) h1 fun v9 =>
 oD (Z2 PP Zj v9 3) h1 fun v10 =>
 oS (Z9 PP Z0 v10 v6 h1) h1 fun h2 => oB (True) <|
 oD (Z1 PP Z3 x2 h2) h2 fun v11 =>
 oS (Z9 PP Z3 x4 v11 h2) h2 fun h3 =>
 oV (.int .i64 0) h3 fun v12 =>
 Zd PP [.c x4 Z3, .v v12] h3 K
abbrev q2 (j9 : G4) (K : KT) : QT := Z4 (fun a h => j9 K (a 2) (a 3) (a 4) (a 6) h) (q1 K)
abbrev q3 (j9 : G4) (K : KT) : QT := Zq 1 (q2 j9 K)
def l1 (K : KT) (x2 x3 x4 x6 x7 : IV) (h : Heap) : Prop := ∀ a : IAct, a 2 = x2 → a 3 = x3 → a 4 = x4 → a 6 = x6 → a 7 = x7 → ILoop PP 89 c8 (q3 j9 K) a h
abbrev q4 (l1 : G5) (j9 : G4) (K : KT) : QT := Z4 (fun a h => l1 K (a 2) (a 3) (a 4) (a 6) (a 7) h) (q3 j9 K)
def j8g (l1 : G5) (j9 : G4) (K : KT) (x2 x3 x4 x6 x7 : IV) (h : Heap) : Prop :=
 oV x7 h fun v1 =>
 oD (Z7 PP .add Z0 v1 (.int .i64 1)) h fun v2 =>
 oV v2 h fun v3 =>
 l1 K x2 x3 x4 x6 v3 h
abbrev j8 : G5 := j8g l1 j9
abbrev q5 (j8 : G5) (l1 : G5) (j9 : G4) (K : KT) : QT := Z4 (fun a h => j8 K (a 2) (a 3) (a 4) (a 6) (a 7) h) (q4 l1 j9 K)
def j7g (j8 : G5) (l1 : G5) (j9 : G4) (K : KT) (x2 x3 x4 x6 x7 : IV) (h : Heap) : Prop :=
 oD (Z2 PP Z3 x2 2) h fun v1 =>
 oD (Z1 PP Zh v1 h) h fun v2 =>
 oV x7 h fun v3 =>
 oD (Zf PP Zh v2 v3 h) h fun v4 =>
 oD (Z2 PP Za v4 7) h fun v5 =>
 oD (Z1 PP Zu v5 h) h fun v6 =>
 oA (Zp PP Zu h) h fun v7 h1 =>
 oS (Z9 PP Zu v7 v6 h1) h1 fun h2 =>
 oD (Z2 PP Zu v7 0) h2 fun v8 =>
 oD (Z1 PP Z0 v8 h2) h2 fun v9 =>
 oD (Z2 PP Z8 x3 3) h2 fun v10 =>
 oD (Z1 PP Z0 v10 h2) h2 fun v11 =>
 oD (Z7 PP .eql Z0 v9 v11) h2 fun v12 =>
 oV v12 h2 fun v13 =>
 oG (gW v13 true) (Z2 PP Zu v7 4) h2 fun v14 =>
 oG (gW v13 true) (Z1 PP Z0 v14 h2) h2 fun v15 =>
 oG (gW v13 true) (Z2 PP Z8 x3 1) h2 fun v16 =>
 oG (gW v13 true) (Z1 PP Z0 v16 h2) h2 fun v17 =>
 oG (gW v13 true) (Z7 PP .gtr Z0 v15 v17) h2 fun v18 =>
 oP sT (Ze v13 v18 (.bool false) h2) h2 fun v19 =>
 bK' v19
   (Z5 PP Zv [.int .i64 9] h2 fun v20 h3 =>
   oD (Zg v20 0) h3 fun v21 =>
   oD (Zg v20 1) h3 fun v22 =>
   oS (Z9 PP Z3 x4 v21 h3) h3 fun h4 =>
   oV v22 h4 fun v23 =>
   Zd PP [.c x4 Z3, .v v23] h4 K)
   (j8 K x2 x3 x4 x6 x7 h2)
abbrev j7 : G5 := j7g j8 l1 j9
abbrev q6 (j7 : G5) (l1 : G5) (j9 : G4) (K : KT) : QT := Z4 (fun a h => j7 K (a 2) (a 3) (a 4) (a 6) (a 7) h) (q4 l1 j9 K)
def b1g (j7 : G5) (l1 : G5) (j9 : G4) (K : KT) (x2 x3 x4 x6 x7 : IV) (h : Heap) : Prop :=
 oV x7 h fun v1 =>
 oD (Z2 PP Z3 x2 2) h fun v2 =>
 oD (Z1 PP Zh v2 h) h fun v3 =>
 oD (lenI PP Zh v3) h fun v4 =>
 oD (Z7 PP .lss Z0 v1 v4) h fun v5 =>
 bK' v5
   (j7 K x2 x3 x4 x6 x7 h)
   (j9 K x2 x3 x4 x6 h)
abbrev b1 : G5 := b1g j7 l1 j9
abbrev q7 (l1 : G5) (j9 : G4) (K : KT) : QT := Z4 (fun a h => l1 K (a 2) (a 3) (a 4) (a 6) (a 7) h) (q2 j9 K)
def j6g (l1 : G5) (j9 : G4) (K : KT) (x2 x3 x4 x6 : IV) (h : Heap) : Prop :=
 oV (.int .i64 0) h fun v1 =>
 l1 K x2 x3 x4 x6 v1 h
abbrev j6 : G4 := j6g l1 j9
abbrev q8 (j6 : G4) (K : KT) : QT := Z4 (fun a h => j6 K (a 2) (a 3) (a 4) (a 6) h) (q1 K)
abbrev q9 (j6 : G4) (K : KT) : QT := Zq 0 (q8 j6 K)
def j4g (j6 : G4) (K : KT) (x4 : IV) (h : Heap) : Prop :=
 Z5 PP Zv [.int .i64 4] h fun v1 h1 =>
 oD (Zg v1 0) h1 fun v2 =>
 oD (Zg v1 1) h1 fun v3 =>
 oS (Z9 PP Z3 x4 v2 h1) h1 fun h2 =>
 oV v3 h2 fun v4 =>
 Zd PP [.c x4 Z3, .v v4] h2 K
abbrev j4 : G1 := j4g j6
def j5g (j6 : G4) (K : KT) (x2 x3 x4 x6 : IV) (h : Heap) : Prop :=
 oD (Z1 PP Z3 x2 h) h fun v1 =>
 oD (Z2 PP Z8 x3 8) h fun v2 =>
 oD (Z1 PP Z0 v2 h) h fun v3 =>
 Z5 PP Z1V [v1, v3] h fun v4 h1 =>
 oD (unI .not v4) h1 fun v5 =>
 oV v5 h1 fun v6 =>
 oG (gW v6 true) (Z2 PP Z3 x2 5) h1 fun v7 =>
 oG (gW v6 true) (Z1 PP Z0 v7 h1) h1 fun v8 =>
 oG (gW v6 true) (Z7 PP .neq Z0 v8 (.int .i64 0)) h1 fun v9 =>
 oP sT (Ze v6 v9 (.bool false) h1) h1 fun v10 =>
 oV v10 h1 fun v11 =>
 bK' v11
   (Z5 PP Zv [.int .i64 12] h1 fun v12 h2 =>
   oD (Zg v12 0) h2 fun v13 =>
   oD (Zg v12 1) h2 fun v14 =>
   oS (Z9 PP Z3 x4 v13 h2) h2 fun h3 =>
   oV v14 h3 fun v15 =>
   Zd PP [.c x4 Z3, .v v15] h3 K)
   (j6 K x2 x3 x4 x6 h1)
abbrev j5 : G4 := j5g j6
def j3 (K : KT) (x2 x3 x4 x6 x14 : IV) (h : Heap) : Prop := bK' x14 (j4 K x4 h) (j5 K x2 x3 x4 x6 h)
abbrev q10 (j3 : G5) (j6 : G4) (K : KT) : QT := Z4 (fun a h => j3 K (a 2) (a 3) (a 4) (a 6) (a 14) h) (q9 j6 K)
def j2g (j3 : G5) (j6 : G4) (K : KT) (x2 x3 x4 x6 : IV) (h : Heap) : Prop :=
 oD (Z2 PP Z8 x3 8) h fun v1 =>
 oD (Z1 PP Z0 v1 h) h fun v2 =>
 oV x6 h fun v3 =>
 oP sT (nilI v3 h) h fun v4 =>
 oD (Z2 PP Zj v4 2) h fun v5 =>
 oD (Z1 PP Z0 v5 h) h fun v6 =>
 oD (Z7 PP .neq Z0 v2 v6) h fun v7 =>
 oV v7 h fun v8 =>
 oG (gW v8 false) (some x6) h fun v9 =>
 oP (gW v8 false) (nilI v9 h) h fun v10 =>
 oG (gW v8 false) (Z2 PP Zj v10 1) h fun v11 =>
 oG (gW v8 false) (Z1 PP Z0 v11 h) h fun v12 =>
 oG (gW v8 false) (some x6) h fun v13 =>
 oP (gW v8 false) (nilI v13 h) h fun v14 =>
 oG (gW v8 false) (Z2 PP Zj v14 2) h fun v15 =>
 oG (gW v8 false) (Z1 PP Z0 v15 h) h fun v16 =>
 oG (gW v8 false) (Z7 PP .eql Z0 v12 v16) h fun v17 =>
 oP sT (Ze v8 (.bool true) v17 h) h fun v18 =>
 oV v18 h fun v19 =>
 j3 K x2 x3 x4 x6 v19 h
abbrev j2 : G4 := j2g j3 j6
abbrev q11 (j2 : G4) (K : KT) : QT := Z4 (fun a h => j2 K (a 2) (a 3) (a 4) (a 6) h) (q1 K)
def j1g (j2 : G4) (K : KT) (x2 x3 x4 : IV) (h : Heap) : Prop :=
 oD (Z2 PP Z3 x2 3) h fun v1 =>
 oD (Z1 PP Zl v1 h) h fun v2 =>
 oD (Z2 PP Z8 x3 3) h fun v3 =>
 oD (Z1 PP Z0 v3 h) h fun v4 =>
 oD (Zf PP Zl v2 v4 h) h fun v5 =>
 oV v5 h fun v6 =>
 j2 K x2 x3 x4 v6 h
abbrev j1 : G3 := j1g j2
abbrev q12 (j1 : G3) (K : KT) : QT := Z4 (fun a h => j1 K (a 2) (a 3) (a 4) h) (q1 K)
def eg (j1 : G3) (K : KT) (x0 x1 : IV) (h : Heap) : Prop :=
 oA (Zi Z3 x0 h) h fun v1 h1 =>
 oA (Zi Z8 x1 h1) h1 fun v2 h2 =>
 oA (Zp PP Z3 h2) h2 fun v3 h3 =>
 oV (.int .i64 0) h3 fun v4 =>
 j1 K v1 v2 v3 h3
abbrev e : G2 := eg j1
theorem u4 (p : j9 K (a 2) (a 3) (a 4) (a 6) h) : I c4 (q1 K) a h := ICx.to p
theorem j8_ok (l1 : G5) (j9 : G4) : I c10 (q4 l1 j9 K) a h = j8g l1 j9 K (a 2) (a 3) (a 4) (a 6) (a 7) h := by kernel_rfl
theorem u10 (p : j8 K (a 2) (a 3) (a 4) (a 6) (a 7) h) : I c10 (q4 l1 j9 K) a h := ICx.to p (j8_ok l1 j9)
theorem j7_ok (j8 : G5) (l1 : G5) (j9 : G4) : I c11 (q5 j8 l1 j9 K) a h = j7g j8 l1 j9 K (a 2) (a 3) (a 4) (a 6) (a 7) h := by kernel_rfl
theorem u11 (p : j7 K (a 2) (a 3) (a 4) (a 6) (a 7) h) : I c11 (q5 j8 l1 j9 K) a h := ICx.to p (j7_ok j8 l1 j9)
theorem u9 (p : j7 K (a 2) (a 3) (a 4) (a 6) (a 7) h) : I c9 (q4 l1 j9 K) a h := ICx.sq (fun _ _ => u10) (u11 p)
theorem b1_ok (j7 : G5) (l1 : G5) (j9 : G4) : I c12 (q6 j7 l1 j9 K) a h = b1g j7 l1 j9 K (a 2) (a 3) (a 4) (a 6) (a 7) h := by kernel_rfl
theorem u12 (p : b1 K (a 2) (a 3) (a 4) (a 6) (a 7) h) : I c12 (q6 j7 l1 j9 K) a h := ICx.to p (b1_ok j7 l1 j9)
theorem u8 (p : b1 K (a 2) (a 3) (a 4) (a 6) (a 7) h) : I c8 (q4 l1 j9 K) a h := ICx.sq (fun _ _ => u9) (u12 p)
theorem u7 (p : l1 K (a 2) (a 3) (a 4) (a 6) (a 7) h) : I c7 (q3 j9 K) a h := ICx.lp (p a rfl rfl rfl rfl rfl)
theorem l1_round {x2 x3 x4 x6 x7 : IV} (p : b1 K x2 x3 x4 x6 x7 h) : l1 K x2 x3 x4 x6 x7 h := by
  intro a e2 e3 e4 e6 e7
  subst e2; subst e3; subst e4; subst e6; subst e7; exact ICx.round Try.mixed (D := D) (L := fun a h => l1 K (a 2) (a 3) (a 4) (a 6) (a 7) h) (fun a h p => p a rfl rfl rfl rfl rfl) (u8 p)
theorem u6 (p : l1 K (a 2) (a 3) (a 4) (a 6) (a 7) h) : I c6 (q2 j9 K) a h := ICx.blk (u7 p)
theorem j6_ok (l1 : G5) (j9 : G4) : I c13 (q7 l1 j9 K) a h = j6g l1 j9 K (a 2) (a 3) (a 4) (a 6) h := by kernel_rfl
theorem u13 (p : j6 K (a 2) (a 3) (a 4) (a 6) h) : I c13 (q7 l1 j9 K) a h := ICx.to p (j6_ok l1 j9)
theorem u5 (p : j6 K (a 2) (a 3) (a 4) (a 6) h) : I c5 (q2 j9 K) a h := ICx.sq (fun _ _ => u6) (u13 p)
theorem u3 (p : j6 K (a 2) (a 3) (a 4) (a 6) h) : I c3 (q1 K) a h := ICx.sq (fun _ _ => u4) (u5 p)
theorem j4_ok (j6 : G4) : I c17 (q9 j6 K) a h = j4g j6 K (a 4) h := by kernel_rfl
theorem u17 (p : j4 K (a 4) h) : I c17 (q9 j6 K) a h := ICx.to p (j4_ok j6)
theorem j5_ok (j6 : G4) : I c18 (q9 j6 K) a h = j5g j6 K (a 2) (a 3) (a 4) (a 6) h := by kernel_rfl
theorem u18 (p : j5 K (a 2) (a 3) (a 4) (a 6) h) : I c18 (q9 j6 K) a h := ICx.to p (j5_ok j6)
theorem u16 (p : j3 K (a 2) (a 3) (a 4) (a 6) (a 14) h) : I c16 (q9 j6 K) a h := ICx.cnd (o := (Go.Operand.tmp 14)) u17 u18 p
theorem j2_ok (j3 : G5) (j6 : G4) : I c19 (q10 j3 j6 K) a h = j2g j3 j6 K (a 2) (a 3) (a 4) (a 6) h := by kernel_rfl
theorem u19 (p : j2 K (a 2) (a 3) (a 4) (a 6) h) : I c19 (q10 j3 j6 K) a h := ICx.to p (j2_ok j3 j6)
theorem u15 (p : j2 K (a 2) (a 3) (a 4) (a 6) h) : I c15 (q9 j6 K) a h := ICx.sq (fun _ _ => u16) (u19 p)
theorem u14 (p : j2 K (a 2) (a 3) (a 4) (a 6) h) : I c14 (q8 j6 K) a h := ICx.blk (u15 p)
theorem u2 (p : j2 K (a 2) (a 3) (a 4) (a 6) h) : I c2 (q1 K) a h := ICx.sq (fun _ _ => u3) (u14 p)
theorem j1_ok (j2 : G4) : I c20 (q11 j2 K) a h = j1g j2 K (a 2) (a 3) (a 4) h := by kernel_rfl
theorem u20 (p : j1 K (a 2) (a 3) (a 4) h) : I c20 (q11 j2 K) a h := ICx.to p (j1_ok j2)
theorem u1 (p : j1 K (a 2) (a 3) (a 4) h) : I c1 (q1 K) a h := ICx.sq (fun _ _ => u2) (u20 p)
theorem e_ok (j1 : G3) : I c21 (q12 j1 K) a h = eg j1 K (a 0) (a 1) h := by kernel_rfl
theorem u21 (p : e K (a 0) (a 1) h) : I c21 (q12 j1 K) a h := ICx.to p (e_ok j1)
theorem u0 (p : e K (a 0) (a 1) h) : I c0 (q1 K) a h := ICx.sq (fun _ _ => u1) (u21 p)
theorem call {x0 x1 : IV} (p : e K x0 x1 h) : Z5 PP Z3L [x0, x1] h K :=
  ICx.fn Try.mixed Try.func68 rfl (Nat.le_of_ble_eq_true rfl) (u0 (a := actI [x0, x1]) p)
end Z19
namespace Z1x
def D : Nat → DI
  | _ => ⟨[], [], []⟩
abbrev I := ICx PP 68 D
def c0 : Code := bodyN Try.f69
def c1 : Code := cR c0
def c2 : Code := cR c1
def c3 : Code := cR c2
def c4 : Code := cL c2
def c5 : Code := cR c4
def c6 : Code := cL c5
def c7 : Code := cL c6
def c8 : Code := cR c7
def c9 : Code := cR c8
def c10 : Code := cL c8
def c11 : Code := cL c7
def c12 : Code := cL c4
def c13 : Code := cL c1
def c14 : Code := cL c0
abbrev q1 (K : KT) : QT := finK PP Try.f69.results.toList K
def j5 (K : KT) (x6 : IV) (h : Heap) : Prop :=
 Z5 PP Zv [.int .i64 15] h fun v1 h1 =>
 oD (Zg v1 0) h1 fun v2 =>
 oD (Zg v1 1) h1 fun v3 =>
 oS (Z9 PP Z3 x6 v2 h1) h1 fun h2 =>
 oV v3 h2 fun v4 =>
 Zd PP [.c x6 Z3, .v v4] h2 K
abbrev q2 (j5 : G1) (K : KT) : QT := Z4 (fun a h => j5 K (a 6) h) (q1 K)
abbrev q3 (j5 : G1) (K : KT) : QT := Zq 0 (q2 j5 K)
def l1 (K : KT) (x3 x4 x5 x6 x8 : IV) (h : Heap) : Prop := ∀ a : IAct, a 3 = x3 → a 4 = x4 → a 5 = x5 → a 6 = x6 → a 8 = x8 → ILoop PP 68 c7 (q3 j5 K) a h
abbrev q4 (l1 : G5) (j5 : G1) (K : KT) : QT := Z4 (fun a h => l1 K (a 3) (a 4) (a 5) (a 6) (a 8) h) (q3 j5 K)
def j4g (l1 : G5) (j5 : G1) (K : KT) (x3 x4 x5 x6 x8 : IV) (h : Heap) : Prop :=
 oV x8 h fun v1 =>
 oD (Z7 PP .add Z0 v1 (.int .i64 1)) h fun v2 =>
 oV v2 h fun v3 =>
 l1 K x3 x4 x5 x6 v3 h
abbrev j4 : G5 := j4g l1 j5
abbrev q5 (j4 : G5) (l1 : G5) (j5 : G1) (K : KT) : QT := Z4 (fun a h => j4 K (a 3) (a 4) (a 5) (a 6) (a 8) h) (q4 l1 j5 K)
def j3g (j4 : G5) (l1 : G5) (j5 : G1) (K : KT) (x3 x4 x5 x6 x8 : IV) (h : Heap) : Prop :=
 oD (Z2 PP Z3 x4 3) h fun v1 =>
 oD (Z1 PP Zl v1 h) h fun v2 =>
 oV x8 h fun v3 =>
 oD (Zf PP Zl v2 v3 h) h fun v4 =>
 oD (Z1 PP Zj v4 h) h fun v5 =>
 oA (Zp PP Zj h) h fun v6 h1 =>
 oS (Z9 PP Zj v6 v5 h1) h1 fun h2 =>
 oD (Z2 PP Zj v6 0) h2 fun v7 =>
 oD (Z1 PP Z0 v7 h2) h2 fun v8 =>
 oD (Z7 PP .neq Z0 v8 (.int .i64 3)) h2 fun v9 =>
 oV v9 h2 fun v10 =>
 oG (gW v10 true) (Z2 PP Zj v6 1) h2 fun v11 =>
 oG (gW v10 true) (Z1 PP Z0 v11 h2) h2 fun v12 =>
 oG (gW v10 true) (Z2 PP Z8 x5 8) h2 fun v13 =>
 oG (gW v10 true) (Z1 PP Z0 v13 h2) h2 fun v14 =>
 oG (gW v10 true) (Z7 PP .eql Z0 v12 v14) h2 fun v15 =>
 oP sT (Ze v10 v15 (.bool false) h2) h2 fun v16 =>
 oV v16 h2 fun v17 =>
 oG (gW v17 true) (Z2 PP Zj v6 2) h2 fun v18 =>
 oG (gW v17 true) (Z1 PP Z0 v18 h2) h2 fun v19 =>
 oG (gW v17 true) (Z2 PP Z8 x5 8) h2 fun v20 =>
 oG (gW v17 true) (Z1 PP Z0 v20 h2) h2 fun v21 =>
 oG (gW v17 true) (Z7 PP .eql Z0 v19 v21) h2 fun v22 =>
 oP sT (Ze v17 v22 (.bool false) h2) h2 fun v23 =>
 oV v23 h2 fun v24 =>
 oG (gW v24 true) (Z2 PP Z8 x5 1) h2 fun v25 =>
 oG (gW v24 true) (Z1 PP Z0 v25 h2) h2 fun v26 =>
 oG (gW v24 true) (Z2 PP Zj v6 3) h2 fun v27 =>
 oG (gW v24 true) (Z1 PP Z0 v27 h2) h2 fun v28 =>
 oG (gW v24 true) (Z7 PP .sub Z0 v26 v28) h2 fun v29 =>
 oG (gW v24 true) (Z2 PP Z6 x3 9) h2 fun v30 =>
 oG (gW v24 true) (Z1 PP Z0 v30 h2) h2 fun v31 =>
 oG (gW v24 true) (Z7 PP .geq Z0 v29 v31) h2 fun v32 =>
 oP sT (Ze v24 v32 (.bool false) h2) h2 fun v33 =>
 bK' v33
   (oD (Z2 PP Z3 x4 4) h2 fun v34 =>
   oD (Z1 PP Z0 v34 h2) h2 fun v35 =>
   oD (Z2 PP Z8 x5 8) h2 fun v36 =>
   oD (Z1 PP Z0 v36 h2) h2 fun v37 =>
   oD (convI PP Z0 Z1B v37 h2) h2 fun v38 =>
   oD (Z7 PP .shl Z0 (.int .i64 1) v38) h2 fun v39 =>
   oD (Z7 PP .or Z0 v35 v39) h2 fun v40 =>
   oD (Z2 PP Z3 x4 4) h2 fun v41 =>
   oS (Z9 PP Z0 v41 v40 h2) h2 fun h3 =>
   oD (Z1 PP Z3 x4 h3) h3 fun v42 =>
   oS (Z9 PP Z3 x6 v42 h3) h3 fun h4 =>
   oV (.int .i64 0) h4 fun v43 =>
   Zd PP [.c x6 Z3, .v v43] h4 K)
   (j4 K x3 x4 x5 x6 x8 h2)
abbrev j3 : G5 := j3g j4 l1 j5
abbrev q6 (j3 : G5) (l1 : G5) (j5 : G1) (K : KT) : QT := Z4 (fun a h => j3 K (a 3) (a 4) (a 5) (a 6) (a 8) h) (q4 l1 j5 K)
def b1g (j3 : G5) (l1 : G5) (j5 : G1) (K : KT) (x3 x4 x5 x6 x8 : IV) (h : Heap) : Prop :=
 oV x8 h fun v1 =>
 oD (Z2 PP Z3 x4 3) h fun v2 =>
 oD (Z1 PP Zl v2 h) h fun v3 =>
 oD (lenI PP Zl v3) h fun v4 =>
 oD (Z7 PP .lss Z0 v1 v4) h fun v5 =>
 bK' v5
   (j3 K x3 x4 x5 x6 x8 h)
   (j5 K x6 h)
abbrev b1 : G5 := b1g j3 l1 j5
abbrev q7 (l1 : G5) (j5 : G1) (K : KT) : QT := Z4 (fun a h => l1 K (a 3) (a 4) (a 5) (a 6) (a 8) h) (q2 j5 K)
def j2g (l1 : G5) (j5 : G1) (K : KT) (x3 x4 x5 x6 : IV) (h : Heap) : Prop :=
 oV (.int .i64 0) h fun v1 =>
 l1 K x3 x4 x5 x6 v1 h
abbrev j2 : G4 := j2g l1 j5
abbrev q8 (j2 : G4) (K : KT) : QT := Z4 (fun a h => j2 K (a 3) (a 4) (a 5) (a 6) h) (q1 K)
def j1g (j2 : G4) (K : KT) (x3 x4 x5 x6 : IV) (h : Heap) : Prop :=
 oD (Z1 PP Z3 x4 h) h fun v1 =>
 oD (Z2 PP Z8 x5 8) h fun v2 =>
 oD (Z1 PP Z0 v2 h) h fun v3 =>
 Z5 PP Z1V [v1, v3] h fun v4 h1 =>
 bK' v4
   (Z5 PP Zv [.int .i64 4] h1 fun v5 h2 =>
   oD (Zg v5 0) h2 fun v6 =>
   oD (Zg v5 1) h2 fun v7 =>
   oS (Z9 PP Z3 x6 v6 h2) h2 fun h3 =>
   oV v7 h3 fun v8 =>
   Zd PP [.c x6 Z3, .v v8] h3 K)
   (j2 K x3 x4 x5 x6 h1)
abbrev j1 : G4 := j1g j2
abbrev q9 (j1 : G4) (K : KT) : QT := Z4 (fun a h => j1 K (a 3) (a 4) (a 5) (a 6) h) (q1 K)
def eg (j1 : G4) (K : KT) (x0 x1 x2 : IV) (h : Heap) : Prop :=
 oA (Zi Z6 x0 h) h fun v1 h1 =>
 oA (Zi Z3 x1 h1) h1 fun v2 h2 =>
 oA (Zi Z8 x2 h2) h2 fun v3 h3 =>
 oA (Zp PP Z3 h3) h3 fun v4 h4 =>
 oV (.int .i64 0) h4 fun v5 =>
 j1 K v1 v2 v3 v4 h4
abbrev e : G3 := eg j1
theorem u3 (p : j5 K (a 6) h) : I c3 (q1 K) a h := ICx.to p
theorem j4_ok (l1 : G5) (j5 : G1) : I c9 (q4 l1 j5 K) a h = j4g l1 j5 K (a 3) (a 4) (a 5) (a 6) (a 8) h := by kernel_rfl
theorem u9 (p : j4 K (a 3) (a 4) (a 5) (a 6) (a 8) h) : I c9 (q4 l1 j5 K) a h := ICx.to p (j4_ok l1 j5)
theorem j3_ok (j4 : G5) (l1 : G5) (j5 : G1) : I c10 (q5 j4 l1 j5 K) a h = j3g j4 l1 j5 K (a 3) (a 4) (a 5) (a 6) (a 8) h := by kernel_rfl
theorem u10 (p : j3 K (a 3) (a 4) (a 5) (a 6) (a 8) h) : I c10 (q5 j4 l1 j5 K) a h := ICx.to p (j3_ok j4 l1 j5)
theorem u8 (p : j3 K (a 3) (a 4) (a 5) (a 6) (a 8) h) : I c8 (q4 l1 j5 K) a h := ICx.sq (fun _ _ => u9) (u10 p)
theorem b1_ok (j3 : G5) (l1 : G5) (j5 : G1) : I c11 (q6 j3 l1 j5 K) a h = b1g j3 l1 j5 K (a 3) (a 4) (a 5) (a 6) (a 8) h := by kernel_rfl
theorem u11 (p : b1 K (a 3) (a 4) (a 5) (a 6) (a 8) h) : I c11 (q6 j3 l1 j5 K) a h := ICx.to p (b1_ok j3 l1 j5)
theorem u7 (p : b1 K (a 3) (a 4) (a 5) (a 6) (a 8) h) : I c7 (q4 l1 j5 K) a h := ICx.sq (fun _ _ => u8) (u11 p)
theorem u6 (p : l1 K (a 3) (a 4) (a 5) (a 6) (a 8) h) : I c6 (q3 j5 K) a h := ICx.lp (p a rfl rfl rfl rfl rfl)
theorem l1_round {x3 x4 x5 x6 x8 : IV} (p : b1 K x3 x4 x5 x6 x8 h) : l1 K x3 x4 x5 x6 x8 h := by
  intro a e3 e4 e5 e6 e8
  subst e3; subst e4; subst e5; subst e6; subst e8; exact ICx.round Try.mixed (D := D) (L := fun a h => l1 K (a 3) (a 4) (a 5) (a 6) (a 8) h) (fun a h p => p a rfl rfl rfl rfl rfl) (u7 p)
theorem u5 (p : l1 K (a 3) (a 4) (a 5) (a 6) (a 8) h) : I c5 (q2 j5 K) a h := ICx.blk (u6 p)
theorem j2_ok (l1 : G5) (j5 : G1) : I c12 (q7 l1 j5 K) a h = j2g l1 j5 K (a 3) (a 4) (a 5) (a 6) h := by kernel_rfl
theorem u12 (p : j2 K (a 3) (a 4) (a 5) (a 6) h) : I c12 (q7 l1 j5 K) a h := ICx.to p (j2_ok l1 j5)
theorem u4 (p : j2 K (a 3) (a 4) (a 5) (a 6) h) : I c4 (q2 j5 K) a h := ICx.sq (fun _ _ => u5) (u12 p)
theorem u2 (p : j2 K (a 3) (a 4) (a 5) (a 6) h) : I c2 (q1 K) a h := ICx.sq (fun _ _ => u3) (u4 p)
theorem j1_ok (j2 : G4) : I c13 (q8 j2 K) a h = j1g j2 K (a 3) (a 4) (a 5) (a 6) h := by kernel_rfl
theorem u13 (p : j1 K (a 3) (a 4) (a 5) (a 6) h) : I c13 (q8 j2 K) a h := ICx.to p (j1_ok j2)
theorem u1 (p : j1 K (a 3) (a 4) (a 5) (a 6) h) : I c1 (q1 K) a h := ICx.sq (fun _ _ => u2) (u13 p)
theorem e_ok (j1 : G4) : I c14 (q9 j1 K) a h = eg j1 K (a 0) (a 1) (a 2) h := by kernel_rfl
theorem u14 (p : e K (a 0) (a 1) (a 2) h) : I c14 (q9 j1 K) a h := ICx.to p (e_ok j1)
theorem u0 (p : e K (a 0) (a 1) (a 2) h) : I c0 (q1 K) a h := ICx.sq (fun _ _ => u1) (u14 p)
theorem call {x0 x1 x2 : IV} (p : e K x0 x1 x2 h) : Z5 PP Z3M [x0, x1, x2] h K :=
  ICx.fn Try.mixed Try.func69 rfl (Nat.le_of_ble_eq_true rfl) (u0 (a := actI [x0, x1, x2]) p)
end Z1x
namespace Z1f
def D : Nat → DI
  | 9 => ⟨[0, 1, 0, 4, 15, 31, 63, 0, 128, 511, 1023, 2047, 4095, 2047, 10239, 32767, 65535, 131071, 2047, 264191, 1048575, 2097151], [0, 1, 2, 3, 4, 5, 6, 7, 8, 9, 10, 11, 12, 13, 14, 15, 16, 17, 18, 19, 20, 21], []⟩
  | _ => ⟨[], [], []⟩
abbrev I := ICx PP 66 D
def c0 : Code := bodyN Try.f70
def c1 : Code := cR c0
def c2 : Code := cR c1
def c3 : Code := cR c2
def c4 : Code := cL c2
def c5 : Code := cR c4
def c6 : Code := cL c5
def c7 : Code := cL c6
def c8 : Code := cR c7
def c9 : Code := cR c8
def c10 : Code := cL c8
def c11 : Code := cL c7
def c12 : Code := cL c4
def c13 : Code := cL c1
def c14 : Code := cL c13
def c15 : Code := cR c14
def c16 : Code := cL c15
def c17 : Code := cR c15
def c18 : Code := cL c14
def c19 : Code := cL c0
abbrev q1 (K : KT) : QT := finK PP Try.f70.results.toList K
def j8 (K : KT) (x3 x4 : IV) (h : Heap) : Prop :=
 oD (Z2 PP Z3 x3 7) h fun v1 =>
 oD (Z1 PP Z0 v1 h) h fun v2 =>
 oD (Z7 PP .add Z0 v2 (.int .i64 1)) h fun v3 =>
 oD (Z2 PP Z3 x3 7) h fun v4 =>
 oS (Z9 PP Z0 v4 v3 h) h fun h1 =>
 oD (Z1 PP Z3 x3 h1) h1 fun v5 =>
 oS (Z9 PP Z3 x4 v5 h1) h1 fun h2 =>
 oV (.int .i64 0) h2 fun v6 =>
 Zd PP [.c x4 Z3, .v v6] h2 K
abbrev q2 (j8 : G2) (K : KT) : QT := Z4 (fun a h => j8 K (a 3) (a 4) h) (q1 K)
abbrev q3 (j8 : G2) (K : KT) : QT := Zq 1 (q2 j8 K)
def l1 (K : KT) (x2 x3 x4 x6 : IV) (h : Heap) : Prop := ∀ a : IAct, a 2 = x2 → a 3 = x3 → a 4 = x4 → a 6 = x6 → ILoop PP 66 c7 (q3 j8 K) a h
abbrev q4 (l1 : G4) (j8 : G2) (K : KT) : QT := Z4 (fun a h => l1 K (a 2) (a 3) (a 4) (a 6) h) (q3 j8 K)
def j7g (l1 : G4) (j8 : G2) (K : KT) (x2 x3 x4 x6 : IV) (h : Heap) : Prop :=
 oV x6 h fun v1 =>
 oD (Z7 PP .add Z0 v1 (.int .i64 1)) h fun v2 =>
 oV v2 h fun v3 =>
 l1 K x2 x3 x4 v3 h
abbrev j7 : G4 := j7g l1 j8
abbrev q5 (j7 : G4) (l1 : G4) (j8 : G2) (K : KT) : QT := Z4 (fun a h => j7 K (a 2) (a 3) (a 4) (a 6) h) (q4 l1 j8 K)
def j6g (j7 : G4) (l1 : G4) (j8 : G2) (K : KT) (x2 x3 x4 x6 : IV) (h : Heap) : Prop :=
 oD (Z2 PP Z3 x3 3) h fun v1 =>
 oD (Z1 PP Zl v1 h) h fun v2 =>
 oV x6 h fun v3 =>
 oD (Zf PP Zl v2 v3 h) h fun v4 =>
 oD (Z1 PP Zj v4 h) h fun v5 =>
 oA (Zp PP Zj h) h fun v6 h1 =>
 oS (Z9 PP Zj v6 v5 h1) h1 fun h2 =>
 oD (Z2 PP Z6 x2 4) h2 fun v7 =>
 oD (Z1 PP ZI v7 h2) h2 fun v8 =>
 oD (Z2 PP Zj v6 1) h2 fun v9 =>
 oD (Z1 PP Z0 v9 h2) h2 fun v10 =>
 oD (Zf PP ZI v8 v10 h2) h2 fun v11 =>
 oD (Z2 PP ZD v11 1) h2 fun v12 =>
 oD (Z1 PP Z0 v12 h2) h2 fun v13 =>
 oD (Z2 PP Z3 x3 7) h2 fun v14 =>
 oD (Z1 PP Z0 v14 h2) h2 fun v15 =>
 oD (Z7 PP .leq Z0 v13 v15) h2 fun v16 =>
 oV v16 h2 fun v17 =>
 oG (gW v17 false) (Z2 PP Z6 x2 4) h2 fun v18 =>
 oG (gW v17 false) (Z1 PP ZI v18 h2) h2 fun v19 =>
 oG (gW v17 false) (Z2 PP Zj v6 2) h2 fun v20 =>
 oG (gW v17 false) (Z1 PP Z0 v20 h2) h2 fun v21 =>
 oG (gW v17 false) (Zf PP ZI v19 v21 h2) h2 fun v22 =>
 oG (gW v17 false) (Z2 PP ZD v22 1) h2 fun v23 =>
 oG (gW v17 false) (Z1 PP Z0 v23 h2) h2 fun v24 =>
 oG (gW v17 false) (Z2 PP Z3 x3 7) h2 fun v25 =>
 oG (gW v17 false) (Z1 PP Z0 v25 h2) h2 fun v26 =>
 oG (gW v17 false) (Z7 PP .leq Z0 v24 v26) h2 fun v27 =>
 oP sT (Ze v17 (.bool true) v27 h2) h2 fun v28 =>
 bK' v28
   (Z5 PP Zv [.int .i64 13] h2 fun v29 h3 =>
   oD (Zg v29 0) h3 fun v30 =>
   oD (Zg v29 1) h3 fun v31 =>
   oS (Z9 PP Z3 x4 v30 h3) h3 fun h4 =>
   oV v31 h4 fun v32 =>
   Zd PP [.c x4 Z3, .v v32] h4 K)
   (j7 K x2 x3 x4 x6 h2)
abbrev j6 : G4 := j6g j7 l1 j8
abbrev q6 (j6 : G4) (l1 : G4) (j8 : G2) (K : KT) : QT := Z4 (fun a h => j6 K (a 2) (a 3) (a 4) (a 6) h) (q4 l1 j8 K)
def b1g (j6 : G4) (l1 : G4) (j8 : G2) (K : KT) (x2 x3 x4 x6 : IV) (h : Heap) : Prop :=
 oV x6 h fun v1 =>
 oD (Z2 PP Z3 x3 3) h fun v2 =>
 oD (Z1 PP Zl v2 h) h fun v3 =>
 oD (lenI PP Zl v3) h fun v4 =>
 oD (Z7 PP .lss Z0 v1 v4) h fun v5 =>
 bK' v5
   (j6 K x2 x3 x4 x6 h)
   (j8 K x3 x4 h)
abbrev b1 : G4 := b1g j6 l1 j8
abbrev q7 (l1 : G4) (j8 : G2) (K : KT) : QT := Z4 (fun a h => l1 K (a 2) (a 3) (a 4) (a 6) h) (q2 j8 K)
def j5g (l1 : G4) (j8 : G2) (K : KT) (x2 x3 x4 : IV) (h : Heap) : Prop :=
 oV (.int .i64 0) h fun v1 =>
 l1 K x2 x3 x4 v1 h
abbrev j5 : G3 := j5g l1 j8
abbrev q8 (j5 : G3) (K : KT) : QT := Z4 (fun a h => j5 K (a 2) (a 3) (a 4) h) (q1 K)
abbrev q9 (j5 : G3) (K : KT) : QT := Zq 0 (q8 j5 K)
def j3g (j5 : G3) (K : KT) (x4 : IV) (h : Heap) : Prop :=
 Z5 PP Zv [.int .i64 4] h fun v1 h1 =>
 oD (Zg v1 0) h1 fun v2 =>
 oD (Zg v1 1) h1 fun v3 =>
 oS (Z9 PP Z3 x4 v2 h1) h1 fun h2 =>
 oV v3 h2 fun v4 =>
 Zd PP [.c x4 Z3, .v v4] h2 K
abbrev j3 : G1 := j3g j5
def j4g (j5 : G3) (K : KT) (x2 x3 x4 : IV) (h : Heap) : Prop :=
 oD (Z2 PP Z3 x3 7) h fun v1 =>
 oD (Z1 PP Z0 v1 h) h fun v2 =>
 oD (Z7 PP .geq Z0 v2 (.int .i64 30)) h fun v3 =>
 oV v3 h fun v4 =>
 bK' v4
   (Z5 PP Zv [.int .i64 2] h fun v5 h1 =>
   oD (Zg v5 0) h1 fun v6 =>
   oD (Zg v5 1) h1 fun v7 =>
   oS (Z9 PP Z3 x4 v6 h1) h1 fun h2 =>
   oV v7 h2 fun v8 =>
   Zd PP [.c x4 Z3, .v v8] h2 K)
   (j5 K x2 x3 x4 h)
abbrev j4 : G3 := j4g j5
def j2 (K : KT) (x2 x3 x4 x8 : IV) (h : Heap) : Prop := bK' x8 (j3 K x4 h) (j4 K x2 x3 x4 h)
abbrev q10 (j2 : G4) (j5 : G3) (K : KT) : QT := Z4 (fun a h => j2 K (a 2) (a 3) (a 4) (a 8) h) (q9 j5 K)
def j1g (j2 : G4) (j5 : G3) (K : KT) (x2 x3 x4 : IV) (h : Heap) : Prop :=
 oD (Z2 PP Z3 x3 7) h fun v1 =>
 oD (Z1 PP Z0 v1 h) h fun v2 =>
 oD (Z2 PP Z3 x3 6) h fun v3 =>
 oD (Z1 PP Z0 v3 h) h fun v4 =>
 oD (Z7 PP .gtr Z0 v2 v4) h fun v5 =>
 oV v5 h fun v6 =>
 j2 K x2 x3 x4 v6 h
abbrev j1 : G3 := j1g j2 j5
abbrev q11 (j1 : G3) (K : KT) : QT := Z4 (fun a h => j1 K (a 2) (a 3) (a 4) h) (q1 K)
def eg (j1 : G3) (K : KT) (x0 x1 : IV) (h : Heap) : Prop :=
 oA (Zi Z6 x0 h) h fun v1 h1 =>
 oA (Zi Z3 x1 h1) h1 fun v2 h2 =>
 oA (Zp PP Z3 h2) h2 fun v3 h3 =>
 oV (.int .i64 0) h3 fun v4 =>
 j1 K v1 v2 v3 h3
abbrev e : G2 := eg j1
theorem u3 (p : j8 K (a 3) (a 4) h) : I c3 (q1 K) a h := ICx.to p
theorem j7_ok (l1 : G4) (j8 : G2) : I c9 (q4 l1 j8 K) a h = j7g l1 j8 K (a 2) (a 3) (a 4) (a 6) h := by kernel_rfl
theorem u9 (p : j7 K (a 2) (a 3) (a 4) (a 6) h) : I c9 (q4 l1 j8 K) a h := ICx.to p (j7_ok l1 j8)
theorem j6_ok (j7 : G4) (l1 : G4) (j8 : G2) : I c10 (q5 j7 l1 j8 K) a h = j6g j7 l1 j8 K (a 2) (a 3) (a 4) (a 6) h := by kernel_rfl
theorem u10 (p : j6 K (a 2) (a 3) (a 4) (a 6) h) : I c10 (q5 j7 l1 j8 K) a h := ICx.to p (j6_ok j7 l1 j8)
theorem u8 (p : j6 K (a 2) (a 3) (a 4) (a 6) h) : I c8 (q4 l1 j8 K) a h := ICx.sq (fun _ _ => u9) (u10 p)
theorem b1_ok (j6 : G4) (l1 : G4) (j8 : G2) : I c11 (q6 j6 l1 j8 K) a h = b1g j6 l1 j8 K (a 2) (a 3) (a 4) (a 6) h := by kernel_rfl
theorem u11 (p : b1 K (a 2) (a 3) (a 4) (a 6) h) : I c11 (q6 j6 l1 j8 K) a h := ICx.to p (b1_ok j6 l1 j8)
theorem u7 (p : b1 K (a 2) (a 3) (a 4) (a 6) h) : I c7 (q4 l1 j8 K) a h := ICx.sq (fun _ _ => u8) (u11 p)
theorem u6 (p : l1 K (a 2) (a 3) (a 4) (a 6) h) : I c6 (q3 j8 K) a h := ICx.lp (p a rfl rfl rfl rfl)
theorem l1_round {x2 x3 x4 x6 : IV} (p : b1 K x2 x3 x4 x6 h) : l1 K x2 x3 x4 x6 h := by
  intro a e2 e3 e4 e6
  subst e2; subst e3; subst e4; subst e6; exact ICx.round Try.mixed (D := D) (L := fun a h => l1 K (a 2) (a 3) (a 4) (a 6) h) (fun a h p => p a rfl rfl rfl rfl) (u7 p)
theorem u5 (p : l1 K (a 2) (a 3) (a 4) (a 6) h) : I c5 (q2 j8 K) a h := ICx.blk (u6 p)
theorem j5_ok (l1 : G4) (j8 : G2) : I c12 (q7 l1 j8 K) a h = j5g l1 j8 K (a 2) (a 3) (a 4) h := by kernel_rfl
theorem u12 (p : j5 K (a 2) (a 3) (a 4) h) : I c12 (q7 l1 j8 K) a h := ICx.to p (j5_ok l1 j8)
theorem u4 (p : j5 K (a 2) (a 3) (a 4) h) : I c4 (q2 j8 K) a h := ICx.sq (fun _ _ => u5) (u12 p)
theorem u2 (p : j5 K (a 2) (a 3) (a 4) h) : I c2 (q1 K) a h := ICx.sq (fun _ _ => u3) (u4 p)
theorem j3_ok (j5 : G3) : I c16 (q9 j5 K) a h = j3g j5 K (a 4) h := by kernel_rfl
theorem u16 (p : j3 K (a 4) h) : I c16 (q9 j5 K) a h := ICx.to p (j3_ok j5)
theorem j4_ok (j5 : G3) : I c17 (q9 j5 K) a h = j4g j5 K (a 2) (a 3) (a 4) h := by kernel_rfl
theorem u17 (p : j4 K (a 2) (a 3) (a 4) h) : I c17 (q9 j5 K) a h := ICx.to p (j4_ok j5)
theorem u15 (p : j2 K (a 2) (a 3) (a 4) (a 8) h) : I c15 (q9 j5 K) a h := ICx.cnd (o := (Go.Operand.tmp 8)) u16 u17 p
theorem j1_ok (j2 : G4) (j5 : G3) : I c18 (q10 j2 j5 K) a h = j1g j2 j5 K (a 2) (a 3) (a 4) h := by kernel_rfl
theorem u18 (p : j1 K (a 2) (a 3) (a 4) h) : I c18 (q10 j2 j5 K) a h := ICx.to p (j1_ok j2 j5)
theorem u14 (p : j1 K (a 2) (a 3) (a 4) h) : I c14 (q9 j5 K) a h := ICx.sq (fun _ _ => u15) (u18 p)
theorem u13 (p : j1 K (a 2) (a 3) (a 4) h) : I c13 (q8 j5 K) a h := ICx.blk (u14 p)
theorem u1 (p : j1 K (a 2) (a 3) (a 4) h) : I c1 (q1 K) a h := ICx.sq (fun _ _ => u2) (u13 p)
theorem e_ok (j1 : G3) : I c19 (q11 j1 K) a h = eg j1 K (a 0) (a 1) h := by kernel_rfl
theorem u19 (p : e K (a 0) (a 1) h) : I c19 (q11 j1 K) a h := ICx.to p (e_ok j1)
theorem u0 (p : e K (a 0) (a 1) h) : I c0 (q1 K) a h := ICx.sq (fun _ _ => u1) (u19 p)
theorem call {x0 x1 : IV} (p : e K x0 x1 h) : Z5 PP Z3N [x0, x1] h K :=
  ICx.fn Try.mixed Try.func70 rfl (Nat.le_of_ble_eq_true rfl) (u0 (a := actI [x0, x1]) p)
end Z1f
end
end Go.Ideal
namespace Go.Ideal
open Go.Proofs
set_option maxRecDepth 100000
noncomputable section
variable {K : KT} {a : IAct} {h : Heap}
namespace ZB
def D : Nat → DI
  | 17 => ⟨[0, 0, 2, 0, 8, 25, 57, 127, 255], [0, 1, 2, 3, 4, 5, 6, 7, 8], []⟩
  | 20 => ⟨[0, 1, 0, 4, 15, 31], [0, 1, 2, 3, 4, 5], []⟩
  | _ => ⟨[], [], []⟩
abbrev I := ICx PP 112 D
def c0 : Code := bodyN Try.f71
def c1 : Code := cR c0
def c2 : Code := cR c1
def c3 : Code := cR c2
def c4 : Code := cR c3
def c5 : Code := cR c4
def c6 : Code := cL c4
def c7 : Code := cR c6
def c8 : Code := cL c7
def c9 : Code := cR c8
def c10 : Code := cL c9
def c11 : Code := cR c9
def c12 : Code := cR c11
def c13 : Code := cL c12
def c14 : Code := cR c12
def c15 : Code := cR c14
def c16 : Code := cL c15
def c17 : Code := cR c15
def c18 : Code := cR c17
def c19 : Code := cL c18
def c20 : Code := cR c18
def c21 : Code := cR c20
def c22 : Code := cL c21
def c23 : Code := cR c21
def c24 : Code := cR c23
def c25 : Code := cL c24
def c26 : Code := cR c24
def c27 : Code := cR c26
def c28 : Code := cL c27
def c29 : Code := cR c27
def c30 : Code := cL c26
def c31 : Code := cL c23
def c32 : Code := cL c20
def c33 : Code := cL c17
def c34 : Code := cL c14
def c35 : Code := cL c11
def c36 : Code := cL c8
def c37 : Code := cL c6
def c38 : Code := cL c3
def c39 : Code := cL c2
def c40 : Code := cL c1
def c41 : Code := cL c0
abbrev q1 (K : KT) : QT := finK PP Try.f71.results.toList K
def j27 (K : KT) (x8 x9 : IV) (h : Heap) : Prop :=
 oD (Z1 PP Z8 x9 h) h fun v1 =>
 oS (Z9 PP Z8 x8 v1 h) h fun h1 =>
 Zd PP [.c x8 Z8] h1 K
abbrev q2 (j27 : G2) (K : KT) : QT := Z4 (fun a h => j27 K (a 8) (a 9) h) (q1 K)
abbrev q3 (j27 : G2) (K : KT) : QT := Zq 0 (q2 j27 K)
def j7g (j27 : G2) (K : KT) (x0 x8 x9 x10 : IV) (h : Heap) : Prop :=
 oV x10 h fun v1 =>
 oV x0 h fun v2 =>
 Z5 PP Z1A [v2, .int .i64 1, .int .i64 3] h fun v3 h1 =>
 oD (Z2 PP Z8 x9 0) h1 fun v4 =>
 oS (Z9 PP Z0 v4 (.int .i64 9) h1) h1 fun h2 =>
 oD (Z2 PP Z8 x9 3) h2 fun v5 =>
 oS (Z9 PP Z0 v5 v1 h2) h2 fun h3 =>
 oD (Z2 PP Z8 x9 8) h3 fun v6 =>
 oS (Z9 PP Z0 v6 v3 h3) h3 fun h4 =>
 j27 K x8 x9 h4
abbrev j7 : G4 := j7g j27
def j10g (j27 : G2) (K : KT) (x8 x9 x10 : IV) (h : Heap) : Prop :=
 oV x10 h fun v1 =>
 oD (Z2 PP Z8 x9 0) h fun v2 =>
 oS (Z9 PP Z0 v2 (.int .i64 9) h) h fun h1 =>
 oD (Z2 PP Z8 x9 3) h1 fun v3 =>
 oS (Z9 PP Z0 v3 v1 h1) h1 fun h2 =>
 oD (Z2 PP Z8 x9 8) h2 fun v4 =>
 oS (Z9 PP Z0 v4 (.int .i64 1) h2) h2 fun h3 =>
 j27 K x8 x9 h3
abbrev j10 : G3 := j10g j27
def j13g (j27 : G2) (K : KT) (x0 x5 x8 x9 x10 : IV) (h : Heap) : Prop :=
 oV x10 h fun v1 =>
 oV x0 h fun v2 =>
 oD (Z2 PP Z6 x5 4) h fun v3 =>
 oD (Z1 PP ZI v3 h) h fun v4 =>
 oD (lenI PP ZI v4) h fun v5 =>
 Z5 PP ZL [v2, v5] h fun v6 h1 =>
 oD (Z2 PP Z8 x9 0) h1 fun v7 =>
 oS (Z9 PP Z0 v7 (.int .i64 10) h1) h1 fun h2 =>
 oD (Z2 PP Z8 x9 3) h2 fun v8 =>
 oS (Z9 PP Z0 v8 v1 h2) h2 fun h3 =>
 oD (Z2 PP Z8 x9 8) h3 fun v9 =>
 oS (Z9 PP Z0 v9 v6 h3) h3 fun h4 =>
 j27 K x8 x9 h4
abbrev j13 : G5 := j13g j27
def j16g (j27 : G2) (K : KT) (x0 x3 x5 x8 x9 x10 x11 : IV) (h : Heap) : Prop :=
 oV x10 h fun v1 =>
 oD (Z2 PP Zj x11 2) h fun v2 =>
 oD (Z1 PP Z0 v2 h) h fun v3 =>
 oD (Z2 PP Z8 x9 0) h fun v4 =>
 oS (Z9 PP Z0 v4 (.int .i64 11) h) h fun h1 => oB ((Zb (Z1 PP Z0 v2 h1) v3 h1) ∧ True) <|
 oD (Z2 PP Z8 x9 3) h1 fun v5 =>
 oS (Z9 PP Z0 v5 v1 h1) h1 fun h2 => oB ((Zb (Z1 PP Z0 v2 h2) v3 h2) ∧ True) <|
 oD (Z2 PP Z8 x9 8) h2 fun v6 =>
 oS (Z9 PP Z0 v6 v3 h2) h2 fun h3 => oB (True) <|
 oV x3 h3 fun v7 =>
 oV x0 h3 fun v8 =>
 oD (Z2 PP Z6 x5 8) h3 fun v9 =>
 oD (Z1 PP Z0 v9 h3) h3 fun v10 =>
 Z5 PP ZL [v8, v10] h3 fun v11 h4 =>
 oD (Z7 PP .add Z0 v7 v11) h4 fun v12 =>
 oD (Z2 PP Z8 x9 1) h4 fun v13 =>
 oS (Z9 PP Z0 v13 v12 h4) h4 fun h5 =>
 j27 K x8 x9 h5
abbrev j16 : G7 := j16g j27
def j19g (j27 : G2) (K : KT) (x0 x3 x5 x8 x9 x11 : IV) (h : Heap) : Prop :=
 oD (Z2 PP Zj x11 1) h fun v1 =>
 oD (Z1 PP Z0 v1 h) h fun v2 =>
 oD (Z2 PP Z8 x9 0) h fun v3 =>
 oS (Z9 PP Z0 v3 (.int .i64 12) h) h fun h1 => oB ((Zb (Z1 PP Z0 v1 h1) v2 h1) ∧ True) <|
 oD (Z2 PP Z8 x9 8) h1 fun v4 =>
 oS (Z9 PP Z0 v4 v2 h1) h1 fun h2 => oB (True) <|
 oV x3 h2 fun v5 =>
 oV x0 h2 fun v6 =>
 oD (Z2 PP Z6 x5 9) h2 fun v7 =>
 oD (Z1 PP Z0 v7 h2) h2 fun v8 =>
 oD (Z7 PP .add Z0 v8 (.int .i64 1)) h2 fun v9 =>
 Z5 PP ZL [v6, v9] h2 fun v10 h3 =>
 oD (Z7 PP .add Z0 v5 v10) h3 fun v11 =>
 oD (Z2 PP Z8 x9 1) h3 fun v12 =>
 oS (Z9 PP Z0 v12 v11 h3) h3 fun h4 =>
 j27 K x8 x9 h4
abbrev j19 : G6 := j19g j27
def j22g (j27 : G2) (K : KT) (x0 x5 x6 x8 x9 : IV) (h : Heap) : Prop :=
 oV x0 h fun v1 =>
 oD (Z2 PP Z6 x5 0) h fun v2 =>
 oD (Z1 PP Z0 v2 h) h fun v3 =>
 Z5 PP ZL [v1, v3] h fun v4 h1 =>
 oD (Z2 PP Z8 x9 0) h1 fun v5 =>
 oS (Z9 PP Z0 v5 (.int .i64 13) h1) h1 fun h2 =>
 oD (Z2 PP Z8 x9 4) h2 fun v6 =>
 oS (Z9 PP Z0 v6 v4 h2) h2 fun h3 =>
 oD (Z2 PP Z8 x9 8) h3 fun v7 =>
 oS (Z9 PP Z0 v7 (.int .i64 1) h3) h3 fun h4 =>
 oD (Z2 PP Z3 x6 5) h4 fun v8 =>
 oD (Z1 PP Z0 v8 h4) h4 fun v9 =>
 oD (Z2 PP Z8 x9 4) h4 fun v10 =>
 oD (Z1 PP Z0 v10 h4) h4 fun v11 =>
 Z5 PP Z1S [v9, v11] h4 fun v12 h5 =>
 bK' v12
   (oD (Z2 PP Z8 x9 8) h5 fun v13 =>
   oS (Z9 PP Z0 v13 (.int .i64 0) h5) h5 fun h6 =>
   j27 K x8 x9 h6)
   (j27 K x8 x9 h5)
abbrev j22 : G5 := j22g j27
def j25g (j27 : G2) (K : KT) (x6 x8 x9 : IV) (h : Heap) : Prop :=
 oD (Z2 PP Z8 x9 0) h fun v1 =>
 oS (Z9 PP Z0 v1 (.int .i64 14) h) h fun h1 =>
 oD (Z2 PP Z3 x6 7) h1 fun v2 =>
 oD (Z1 PP Z0 v2 h1) h1 fun v3 =>
 oD (Z2 PP Z3 x6 6) h1 fun v4 =>
 oD (Z1 PP Z0 v4 h1) h1 fun v5 =>
 oD (Z7 PP .gtr Z0 v3 v5) h1 fun v6 =>
 bK' v6
   (oD (Z2 PP Z8 x9 0) h1 fun v7 =>
   oS (Z9 PP Z0 v7 (.int .i64 15) h1) h1 fun h2 =>
   j27 K x8 x9 h2)
   (j27 K x8 x9 h1)
abbrev j25 : G3 := j25g j27
def j26g (j27 : G2) (K : KT) (x0 x8 x9 : IV) (h : Heap) : Prop :=
 oV x0 h fun v1 =>
 Z5 PP ZL [v1, .int .i64 100] h fun v2 h1 =>
 oD (Z2 PP Z8 x9 8) h1 fun v3 =>
 oS (Z9 PP Z0 v3 v2 h1) h1 fun h2 =>
 j27 K x8 x9 h2
abbrev j26 : G3 := j26g j27
def j24 (K : KT) (x0 x6 x8 x9 x102 : IV) (h : Heap) : Prop := bK' x102 (j25 K x6 x8 x9 h) (j26 K x0 x8 x9 h)
abbrev q4 (j24 : G5) (j27 : G2) (K : KT) : QT := Z4 (fun a h => j24 K (a 0) (a 6) (a 8) (a 9) (a 102) h) (q3 j27 K)
def j23g (j24 : G5) (j27 : G2) (K : KT) (x0 x6 x8 x9 x25 : IV) (h : Heap) : Prop :=
 oD (Z7 PP .eql Z0 x25 (.int .i64 10)) h fun v1 =>
 oV v1 h fun v2 =>
 j24 K x0 x6 x8 x9 v2 h
abbrev j23 : G5 := j23g j24 j27
def j21 (K : KT) (x0 x5 x6 x8 x9 x25 x87 : IV) (h : Heap) : Prop := bK' x87 (j22 K x0 x5 x6 x8 x9 h) (j23 K x0 x6 x8 x9 x25 h)
abbrev q5 (j21 : G7) (j27 : G2) (K : KT) : QT := Z4 (fun a h => j21 K (a 0) (a 5) (a 6) (a 8) (a 9) (a 25) (a 87) h) (q3 j27 K)
def j20g (j21 : G7) (j27 : G2) (K : KT) (x0 x5 x6 x8 x9 x25 : IV) (h : Heap) : Prop :=
 oD (Z7 PP .eql Z0 x25 (.int .i64 9)) h fun v1 =>
 oV v1 h fun v2 =>
 j21 K x0 x5 x6 x8 x9 x25 v2 h
abbrev j20 : G6 := j20g j21 j27
def j18 (K : KT) (x0 x3 x5 x6 x8 x9 x11 x25 x73 : IV) (h : Heap) : Prop := bK' x73 (j19 K x0 x3 x5 x8 x9 x11 h) (j20 K x0 x5 x6 x8 x9 x25 h)
abbrev q6 (j18 : G9) (j27 : G2) (K : KT) : QT := Z4 (fun a h => j18 K (a 0) (a 3) (a 5) (a 6) (a 8) (a 9) (a 11) (a 25) (a 73) h) (q3 j27 K)
def j17g (j18 : G9) (j27 : G2) (K : KT) (x0 x3 x5 x6 x8 x9 x11 x25 : IV) (h : Heap) : Prop :=
 oD (Z7 PP .eql Z0 x25 (.int .i64 8)) h fun v1 =>
 oV v1 h fun v2 =>
 j18 K x0 x3 x5 x6 x8 x9 x11 x25 v2 h
abbrev j17 : G8 := j17g j18 j27
def j15 (K : KT) (x0 x3 x5 x6 x8 x9 x10 x11 x25 x56 : IV) (h : Heap) : Prop := bK' x56 (j16 K x0 x3 x5 x8 x9 x10 x11 h) (j17 K x0 x3 x5 x6 x8 x9 x11 x25 h)
abbrev q7 (j15 : G10) (j27 : G2) (K : KT) : QT := Z4 (fun a h => j15 K (a 0) (a 3) (a 5) (a 6) (a 8) (a 9) (a 10) (a 11) (a 25) (a 56) h) (q3 j27 K)
def j14g (j15 : G10) (j27 : G2) (K : KT) (x0 x3 x5 x6 x8 x9 x10 x11 x25 : IV) (h : Heap) : Prop :=
 oD (Z7 PP .eql Z0 x25 (.int .i64 5)) h fun v1 =>
 oV v1 h fun v2 =>
 bK' v2
   (j15 K x0 x3 x5 x6 x8 x9 x10 x11 x25 v2 h)
   (oD (Z7 PP .eql Z0 x25 (.int .i64 6)) h fun v3 =>
   oV v3 h fun v4 =>
   bK' v4
     (j15 K x0 x3 x5 x6 x8 x9 x10 x11 x25 v4 h)
     (oD (Z7 PP .eql Z0 x25 (.int .i64 7)) h fun v5 =>
     oV v5 h fun v6 =>
     j15 K x0 x3 x5 x6 x8 x9 x10 x11 x25 v6 h))
abbrev j14 : G9 := j14g j15 j27
def j12 (K : KT) (x0 x3 x5 x6 x8 x9 x10 x11 x25 x43 : IV) (h : Heap) : Prop := bK' x43 (j13 K x0 x5 x8 x9 x10 h) (j14 K x0 x3 x5 x6 x8 x9 x10 x11 x25 h)
abbrev q8 (j12 : G10) (j27 : G2) (K : KT) : QT := Z4 (fun a h => j12 K (a 0) (a 3) (a 5) (a 6) (a 8) (a 9) (a 10) (a 11) (a 25) (a 43) h) (q3 j27 K)
def j11g (j12 : G10) (j27 : G2) (K : KT) (x0 x3 x5 x6 x8 x9 x10 x11 x25 : IV) (h : Heap) : Prop :=
 oD (Z7 PP .eql Z0 x25 (.int .i64 2)) h fun v1 =>
 oV v1 h fun v2 =>
 bK' v2
   (j12 K x0 x3 x5 x6 x8 x9 x10 x11 x25 v2 h)
   (oD (Z7 PP .eql Z0 x25 (.int .i64 3)) h fun v3 =>
   oV v3 h fun v4 =>
   bK' v4
     (j12 K x0 x3 x5 x6 x8 x9 x10 x11 x25 v4 h)
     (oD (Z7 PP .eql Z0 x25 (.int .i64 4)) h fun v5 =>
     oV v5 h fun v6 =>
     j12 K x0 x3 x5 x6 x8 x9 x10 x11 x25 v6 h))
abbrev j11 : G9 := j11g j12 j27
def j9 (K : KT) (x0 x3 x5 x6 x8 x9 x10 x11 x25 x37 : IV) (h : Heap) : Prop := bK' x37 (j10 K x8 x9 x10 h) (j11 K x0 x3 x5 x6 x8 x9 x10 x11 x25 h)
abbrev q9 (j9 : G10) (j27 : G2) (K : KT) : QT := Z4 (fun a h => j9 K (a 0) (a 3) (a 5) (a 6) (a 8) (a 9) (a 10) (a 11) (a 25) (a 37) h) (q3 j27 K)
def j8g (j9 : G10) (j27 : G2) (K : KT) (x0 x3 x5 x6 x8 x9 x10 x11 x25 : IV) (h : Heap) : Prop :=
 oD (Z7 PP .eql Z0 x25 (.int .i64 1)) h fun v1 =>
 oV v1 h fun v2 =>
 j9 K x0 x3 x5 x6 x8 x9 x10 x11 x25 v2 h
abbrev j8 : G9 := j8g j9 j27
def j6 (K : KT) (x0 x3 x5 x6 x8 x9 x10 x11 x25 x29 : IV) (h : Heap) : Prop := bK' x29 (j7 K x0 x8 x9 x10 h) (j8 K x0 x3 x5 x6 x8 x9 x10 x11 x25 h)
abbrev q10 (j6 : G10) (j27 : G2) (K : KT) : QT := Z4 (fun a h => j6 K (a 0) (a 3) (a 5) (a 6) (a 8) (a 9) (a 10) (a 11) (a 25) (a 29) h) (q3 j27 K)
def j5g (j6 : G10) (j27 : G2) (K : KT) (x0 x3 x5 x6 x8 x9 x10 x11 x25 : IV) (h : Heap) : Prop :=
 oD (Z7 PP .eql Z0 x25 (.int .i64 0)) h fun v1 =>
 oV v1 h fun v2 =>
 j6 K x0 x3 x5 x6 x8 x9 x10 x11 x25 v2 h
abbrev j5 : G9 := j5g j6 j27
abbrev q11 (j5 : G9) (j27 : G2) (K : KT) : QT := Z4 (fun a h => j5 K (a 0) (a 3) (a 5) (a 6) (a 8) (a 9) (a 10) (a 11) (a 25) h) (q2 j27 K)
def j4g (j5 : G9) (j27 : G2) (K : KT) (x0 x3 x5 x6 x8 x9 x10 x11 : IV) (h : Heap) : Prop :=
 oV x0 h fun v1 =>
 Z5 PP ZL [v1, .int .i64 12] h fun v2 h1 =>
 j5 K x0 x3 x5 x6 x8 x9 x10 x11 v2 h1
abbrev j4 : G8 := j4g j5 j27
abbrev q12 (j4 : G8) (K : KT) : QT := Z4 (fun a h => j4 K (a 0) (a 3) (a 5) (a 6) (a 8) (a 9) (a 10) (a 11) h) (q1 K)
def j3g (j4 : G8) (K : KT) (x0 x3 x5 x6 x8 x9 x10 : IV) (h : Heap) : Prop :=
 oD (Z2 PP Z3 x6 3) h fun v1 =>
 oD (Z1 PP Zl v1 h) h fun v2 =>
 oV x10 h fun v3 =>
 oD (Zf PP Zl v2 v3 h) h fun v4 =>
 oD (Z1 PP Zj v4 h) h fun v5 =>
 oA (Zp PP Zj h) h fun v6 h1 =>
 oS (Z9 PP Zj v6 v5 h1) h1 fun h2 =>
 j4 K x0 x3 x5 x6 x8 x9 x10 v6 h2
abbrev j3 : G7 := j3g j4
abbrev q13 (j3 : G7) (K : KT) : QT := Z4 (fun a h => j3 K (a 0) (a 3) (a 5) (a 6) (a 8) (a 9) (a 10) h) (q1 K)
def j2g (j3 : G7) (K : KT) (x0 x3 x5 x6 x8 x9 : IV) (h : Heap) : Prop :=
 oV x0 h fun v1 =>
 oD (Z2 PP Z6 x5 2) h fun v2 =>
 oD (Z1 PP Zn v2 h) h fun v3 =>
 oD (lenI PP Zn v3) h fun v4 =>
 Z5 PP ZL [v1, v4] h fun v5 h1 =>
 oV v5 h1 fun v6 =>
 j3 K x0 x3 x5 x6 x8 x9 v6 h1
abbrev j2 : G6 := j2g j3
abbrev q14 (j2 : G6) (K : KT) : QT := Z4 (fun a h => j2 K (a 0) (a 3) (a 5) (a 6) (a 8) (a 9) h) (q1 K)
def j1g (j2 : G6) (K : KT) (x0 x3 x5 x6 x8 : IV) (h : Heap) : Prop :=
 oV x3 h fun v1 =>
 Z5 PP Z2z [.int .i64 16, v1] h fun v2 h1 =>
 oA (Zp PP Z8 h1) h1 fun v3 h2 =>
 oS (Z9 PP Z8 v3 v2 h2) h2 fun h3 =>
 j2 K x0 x3 x5 x6 x8 v3 h3
abbrev j1 : G5 := j1g j2
abbrev q15 (j1 : G5) (K : KT) : QT := Z4 (fun a h => j1 K (a 0) (a 3) (a 5) (a 6) (a 8) h) (q1 K)
def eg (j1 : G5) (K : KT) (x0 x1 x2 x3 : IV) (h : Heap) : Prop :=
 oA (Zi Z6 x1 h) h fun v1 h1 =>
 oA (Zi Z3 x2 h1) h1 fun v2 h2 =>
 oA (Zp PP Z8 h2) h2 fun v3 h3 =>
 j1 K x0 x3 v1 v2 v3 h3
abbrev e : G4 := eg j1
theorem u5 (p : j27 K (a 8) (a 9) h) : I c5 (q1 K) a h := ICx.to p
theorem j7_ok (j27 : G2) : I c10 (q3 j27 K) a h = j7g j27 K (a 0) (a 8) (a 9) (a 10) h := by kernel_rfl
theorem u10 (p : j7 K (a 0) (a 8) (a 9) (a 10) h) : I c10 (q3 j27 K) a h := ICx.to p (j7_ok j27)
theorem j10_ok (j27 : G2) : I c13 (q3 j27 K) a h = j10g j27 K (a 8) (a 9) (a 10) h := by kernel_rfl
theorem u13 (p : j10 K (a 8) (a 9) (a 10) h) : I c13 (q3 j27 K) a h := ICx.to p (j10_ok j27)
theorem j13_ok (j27 : G2) : I c16 (q3 j27 K) a h = j13g j27 K (a 0) (a 5) (a 8) (a 9) (a 10) h := by kernel_rfl
theorem u16 (p : j13 K (a 0) (a 5) (a 8) (a 9) (a 10) h) : I c16 (q3 j27 K) a h := ICx.to p (j13_ok j27)
theorem j16_ok (j27 : G2) : I c19 (q3 j27 K) a h = j16g j27 K (a 0) (a 3) (a 5) (a 8) (a 9) (a 10) (a 11) h := by kernel_rfl
theorem u19 (p : j16 K (a 0) (a 3) (a 5) (a 8) (a 9) (a 10) (a 11) h) : I c19 (q3 j27 K) a h := ICx.to p (j16_ok j27)
theorem j19_ok (j27 : G2) : I c22 (q3 j27 K) a h = j19g j27 K (a 0) (a 3) (a 5) (a 8) (a 9) (a 11) h := by kernel_rfl
theorem u22 (p : j19 K (a 0) (a 3) (a 5) (a 8) (a 9) (a 11) h) : I c22 (q3 j27 K) a h := ICx.to p (j19_ok j27)
theorem j22_ok (j27 : G2) : I c25 (q3 j27 K) a h = j22g j27 K (a 0) (a 5) (a 6) (a 8) (a 9) h := by kernel_rfl
theorem u25 (p : j22 K (a 0) (a 5) (a 6) (a 8) (a 9) h) : I c25 (q3 j27 K) a h := ICx.to p (j22_ok j27)
theorem j25_ok (j27 : G2) : I c28 (q3 j27 K) a h = j25g j27 K (a 6) (a 8) (a 9) h := by kernel_rfl
theorem u28 (p : j25 K (a 6) (a 8) (a 9) h) : I c28 (q3 j27 K) a h := ICx.to p (j25_ok j27)
theorem j26_ok (j27 : G2) : I c29 (q3 j27 K) a h = j26g j27 K (a 0) (a 8) (a 9) h := by kernel_rfl
theorem u29 (p : j26 K (a 0) (a 8) (a 9) h) : I c29 (q3 j27 K) a h := ICx.to p (j26_ok j27)
theorem u27 (p : j24 K (a 0) (a 6) (a 8) (a 9) (a 102) h) : I c27 (q3 j27 K) a h := ICx.cnd (o := (Go.Operand.tmp 102)) u28 u29 p
theorem j23_ok (j24 : G5) (j27 : G2) : I c30 (q4 j24 j27 K) a h = j23g j24 j27 K (a 0) (a 6) (a 8) (a 9) (a 25) h := by kernel_rfl
theorem u30 (p : j23 K (a 0) (a 6) (a 8) (a 9) (a 25) h) : I c30 (q4 j24 j27 K) a h := ICx.to p (j23_ok j24 j27)
theorem u26 (p : j23 K (a 0) (a 6) (a 8) (a 9) (a 25) h) : I c26 (q3 j27 K) a h := ICx.sq (fun _ _ => u27) (u30 p)
theorem u24 (p : j21 K (a 0) (a 5) (a 6) (a 8) (a 9) (a 25) (a 87) h) : I c24 (q3 j27 K) a h := ICx.cnd (o := (Go.Operand.tmp 87)) u25 u26 p
theorem j20_ok (j21 : G7) (j27 : G2) : I c31 (q5 j21 j27 K) a h = j20g j21 j27 K (a 0) (a 5) (a 6) (a 8) (a 9) (a 25) h := by kernel_rfl
theorem u31 (p : j20 K (a 0) (a 5) (a 6) (a 8) (a 9) (a 25) h) : I c31 (q5 j21 j27 K) a h := ICx.to p (j20_ok j21 j27)
theorem u23 (p : j20 K (a 0) (a 5) (a 6) (a 8) (a 9) (a 25) h) : I c23 (q3 j27 K) a h := ICx.sq (fun _ _ => u24) (u31 p)
theorem u21 (p : j18 K (a 0) (a 3) (a 5) (a 6) (a 8) (a 9) (a 11) (a 25) (a 73) h) : I c21 (q3 j27 K) a h := ICx.cnd (o := (Go.Operand.tmp 73)) u22 u23 p
theorem j17_ok (j18 : G9) (j27 : G2) : I c32 (q6 j18 j27 K) a h = j17g j18 j27 K (a 0) (a 3) (a 5) (a 6) (a 8) (a 9) (a 11) (a 25) h := by kernel_rfl
theorem u32 (p : j17 K (a 0) (a 3) (a 5) (a 6) (a 8) (a 9) (a 11) (a 25) h) : I c32 (q6 j18 j27 K) a h := ICx.to p (j17_ok j18 j27)
theorem u20 (p : j17 K (a 0) (a 3) (a 5) (a 6) (a 8) (a 9) (a 11) (a 25) h) : I c20 (q3 j27 K) a h := ICx.sq (fun _ _ => u21) (u32 p)
theorem u18 (p : j15 K (a 0) (a 3) (a 5) (a 6) (a 8) (a 9) (a 10) (a 11) (a 25) (a 56) h) : I c18 (q3 j27 K) a h := ICx.cnd (o := (Go.Operand.tmp 56)) u19 u20 p
theorem j14_ok (j15 : G10) (j27 : G2) : I c33 (q7 j15 j27 K) a h = j14g j15 j27 K (a 0) (a 3) (a 5) (a 6) (a 8) (a 9) (a 10) (a 11) (a 25) h := by kernel_rfl
theorem u33 (p : j14 K (a 0) (a 3) (a 5) (a 6) (a 8) (a 9) (a 10) (a 11) (a 25) h) : I c33 (q7 j15 j27 K) a h := ICx.to p (j14_ok j15 j27)
theorem u17 (p : j14 K (a 0) (a 3) (a 5) (a 6) (a 8) (a 9) (a 10) (a 11) (a 25) h) : I c17 (q3 j27 K) a h := ICx.sq (fun _ _ => u18) (u33 p)
theorem u15 (p : j12 K (a 0) (a 3) (a 5) (a 6) (a 8) (a 9) (a 10) (a 11) (a 25) (a 43) h) : I c15 (q3 j27 K) a h := ICx.cnd (o := (Go.Operand.tmp 43)) u16 u17 p
theorem j11_ok (j12 : G10) (j27 : G2) : I c34 (q8 j12 j27 K) a h = j11g j12 j27 K (a 0) (a 3) (a 5) (a 6) (a 8) (a 9) (a 10) (a 11) (a 25) h := by kernel_rfl
theorem u34 (p : j11 K (a 0) (a 3) (a 5) (a 6) (a 8) (a 9) (a 10) (a 11) (a 25) h) : I c34 (q8 j12 j27 K) a h := ICx.to p (j11_ok j12 j27)
theorem u14 (p : j11 K (a 0) (a 3) (a 5) (a 6) (a 8) (a 9) (a 10) (a 11) (a 25) h) : I c14 (q3 j27 K) a h := ICx.sq (fun _ _ => u15) (u34 p)
theorem u12 (p : j9 K (a 0) (a 3) (a 5) (a 6) (a 8) (a 9) (a 10) (a 11) (a 25) (a 37) h) : I c12 (q3 j27 K) a h := ICx.cnd (o := (Go.Operand.tmp 37)) u13 u14 p
theorem j8_ok (j9 : G10) (j27 : G2) : I c35 (q9 j9 j27 K) a h = j8g j9 j27 K (a 0) (a 3) (a 5) (a 6) (a 8) (a 9) (a 10) (a 11) (a 25) h := by kernel_rfl
theorem u35 (p : j8 K (a 0) (a 3) (a 5) (a 6) (a 8) (a 9) (a 10) (a 11) (a 25) h) : I c35 (q9 j9 j27 K) a h := ICx.to p (j8_ok j9 j27)
theorem u11 (p : j8 K (a 0) (a 3) (a 5) (a 6) (a 8) (a 9) (a 10) (a 11) (a 25) h) : I c11 (q3 j27 K) a h := ICx.sq (fun _ _ => u12) (u35 p)
theorem u9 (p : j6 K (a 0) (a 3) (a 5) (a 6) (a 8) (a 9) (a 10) (a 11) (a 25) (a 29) h) : I c9 (q3 j27 K) a h := ICx.cnd (o := (Go.Operand.tmp 29)) u10 u11 p
theorem j5_ok (j6 : G10) (j27 : G2) : I c36 (q10 j6 j27 K) a h = j5g j6 j27 K (a 0) (a 3) (a 5) (a 6) (a 8) (a 9) (a 10) (a 11) (a 25) h := by kernel_rfl
theorem u36 (p : j5 K (a 0) (a 3) (a 5) (a 6) (a 8) (a 9) (a 10) (a 11) (a 25) h) : I c36 (q10 j6 j27 K) a h := ICx.to p (j5_ok j6 j27)
theorem u8 (p : j5 K (a 0) (a 3) (a 5) (a 6) (a 8) (a 9) (a 10) (a 11) (a 25) h) : I c8 (q3 j27 K) a h := ICx.sq (fun _ _ => u9) (u36 p)
theorem u7 (p : j5 K (a 0) (a 3) (a 5) (a 6) (a 8) (a 9) (a 10) (a 11) (a 25) h) : I c7 (q2 j27 K) a h := ICx.blk (u8 p)
theorem j4_ok (j5 : G9) (j27 : G2) : I c37 (q11 j5 j27 K) a h = j4g j5 j27 K (a 0) (a 3) (a 5) (a 6) (a 8) (a 9) (a 10) (a 11) h := by kernel_rfl
theorem u37 (p : j4 K (a 0) (a 3) (a 5) (a 6) (a 8) (a 9) (a 10) (a 11) h) : I c37 (q11 j5 j27 K) a h := ICx.to p (j4_ok j5 j27)
theorem u6 (p : j4 K (a 0) (a 3) (a 5) (a 6) (a 8) (a 9) (a 10) (a 11) h) : I c6 (q2 j27 K) a h := ICx.sq (fun _ _ => u7) (u37 p)
theorem u4 (p : j4 K (a 0) (a 3) (a 5) (a 6) (a 8) (a 9) (a 10) (a 11) h) : I c4 (q1 K) a h := ICx.sq (fun _ _ => u5) (u6 p)
theorem j3_ok (j4 : G8) : I c38 (q12 j4 K) a h = j3g j4 K (a 0) (a 3) (a 5) (a 6) (a 8) (a 9) (a 10) h := by kernel_rfl
theorem u38 (p : j3 K (a 0) (a 3) (a 5) (a 6) (a 8) (a 9) (a 10) h) : I c38 (q12 j4 K) a h := ICx.to p (j3_ok j4)
theorem u3 (p : j3 K (a 0) (a 3) (a 5) (a 6) (a 8) (a 9) (a 10) h) : I c3 (q1 K) a h := ICx.sq (fun _ _ => u4) (u38 p)
theorem j2_ok (j3 : G7) : I c39 (q13 j3 K) a h = j2g j3 K (a 0) (a 3) (a 5) (a 6) (a 8) (a 9) h := by kernel_rfl
theorem u39 (p : j2 K (a 0) (a 3) (a 5) (a 6) (a 8) (a 9) h) : I c39 (q13 j3 K) a h := ICx.to p (j2_ok j3)
theorem u2 (p : j2 K (a 0) (a 3) (a 5) (a 6) (a 8) (a 9) h) : I c2 (q1 K) a h := ICx.sq (fun _ _ => u3) (u39 p)
theorem j1_ok (j2 : G6) : I c40 (q14 j2 K) a h = j1g j2 K (a 0) (a 3) (a 5) (a 6) (a 8) h := by kernel_rfl
theorem u40 (p : j1 K (a 0) (a 3) (a 5) (a 6) (a 8) h) : I c40 (q14 j2 K) a h := ICx.to p (j1_ok j2)
theorem u1 (p : j1 K (a 0) (a 3) (a 5) (a 6) (a 8) h) : I c1 (q1 K) a h := ICx.sq (fun _ _ => u2) (u40 p)
theorem e_ok (j1 : G5) : I c41 (q15 j1 K) a h = eg j1 K (a 0) (a 1) (a 2) (a 3) h := by kernel_rfl
theorem u41 (p : e K (a 0) (a 1) (a 2) (a 3) h) : I c41 (q15 j1 K) a h := ICx.to p (e_ok j1)
theorem u0 (p : e K (a 0) (a 1) (a 2) (a 3) h) : I c0 (q1 K) a h := ICx.sq (fun _ _ => u1) (u41 p)
theorem call {x0 x1 x2 x3 : IV} (p : e K x0 x1 x2 x3 h) : Z5 PP Z31 [x0, x1, x2, x3] h K :=
  ICx.fn Try.mixed Try.func71 rfl (Nat.le_of_ble_eq_true rfl) (u0 (a := actI [x0, x1, x2, x3]) p)
end ZB
namespace Z4H
def D : Nat → DI
  | _ => ⟨[], [], []⟩
abbrev I := ICx PP 8 D
def c0 : Code := bodyN Try.f72
abbrev q1 (K : KT) : QT := finK PP Try.f72.results.toList K
def e (K : KT) (x0 x1 : IV) (h : Heap) : Prop :=
 oA (Zp PP Z8 h) h fun v1 h1 =>
 oV x0 h1 fun v2 =>
 oV x1 h1 fun v3 =>
 oD (Zo PP Z8 [(0, v2), (1, v3), (2, .int .i64 (-1)), (3, .int .i64 (-1)), (4, .int .i64 (-1))]) h1 fun v4 =>
 oS (Z9 PP Z8 v1 v4 h1) h1 fun h2 =>
 Zd PP [.c v1 Z8] h2 K
theorem u0 (p : e K (a 0) (a 1) h) : I c0 (q1 K) a h := ICx.to p
theorem call {x0 x1 : IV} (p : e K x0 x1 h) : Z5 PP Z2z [x0, x1] h K :=
  ICx.fn Try.mixed Try.func72 rfl (Nat.le_of_ble_eq_true rfl) (u0 (a := actI [x0, x1]) p)
end Z4H
namespace Z28
def D : Nat → DI
  | _ => ⟨[], [], []⟩
abbrev I := ICx PP 15 D
def c0 : Code := bodyN Try.f73
def c1 : Code := cR c0
def c2 : Code := cR c1
def c3 : Code := cL c1
def c4 : Code := cL c0
abbrev q1 (K : KT) : QT := finK PP Try.f73.results.toList K
def j2 (K : KT) (x0 x1 : IV) (h : Heap) : Prop :=
 oV x1 h fun v1 =>
 oV x0 h fun v2 =>
 oV x1 h fun v3 =>
 oD (lenI PP Zk v3) h fun v4 =>
 Z5 PP ZL [v2, v4] h fun v5 h1 =>
 oD (Zf PP Zk v1 v5 h1) h1 fun v6 =>
 oD (Z1 PP Z0 v6 h1) h1 fun v7 =>
 oV v7 h1 fun v8 =>
 Zd PP [.v v8] h1 K
abbrev q2 (j2 : G2) (K : KT) : QT := Z4 (fun a h => j2 K (a 0) (a 1) h) (q1 K)
def j1g (j2 : G2) (K : KT) (x0 x1 : IV) (h : Heap) : Prop :=
 oV x1 h fun v1 =>
 oD (lenI PP Zk v1) h fun v2 =>
 oD (Z7 PP .eql Z0 v2 (.int .i64 0)) h fun v3 =>
 bK' v3
   (oV (.int .i64 (-1)) h fun v4 =>
   Zd PP [.v v4] h K)
   (j2 K x0 x1 h)
abbrev j1 : G2 := j1g j2
abbrev q3 (j1 : G2) (K : KT) : QT := Z4 (fun a h => j1 K (a 0) (a 1) h) (q1 K)
def eg (j1 : G2) (K : KT) (x0 x1 : IV) (h : Heap) : Prop :=
 oV (.int .i64 0) h fun v1 =>
 j1 K x0 x1 h
abbrev e : G2 := eg j1
theorem u2 (p : j2 K (a 0) (a 1) h) : I c2 (q1 K) a h := ICx.to p
theorem j1_ok (j2 : G2) : I c3 (q2 j2 K) a h = j1g j2 K (a 0) (a 1) h := by kernel_rfl
theorem u3 (p : j1 K (a 0) (a 1) h) : I c3 (q2 j2 K) a h := ICx.to p (j1_ok j2)
theorem u1 (p : j1 K (a 0) (a 1) h) : I c1 (q1 K) a h := ICx.sq (fun _ _ => u2) (u3 p)
theorem e_ok (j1 : G2) : I c4 (q3 j1 K) a h = eg j1 K (a 0) (a 1) h := by kernel_rfl
theorem u4 (p : e K (a 0) (a 1) h) : I c4 (q3 j1 K) a h := ICx.to p (e_ok j1)
theorem u0 (p : e K (a 0) (a 1) h) : I c0 (q1 K) a h := ICx.sq (fun _ _ => u1) (u4 p)
theorem call {x0 x1 : IV} (p : e K x0 x1 h) : Z5 PP Z2h [x0, x1] h K :=
  ICx.fn Try.mixed Try.func73 rfl (Nat.le_of_ble_eq_true rfl) (u0 (a := actI [x0, x1]) p)
end Z28
namespace Z1q
def D : Nat → DI
  | _ => ⟨[], [], []⟩
abbrev I := ICx PP 23 D
def c0 : Code := bodyN Try.f74
def c1 : Code := cR c0
def c2 : Code := cR c1
def c3 : Code := cR c2
def c4 : Code := cL c2
def c5 : Code := cR c4
def c6 : Code := cL c5
def c7 : Code := cL c6
def c8 : Code := cR c7
def c9 : Code := cR c8
def c10 : Code := cL c8
def c11 : Code := cL c7
def c12 : Code := cL c4
def c13 : Code := cL c1
def c14 : Code := cL c0
abbrev q1 (K : KT) : QT := finK PP Try.f74.results.toList K
def j5 (K : KT) (x5 : IV) (h : Heap) : Prop :=
 oV x5 h fun v1 =>
 oV v1 h fun v2 =>
 Zd PP [.v v2] h K
abbrev q2 (j5 : G1) (K : KT) : QT := Z4 (fun a h => j5 K (a 5) h) (q1 K)
abbrev q3 (j5 : G1) (K : KT) : QT := Zq 0 (q2 j5 K)
def l1 (K : KT) (x1 x2 x5 x6 : IV) (h : Heap) : Prop := ∀ a : IAct, a 1 = x1 → a 2 = x2 → a 5 = x5 → a 6 = x6 → ILoop PP 23 c7 (q3 j5 K) a h
abbrev q4 (l1 : G4) (j5 : G1) (K : KT) : QT := Z4 (fun a h => l1 K (a 1) (a 2) (a 5) (a 6) h) (q3 j5 K)
def j4g (l1 : G4) (j5 : G1) (K : KT) (x1 x2 x5 x6 : IV) (h : Heap) : Prop :=
 oV x6 h fun v1 =>
 oD (Z7 PP .add Z0 v1 (.int .i64 1)) h fun v2 =>
 oV v2 h fun v3 =>
 l1 K x1 x2 x5 v3 h
abbrev j4 : G4 := j4g l1 j5
abbrev q5 (j4 : G4) (l1 : G4) (j5 : G1) (K : KT) : QT := Z4 (fun a h => j4 K (a 1) (a 2) (a 5) (a 6) h) (q4 l1 j5 K)
def j3g (j4 : G4) (l1 : G4) (j5 : G1) (K : KT) (x1 x2 x5 x6 : IV) (h : Heap) : Prop :=
 oD (Z1 PP Z6 x2 h) h fun v1 =>
 oV x1 h fun v2 =>
 oV x6 h fun v3 =>
 Z5 PP Z1T [v1, v2, v3] h fun v4 h1 =>
 bK' v4
   (oV x5 h1 fun v5 =>
   oV x6 h1 fun v6 =>
   oA (ZA PP Zk 1 [(0, v6)] h1) h1 fun v7 h2 =>
   oA (ZJ PP Zk Zk v5 v7 h2) h2 fun v8 h3 =>
   oV v8 h3 fun v9 =>
   j4 K x1 x2 v9 x6 h3)
   (j4 K x1 x2 x5 x6 h1)
abbrev j3 : G4 := j3g j4 l1 j5
abbrev q6 (j3 : G4) (l1 : G4) (j5 : G1) (K : KT) : QT := Z4 (fun a h => j3 K (a 1) (a 2) (a 5) (a 6) h) (q4 l1 j5 K)
def b1g (j3 : G4) (l1 : G4) (j5 : G1) (K : KT) (x1 x2 x5 x6 : IV) (h : Heap) : Prop :=
 oV x6 h fun v1 =>
 oD (Z2 PP Z6 x2 2) h fun v2 =>
 oD (Z1 PP Zn v2 h) h fun v3 =>
 oD (lenI PP Zn v3) h fun v4 =>
 oD (Z7 PP .lss Z0 v1 v4) h fun v5 =>
 bK' v5
   (j3 K x1 x2 x5 x6 h)
   (j5 K x5 h)
abbrev b1 : G4 := b1g j3 l1 j5
abbrev q7 (l1 : G4) (j5 : G1) (K : KT) : QT := Z4 (fun a h => l1 K (a 1) (a 2) (a 5) (a 6) h) (q2 j5 K)
def j2g (l1 : G4) (j5 : G1) (K : KT) (x1 x2 x5 : IV) (h : Heap) : Prop :=
 oV (.int .i64 0) h fun v1 =>
 l1 K x1 x2 x5 v1 h
abbrev j2 : G3 := j2g l1 j5
abbrev q8 (j2 : G3) (K : KT) : QT := Z4 (fun a h => j2 K (a 1) (a 2) (a 5) h) (q1 K)
def j1g (j2 : G3) (K : KT) (x1 x2 : IV) (h : Heap) : Prop :=
 oV (.snil) h fun v1 =>
 j2 K x1 x2 v1 h
abbrev j1 : G2 := j1g j2
abbrev q9 (j1 : G2) (K : KT) : QT := Z4 (fun a h => j1 K (a 1) (a 2) h) (q1 K)
def eg (j1 : G2) (K : KT) (x0 x1 : IV) (h : Heap) : Prop :=
 oA (Zi Z6 x0 h) h fun v1 h1 =>
 oV (.snil) h1 fun v2 =>
 j1 K x1 v1 h1
abbrev e : G2 := eg j1
theorem u3 (p : j5 K (a 5) h) : I c3 (q1 K) a h := ICx.to p
theorem j4_ok (l1 : G4) (j5 : G1) : I c9 (q4 l1 j5 K) a h = j4g l1 j5 K (a 1) (a 2) (a 5) (a 6) h := by kernel_rfl
theorem u9 (p : j4 K (a 1) (a 2) (a 5) (a 6) h) : I c9 (q4 l1 j5 K) a h := ICx.to p (j4_ok l1 j5)
theorem j3_ok (j4 : G4) (l1 : G4) (j5 : G1) : I c10 (q5 j4 l1 j5 K) a h = j3g j4 l1 j5 K (a 1) (a 2) (a 5) (a 6) h := by kernel_rfl
theorem u10 (p : j3 K (a 1) (a 2) (a 5) (a 6) h) : I c10 (q5 j4 l1 j5 K) a h := ICx.to p (j3_ok j4 l1 j5)
theorem u8 (p : j3 K (a 1) (a 2) (a 5) (a 6) h) : I c8 (q4 l1 j5 K) a h := ICx.sq (fun _ _ => u9) (u10 p)
theorem b1_ok (j3 : G4) (l1 : G4) (j5 : G1) : I c11 (q6 j3 l1 j5 K) a h = b1g j3 l1 j5 K (a 1) (a 2) (a 5) (a 6) h := by kernel_rfl
theorem u11 (p : b1 K (a 1) (a 2) (a 5) (a 6) h) : I c11 (q6 j3 l1 j5 K) a h := ICx.to p (b1_ok j3 l1 j5)
theorem u7 (p : b1 K (a 1) (a 2) (a 5) (a 6) h) : I c7 (q4 l1 j5 K) a h := ICx.sq (fun _ _ => u8) (u11 p)
theorem u6 (p : l1 K (a 1) (a 2) (a 5) (a 6) h) : I c6 (q3 j5 K) a h := ICx.lp (p a rfl rfl rfl rfl)
theorem l1_round {x1 x2 x5 x6 : IV} (p : b1 K x1 x2 x5 x6 h) : l1 K x1 x2 x5 x6 h := by
  intro a e1 e2 e5 e6
  subst e1; subst e2; subst e5; subst e6; exact ICx.round Try.mixed (D := D) (L := fun a h => l1 K (a 1) (a 2) (a 5) (a 6) h) (fun a h p => p a rfl rfl rfl rfl) (u7 p)
theorem u5 (p : l1 K (a 1) (a 2) (a 5) (a 6) h) : I c5 (q2 j5 K) a h := ICx.blk (u6 p)
theorem j2_ok (l1 : G4) (j5 : G1) : I c12 (q7 l1 j5 K) a h = j2g l1 j5 K (a 1) (a 2) (a 5) h := by kernel_rfl
theorem u12 (p : j2 K (a 1) (a 2) (a 5) h) : I c12 (q7 l1 j5 K) a h := ICx.to p (j2_ok l1 j5)
theorem u4 (p : j2 K (a 1) (a 2) (a 5) h) : I c4 (q2 j5 K) a h := ICx.sq (fun _ _ => u5) (u12 p)
theorem u2 (p : j2 K (a 1) (a 2) (a 5) h) : I c2 (q1 K) a h := ICx.sq (fun _ _ => u3) (u4 p)
theorem j1_ok (j2 : G3) : I c13 (q8 j2 K) a h = j1g j2 K (a 1) (a 2) h := by kernel_rfl
theorem u13 (p : j1 K (a 1) (a 2) h) : I c13 (q8 j2 K) a h := ICx.to p (j1_ok j2)
theorem u1 (p : j1 K (a 1) (a 2) h) : I c1 (q1 K) a h := ICx.sq (fun _ _ => u2) (u13 p)
theorem e_ok (j1 : G2) : I c14 (q9 j1 K) a h = eg j1 K (a 0) (a 1) h := by kernel_rfl
theorem u14 (p : e K (a 0) (a 1) h) : I c14 (q9 j1 K) a h := ICx.to p (e_ok j1)
theorem u0 (p : e K (a 0) (a 1) h) : I c0 (q1 K) a h := ICx.sq (fun _ _ => u1) (u14 p)
theorem call {x0 x1 : IV} (p : e K x0 x1 h) : Z5 PP Z32 [x0, x1] h K :=
  ICx.fn Try.mixed Try.func74 rfl (Nat.le_of_ble_eq_true rfl) (u0 (a := actI [x0, x1]) p)
end Z1q
namespace Z1r
def D : Nat → DI
  | _ => ⟨[], [], []⟩
abbrev I := ICx PP 31 D
def c0 : Code := bodyN Try.f75
def c1 : Code := cR c0
def c2 : Code := cR c1
def c3 : Code := cR c2
def c4 : Code := cL c2
def c5 : Code := cR c4
def c6 : Code := cL c5
def c7 : Code := cL c6
def c8 : Code := cR c7
def c9 : Code := cR c8
def c10 : Code := cL c8
def c11 : Code := cL c7
def c12 : Code := cL c4
def c13 : Code := cL c1
def c14 : Code := cL c0
abbrev q1 (K : KT) : QT := finK PP Try.f75.results.toList K
def j5 (K : KT) (x7 : IV) (h : Heap) : Prop :=
 oV x7 h fun v1 =>
 oV v1 h fun v2 =>
 Zd PP [.v v2] h K
abbrev q2 (j5 : G1) (K : KT) : QT := Z4 (fun a h => j5 K (a 7) h) (q1 K)
abbrev q3 (j5 : G1) (K : KT) : QT := Zq 0 (q2 j5 K)
def l1 (K : KT) (x1 x2 x3 x7 x8 : IV) (h : Heap) : Prop := ∀ a : IAct, a 1 = x1 → a 2 = x2 → a 3 = x3 → a 7 = x7 → a 8 = x8 → ILoop PP 31 c7 (q3 j5 K) a h
abbrev q4 (l1 : G5) (j5 : G1) (K : KT) : QT := Z4 (fun a h => l1 K (a 1) (a 2) (a 3) (a 7) (a 8) h) (q3 j5 K)
def j4g (l1 : G5) (j5 : G1) (K : KT) (x1 x2 x3 x7 x8 : IV) (h : Heap) : Prop :=
 oV x8 h fun v1 =>
 oD (Z7 PP .add Z0 v1 (.int .i64 1)) h fun v2 =>
 oV v2 h fun v3 =>
 l1 K x1 x2 x3 x7 v3 h
abbrev j4 : G5 := j4g l1 j5
abbrev q5 (j4 : G5) (l1 : G5) (j5 : G1) (K : KT) : QT := Z4 (fun a h => j4 K (a 1) (a 2) (a 3) (a 7) (a 8) h) (q4 l1 j5 K)
def j3g (j4 : G5) (l1 : G5) (j5 : G1) (K : KT) (x1 x2 x3 x7 x8 : IV) (h : Heap) : Prop :=
 oD (Z1 PP Z6 x3 h) h fun v1 =>
 oV x1 h fun v2 =>
 oV x8 h fun v3 =>
 Z5 PP Z1T [v1, v2, v3] h fun v4 h1 =>
 oV v4 h1 fun v5 =>
 oG (gW v5 true) (Z1 PP Z6 x3 h1) h1 fun v6 =>
 oG (gW v5 true) (some x2) h1 fun v7 =>
 oG (gW v5 true) (some x8) h1 fun v8 =>
 Zm PP (gW v5 true) Z35 [v6, v7, v8] h1 fun v9 h2 =>
 oP sT (Ze v5 v9 (.bool false) h2) h2 fun v10 =>
 bK' v10
   (oV x7 h2 fun v11 =>
   oV x8 h2 fun v12 =>
   oA (ZA PP Zk 1 [(0, v12)] h2) h2 fun v13 h3 =>
   oA (ZJ PP Zk Zk v11 v13 h3) h3 fun v14 h4 =>
   oV v14 h4 fun v15 =>
   j4 K x1 x2 x3 v15 x8 h4)
   (j4 K x1 x2 x3 x7 x8 h2)
abbrev j3 : G5 := j3g j4 l1 j5
abbrev q6 (j3 : G5) (l1 : G5) (j5 : G1) (K : KT) : QT := Z4 (fun a h => j3 K (a 1) (a 2) (a 3) (a 7) (a 8) h) (q4 l1 j5 K)
def b1g (j3 : G5) (l1 : G5) (j5 : G1) (K : KT) (x1 x2 x3 x7 x8 : IV) (h : Heap) : Prop :=
 oV x8 h fun v1 =>
 oD (Z2 PP Z6 x3 2) h fun v2 =>
 oD (Z1 PP Zn v2 h) h fun v3 =>
 oD (lenI PP Zn v3) h fun v4 =>
 oD (Z7 PP .lss Z0 v1 v4) h fun v5 =>
 bK' v5
   (j3 K x1 x2 x3 x7 x8 h)
   (j5 K x7 h)
abbrev b1 : G5 := b1g j3 l1 j5
abbrev q7 (l1 : G5) (j5 : G1) (K : KT) : QT := Z4 (fun a h => l1 K (a 1) (a 2) (a 3) (a 7) (a 8) h) (q2 j5 K)
def j2g (l1 : G5) (j5 : G1) (K : KT) (x1 x2 x3 x7 : IV) (h : Heap) : Prop :=
 oV (.int .i64 0) h fun v1 =>
 l1 K x1 x2 x3 x7 v1 h
abbrev j2 : G4 := j2g l1 j5
abbrev q8 (j2 : G4) (K : KT) : QT := Z4 (fun a h => j2 K (a 1) (a 2) (a 3) (a 7) h) (q1 K)
def j1g (j2 : G4) (K : KT) (x1 x2 x3 : IV) (h : Heap) : Prop :=
 oV (.snil) h fun v1 =>
 j2 K x1 x2 x3 v1 h
abbrev j1 : G3 := j1g j2
abbrev q9 (j1 : G3) (K : KT) : QT := Z4 (fun a h => j1 K (a 1) (a 2) (a 3) h) (q1 K)
def eg (j1 : G3) (K : KT) (x0 x1 x2 : IV) (h : Heap) : Prop :=
 oA (Zi Z6 x0 h) h fun v1 h1 =>
 oV (.snil) h1 fun v2 =>
 j1 K x1 x2 v1 h1
abbrev e : G3 := eg j1
theorem u3 (p : j5 K (a 7) h) : I c3 (q1 K) a h := ICx.to p
theorem j4_ok (l1 : G5) (j5 : G1) : I c9 (q4 l1 j5 K) a h = j4g l1 j5 K (a 1) (a 2) (a 3) (a 7) (a 8) h := by kernel_rfl
theorem u9 (p : j4 K (a 1) (a 2) (a 3) (a 7) (a 8) h) : I c9 (q4 l1 j5 K) a h := ICx.to p (j4_ok l1 j5)
theorem j3_ok (j4 : G5) (l1 : G5) (j5 : G1) : I c10 (q5 j4 l1 j5 K) a h = j3g j4 l1 j5 K (a 1) (a 2) (a 3) (a 7) (a 8) h := by kernel_rfl
theorem u10 (p : j3 K (a 1) (a 2) (a 3) (a 7) (a 8) h) : I c10 (q5 j4 l1 j5 K) a h := ICx.to p (j3_ok j4 l1 j5)
theorem u8 (p : j3 K (a 1) (a 2) (a 3) (a 7) (a 8) h) : I c8 (q4 l1 j5 K) a h := ICx.sq (fun _ _ => u9) (u10 p)
theorem b1_ok (j3 : G5) (l1 : G5) (j5 : G1) : I c11 (q6 j3 l1 j5 K) a h = b1g j3 l1 j5 K (a 1) (a 2) (a 3) (a 7) (a 8) h := by kernel_rfl
theorem u11 (p : b1 K (a 1) (a 2) (a 3) (a 7) (a 8) h) : I c11 (q6 j3 l1 j5 K) a h := ICx.to p (b1_ok j3 l1 j5)
theorem u7 (p : b1 K (a 1) (a 2) (a 3) (a 7) (a 8) h) : I c7 (q4 l1 j5 K) a h := ICx.sq (fun _ _ => u8) (u11 p)
theorem u6 (p : l1 K (a 1) (a 2) (a 3) (a 7) (a 8) h) : I c6 (q3 j5 K) a h := ICx.lp (p a rfl rfl rfl rfl rfl)
theorem l1_round {x1 x2 x3 x7 x8 : IV} (p : b1 K x1 x2 x3 x7 x8 h) : l1 K x1 x2 x3 x7 x8 h := by
  intro a e1 e2 e3 e7 e8
  subst e1; subst e2; subst e3; subst e7; subst e8; exact ICx.round Try.mixed (D := D) (L := fun a h => l1 K (a 1) (a 2) (a 3) (a 7) (a 8) h) (fun a h p => p a rfl rfl rfl rfl rfl) (u7 p)
theorem u5 (p : l1 K (a 1) (a 2) (a 3) (a 7) (a 8) h) : I c5 (q2 j5 K) a h := ICx.blk (u6 p)
theorem j2_ok (l1 : G5) (j5 : G1) : I c12 (q7 l1 j5 K) a h = j2g l1 j5 K (a 1) (a 2) (a 3) (a 7) h := by kernel_rfl
theorem u12 (p : j2 K (a 1) (a 2) (a 3) (a 7) h) : I c12 (q7 l1 j5 K) a h := ICx.to p (j2_ok l1 j5)
theorem u4 (p : j2 K (a 1) (a 2) (a 3) (a 7) h) : I c4 (q2 j5 K) a h := ICx.sq (fun _ _ => u5) (u12 p)
theorem u2 (p : j2 K (a 1) (a 2) (a 3) (a 7) h) : I c2 (q1 K) a h := ICx.sq (fun _ _ => u3) (u4 p)
theorem j1_ok (j2 : G4) : I c13 (q8 j2 K) a h = j1g j2 K (a 1) (a 2) (a 3) h := by kernel_rfl
theorem u13 (p : j1 K (a 1) (a 2) (a 3) h) : I c13 (q8 j2 K) a h := ICx.to p (j1_ok j2)
theorem u1 (p : j1 K (a 1) (a 2) (a 3) h) : I c1 (q1 K) a h := ICx.sq (fun _ _ => u2) (u13 p)
theorem e_ok (j1 : G3) : I c14 (q9 j1 K) a h = eg j1 K (a 0) (a 1) (a 2) h := by kernel_rfl
theorem u14 (p : e K (a 0) (a 1) (a 2) h) : I c14 (q9 j1 K) a h := ICx.to p (e_ok j1)
theorem u0 (p : e K (a 0) (a 1) (a 2) h) : I c0 (q1 K) a h := ICx.sq (fun _ _ => u1) (u14 p)
theorem call {x0 x1 x2 : IV} (p : e K x0 x1 x2 h) : Z5 PP Z33 [x0, x1, x2] h K :=
  ICx.fn Try.mixed Try.func75 rfl (Nat.le_of_ble_eq_true rfl) (u0 (a := actI [x0, x1, x2]) p)
end Z1r
namespace ZE
def D : Nat → DI
  | 14 => ⟨[0, 1, 0, 4, 15, 31, 63], [0, 1, 2, 3, 4, 5, 6], []⟩
  | 15 => ⟨[0, 1, 0, 0, 8, 28, 63, 127, 255], [0, 1, 2, 3, 4, 5, 6, 7, 8], []⟩
  | 18 => ⟨[0, 1, 3, 0, 8, 0, 32, 120, 31, 383, 1023, 2047], [0, 1, 2, 3, 4, 5, 8, 6, 7, 9, 10, 11], []⟩
  | _ => ⟨[], [], []⟩
abbrev I := ICx PP 129 D
def c0 : Code := bodyN Try.f76
def c1 : Code := cR c0
def c2 : Code := cR c1
def c3 : Code := cR c2
def c4 : Code := cR c3
def c5 : Code := cR c4
def c6 : Code := cR c5
def c7 : Code := cR c6
def c8 : Code := cR c7
def c9 : Code := cR c8
def c10 : Code := cR c9
def c11 : Code := cR c10
def c12 : Code := cR c11
def c13 : Code := cL c11
def c14 : Code := cR c13
def c15 : Code := cL c14
def c16 : Code := cR c14
def c17 : Code := cL c13
def c18 : Code := cL c10
def c19 : Code := cL c9
def c20 : Code := cL c8
def c21 : Code := cL c7
def c22 : Code := cL c6
def c23 : Code := cL c5
def c24 : Code := cL c4
def c25 : Code := cL c3
def c26 : Code := cR c25
def c27 : Code := cL c26
def c28 : Code := cR c26
def c29 : Code := cL c25
def c30 : Code := cL c2
def c31 : Code := cL c1
def c32 : Code := cL c0
abbrev q1 (K : KT) : QT := finK PP Try.f76.results.toList K
def j18 (K : KT) (x7 x8 : IV) (h : Heap) : Prop :=
 oD (Z1 PP Z8 x7 h) h fun v1 =>
 oS (Z9 PP Z8 x8 v1 h) h fun h1 =>
 Zd PP [.c x8 Z8] h1 K
abbrev q2 (j18 : G2) (K : KT) : QT := Z4 (fun a h => j18 K (a 7) (a 8) h) (q1 K)
def j16g (j18 : G2) (K : KT) (x0 x7 x8 : IV) (h : Heap) : Prop :=
 oD (Z2 PP Z8 x7 6) h fun v1 =>
 oD (Z1 PP Z0 v1 h) h fun v2 =>
 oD (Z7 PP .sub Z0 v2 (.int .i64 1)) h fun v3 =>
 oD (Z2 PP Z8 x7 7) h fun v4 =>
 oD (Z1 PP Z0 v4 h) h fun v5 =>
 oV x0 h fun v6 =>
 oD (Z2 PP Z8 x7 6) h fun v7 =>
 Z5 PP ZL [v6, .int .i64 30] h fun v8 h1 => oB ((Zb (Z1 PP Z0 v4 h1) v5 h1) ∧ (Zb (Z1 PP Z0 v1 h1) v2 h1) ∧ True) <|
 oD (Z7 PP .add Z0 v5 v8) h1 fun v9 =>
 oS (Z9 PP Z0 v7 v3 h1) h1 fun h2 => oB (True) <|
 oD (Z2 PP Z8 x7 7) h2 fun v10 =>
 oS (Z9 PP Z0 v10 v9 h2) h2 fun h3 => oB (True) <|
 oD (Z2 PP Z8 x7 6) h3 fun v11 =>
 oD (Z1 PP Z0 v11 h3) h3 fun v12 =>
 oD (mmI true (.int .i64 0) [v12]) h3 fun v13 =>
 oD (Z2 PP Z8 x7 6) h3 fun v14 =>
 oS (Z9 PP Z0 v14 v13 h3) h3 fun h4 =>
 j18 K x7 x8 h4
abbrev j16 : G3 := j16g j18
def j17g (j18 : G2) (K : KT) (x7 x8 : IV) (h : Heap) : Prop :=
 j18 K x7 x8 h
abbrev j17 : G2 := j17g j18
def j15 (K : KT) (x0 x7 x8 x113 : IV) (h : Heap) : Prop := bK' x113 (j16 K x0 x7 x8 h) (j17 K x7 x8 h)
abbrev q3 (j15 : G4) (j18 : G2) (K : KT) : QT := Z4 (fun a h => j15 K (a 0) (a 7) (a 8) (a 113) h) (q2 j18 K)
def j14g (j15 : G4) (j18 : G2) (K : KT) (x0 x7 x8 : IV) (h : Heap) : Prop :=
 oV x0 h fun v1 =>
 Z5 PP Z1m [v1, .int .i64 15] h fun v2 h1 =>
 j15 K x0 x7 x8 v2 h1
abbrev j14 : G3 := j14g j15 j18
abbrev q4 (j14 : G3) (K : KT) : QT := Z4 (fun a h => j14 K (a 0) (a 7) (a 8) h) (q1 K)
def j13g (j14 : G3) (K : KT) (x0 x6 x7 x8 : IV) (h : Heap) : Prop :=
 oD (Z2 PP Z3 x6 3) h fun v1 =>
 oD (Z1 PP Zl v1 h) h fun v2 =>
 oD (Z2 PP Z8 x7 3) h fun v3 =>
 oD (Z1 PP Z0 v3 h) h fun v4 =>
 oD (Zf PP Zl v2 v4 h) h fun v5 =>
 oD (Z2 PP Zj v5 1) h fun v6 =>
 oD (Z1 PP Z0 v6 h) h fun v7 =>
 oD (Z2 PP Z8 x7 8) h fun v8 =>
 oS (Z9 PP Z0 v8 v7 h) h fun h1 =>
 j14 K x0 x7 x8 h1
abbrev j13 : G4 := j13g j14
abbrev q5 (j13 : G4) (K : KT) : QT := Z4 (fun a h => j13 K (a 0) (a 6) (a 7) (a 8) h) (q1 K)
def j12g (j13 : G4) (K : KT) (x0 x5 x6 x7 x8 : IV) (h : Heap) : Prop :=
 oD (Z2 PP Z8 x7 6) h fun v1 =>
 oD (Z1 PP Z0 v1 h) h fun v2 =>
 oV x0 h fun v3 =>
 oD (Z2 PP Z6 x5 8) h fun v4 =>
 oD (Z1 PP Z0 v4 h) h fun v5 =>
 Z5 PP Z1A [v3, .int .i64 1, v5] h fun v6 h1 => oB ((Zb (Z1 PP Z0 v1 h1) v2 h1) ∧ True) <|
 oD (Z7 PP .add Z0 v2 v6) h1 fun v7 =>
 oD (Z2 PP Z8 x7 7) h1 fun v8 =>
 oS (Z9 PP Z0 v8 v7 h1) h1 fun h2 => oB (True) <|
 j13 K x0 x6 x7 x8 h2
abbrev j12 : G5 := j12g j13
abbrev q6 (j12 : G5) (K : KT) : QT := Z4 (fun a h => j12 K (a 0) (a 5) (a 6) (a 7) (a 8) h) (q1 K)
def j11g (j12 : G5) (K : KT) (x0 x5 x6 x7 x8 : IV) (h : Heap) : Prop :=
 oV x0 h fun v1 =>
 Z5 PP Z1m [v1, .int .i64 5] h fun v2 h1 =>
 bK' v2
   (oD (Z2 PP Z8 x7 6) h1 fun v3 =>
   oD (Z1 PP Z0 v3 h1) h1 fun v4 =>
   oV x0 h1 fun v5 =>
   Z5 PP ZL [v5, .int .i64 3] h1 fun v6 h2 => oB ((Zb (Z1 PP Z0 v3 h2) v4 h2) ∧ True) <|
   oD (Z7 PP .add Z0 v4 v6) h2 fun v7 =>
   oD (Z2 PP Z8 x7 6) h2 fun v8 =>
   oS (Z9 PP Z0 v8 v7 h2) h2 fun h3 => oB (True) <|
   j12 K x0 x5 x6 x7 x8 h3)
   (j12 K x0 x5 x6 x7 x8 h1)
abbrev j11 : G5 := j11g j12
abbrev q7 (j11 : G5) (K : KT) : QT := Z4 (fun a h => j11 K (a 0) (a 5) (a 6) (a 7) (a 8) h) (q1 K)
def j10g (j11 : G5) (K : KT) (x0 x5 x6 x7 x8 x9 : IV) (h : Heap) : Prop :=
 oD (Z2 PP Z8 x7 1) h fun v1 =>
 oD (Z1 PP Z0 v1 h) h fun v2 =>
 oD (Z2 PP Za x9 7) h fun v3 =>
 oD (Z2 PP Zu v3 4) h fun v4 =>
 oD (Z1 PP Z0 v4 h) h fun v5 =>
 oD (mmI true v2 [v5]) h fun v6 =>
 oD (Z2 PP Z8 x7 6) h fun v7 =>
 oS (Z9 PP Z0 v7 v6 h) h fun h1 =>
 j11 K x0 x5 x6 x7 x8 h1
abbrev j10 : G6 := j10g j11
abbrev q8 (j10 : G6) (K : KT) : QT := Z4 (fun a h => j10 K (a 0) (a 5) (a 6) (a 7) (a 8) (a 9) h) (q1 K)
def j9g (j10 : G6) (K : KT) (x0 x5 x6 x7 x8 x9 : IV) (h : Heap) : Prop :=
 oD (Z2 PP Z8 x7 3) h fun v1 =>
 oD (Z1 PP Z0 v1 h) h fun v2 =>
 oD (Z2 PP Za x9 2) h fun v3 =>
 oD (Z1 PP Z0 v3 h) h fun v4 =>
 oD (Z7 PP .neq Z0 v2 v4) h fun v5 =>
 oV v5 h fun v6 =>
 oG (gW v6 true) (some x0) h fun v7 =>
 Zm PP (gW v6 true) ZL [v7, .int .i64 4] h fun v8 h1 =>
 oG (gW v6 true) (Z7 PP .gtr Z0 v8 (.int .i64 0)) h1 fun v9 =>
 oP sT (Ze v6 v9 (.bool false) h1) h1 fun v10 =>
 bK' v10
   (oD (Z2 PP Z8 x7 1) h1 fun v11 =>
   oD (Z1 PP Z0 v11 h1) h1 fun v12 =>
   oD (Z2 PP Za x9 7) h1 fun v13 =>
   oD (Z2 PP Zu v13 4) h1 fun v14 =>
   oD (Z1 PP Z0 v14 h1) h1 fun v15 =>
   oD (mmI true v12 [v15]) h1 fun v16 =>
   oD (Z2 PP Z8 x7 1) h1 fun v17 =>
   oS (Z9 PP Z0 v17 v16 h1) h1 fun h2 =>
   j10 K x0 x5 x6 x7 x8 x9 h2)
   (j10 K x0 x5 x6 x7 x8 x9 h1)
abbrev j9 : G6 := j9g j10
abbrev q9 (j9 : G6) (K : KT) : QT := Z4 (fun a h => j9 K (a 0) (a 5) (a 6) (a 7) (a 8) (a 9) h) (q1 K)
def j8g (j9 : G6) (K : KT) (x0 x5 x6 x7 x8 x9 : IV) (h : Heap) : Prop :=
 oD (Z2 PP Z8 x7 3) h fun v1 =>
 oD (Z1 PP Z0 v1 h) h fun v2 =>
 oD (Z2 PP Za x9 2) h fun v3 =>
 oD (Z1 PP Z0 v3 h) h fun v4 =>
 oD (Z7 PP .neq Z0 v2 v4) h fun v5 =>
 oV v5 h fun v6 =>
 oG (gW v6 false) (Z2 PP Za x9 6) h fun v7 =>
 oG (gW v6 false) (Z1 PP Z0 v7 h) h fun v8 =>
 oG (gW v6 false) (Z7 PP .eql Z0 v8 (.int .i64 0)) h fun v9 =>
 oP sT (Ze v6 (.bool true) v9 h) h fun v10 =>
 oV v10 h fun v11 =>
 oG (gW v11 false) (some x0) h fun v12 =>
 Zm PP (gW v11 false) Z1m [v12, .int .i64 4] h fun v13 h1 =>
 oP sT (Ze v11 (.bool true) v13 h1) h1 fun v14 =>
 bK' v14
   (oD (Z2 PP Za x9 6) h1 fun v15 =>
   oD (Z1 PP Z0 v15 h1) h1 fun v16 =>
   oD (Z7 PP .add Z0 v16 (.int .i64 1)) h1 fun v17 =>
   oD (Z2 PP Z8 x7 5) h1 fun v18 =>
   oS (Z9 PP Z0 v18 v17 h1) h1 fun h2 =>
   j9 K x0 x5 x6 x7 x8 x9 h2)
   (j9 K x0 x5 x6 x7 x8 x9 h1)
abbrev j8 : G6 := j8g j9
abbrev q10 (j8 : G6) (K : KT) : QT := Z4 (fun a h => j8 K (a 0) (a 5) (a 6) (a 7) (a 8) (a 9) h) (q1 K)
def j7g (j8 : G6) (K : KT) (x0 x5 x6 x7 x8 x9 : IV) (h : Heap) : Prop :=
 oD (Z2 PP Za x9 6) h fun v1 =>
 oD (Z1 PP Z0 v1 h) h fun v2 =>
 oD (Z2 PP Z8 x7 5) h fun v3 =>
 oS (Z9 PP Z0 v3 v2 h) h fun h1 =>
 j8 K x0 x5 x6 x7 x8 x9 h1
abbrev j7 : G6 := j7g j8
abbrev q11 (j7 : G6) (K : KT) : QT := Z4 (fun a h => j7 K (a 0) (a 5) (a 6) (a 7) (a 8) (a 9) h) (q1 K)
def j5g (j7 : G6) (K : KT) (x0 x5 x6 x7 x8 x9 : IV) (h : Heap) : Prop :=
 oD (Z2 PP Za x9 5) h fun v1 =>
 oD (Z1 PP Z0 v1 h) h fun v2 =>
 oD (Z2 PP Z8 x7 3) h fun v3 =>
 oS (Z9 PP Z0 v3 v2 h) h fun h1 =>
 j7 K x0 x5 x6 x7 x8 x9 h1
abbrev j5 : G6 := j5g j7
def j6g (j7 : G6) (K : KT) (x0 x5 x6 x7 x8 x9 : IV) (h : Heap) : Prop :=
 oD (Z2 PP Za x9 3) h fun v1 =>
 oD (Z1 PP Z0 v1 h) h fun v2 =>
 oD (Z7 PP .geq Z0 v2 (.int .i64 0)) h fun v3 =>
 oV v3 h fun v4 =>
 oG (gW v4 true) (some x0) h fun v5 =>
 Zm PP (gW v4 true) Z1m [v5, .int .i64 5] h fun v6 h1 =>
 oG (gW v4 true) (some v6) h1 fun v7 =>
 oG (gW v7 false) (Z2 PP Za x9 1) h1 fun v8 =>
 oG (gW v7 false) (Z1 PP Zy v8 h1) h1 fun v9 =>
 oP (gW v4 true) (Ze v7 (.bool true) v9 h1) h1 fun v10 =>
 oP sT (Ze v4 v10 (.bool false) h1) h1 fun v11 =>
 bK' v11
   (oD (Z2 PP Za x9 3) h1 fun v12 =>
   oD (Z1 PP Z0 v12 h1) h1 fun v13 =>
   oD (Z2 PP Z8 x7 3) h1 fun v14 =>
   oS (Z9 PP Z0 v14 v13 h1) h1 fun h2 =>
   j7 K x0 x5 x6 x7 x8 x9 h2)
   (j7 K x0 x5 x6 x7 x8 x9 h1)
abbrev j6 : G6 := j6g j7
def j4 (K : KT) (x0 x5 x6 x7 x8 x9 x25 : IV) (h : Heap) : Prop := bK' x25 (j5 K x0 x5 x6 x7 x8 x9 h) (j6 K x0 x5 x6 x7 x8 x9 h)
abbrev q12 (j4 : G7) (j7 : G6) (K : KT) : QT := Z4 (fun a h => j4 K (a 0) (a 5) (a 6) (a 7) (a 8) (a 9) (a 25) h) (q11 j7 K)
def j3g (j4 : G7) (j7 : G6) (K : KT) (x0 x5 x6 x7 x8 x9 : IV) (h : Heap) : Prop :=
 oD (Z2 PP Za x9 5) h fun v1 =>
 oD (Z1 PP Z0 v1 h) h fun v2 =>
 oD (Z7 PP .geq Z0 v2 (.int .i64 0)) h fun v3 =>
 oV v3 h fun v4 =>
 oG (gW v4 true) (some x0) h fun v5 =>
 Zm PP (gW v4 true) Z1m [v5, .int .i64 2] h fun v6 h1 =>
 oP sT (Ze v4 v6 (.bool false) h1) h1 fun v7 =>
 j4 K x0 x5 x6 x7 x8 x9 v7 h1
abbrev j3 : G6 := j3g j4 j7
abbrev q13 (j3 : G6) (K : KT) : QT := Z4 (fun a h => j3 K (a 0) (a 5) (a 6) (a 7) (a 8) (a 9) h) (q1 K)
def j2g (j3 : G6) (K : KT) (x0 x5 x6 x7 x8 x9 : IV) (h : Heap) : Prop :=
 oD (Z2 PP Za x9 2) h fun v1 =>
 oD (Z1 PP Z0 v1 h) h fun v2 =>
 oD (Z2 PP Z8 x7 3) h fun v3 =>
 oS (Z9 PP Z0 v3 v2 h) h fun h1 =>
 j3 K x0 x5 x6 x7 x8 x9 h1
abbrev j2 : G6 := j2g j3
abbrev q14 (j2 : G6) (K : KT) : QT := Z4 (fun a h => j2 K (a 0) (a 5) (a 6) (a 7) (a 8) (a 9) h) (q1 K)
def j1g (j2 : G6) (K : KT) (x0 x5 x6 x7 x8 : IV) (h : Heap) : Prop :=
 oD (Z2 PP Z3 x6 2) h fun v1 =>
 oD (Z1 PP Zh v1 h) h fun v2 =>
 oD (Z2 PP Z8 x7 2) h fun v3 =>
 oD (Z1 PP Z0 v3 h) h fun v4 =>
 oD (Zf PP Zh v2 v4 h) h fun v5 =>
 oD (Z1 PP Za v5 h) h fun v6 =>
 oA (Zp PP Za h) h fun v7 h1 =>
 oS (Z9 PP Za v7 v6 h1) h1 fun h2 =>
 j2 K x0 x5 x6 x7 x8 v7 h2
abbrev j1 : G5 := j1g j2
abbrev q15 (j1 : G5) (K : KT) : QT := Z4 (fun a h => j1 K (a 0) (a 5) (a 6) (a 7) (a 8) h) (q1 K)
def eg (j1 : G5) (K : KT) (x0 x1 x2 x3 : IV) (h : Heap) : Prop :=
 oA (Zi Z6 x1 h) h fun v1 h1 =>
 oA (Zi Z3 x2 h1) h1 fun v2 h2 =>
 oA (Zi Z8 x3 h2) h2 fun v3 h3 =>
 oA (Zp PP Z8 h3) h3 fun v4 h4 =>
 j1 K x0 v1 v2 v3 v4 h4
abbrev e : G4 := eg j1
theorem u12 (p : j18 K (a 7) (a 8) h) : I c12 (q1 K) a h := ICx.to p
theorem j16_ok (j18 : G2) : I c15 (q2 j18 K) a h = j16g j18 K (a 0) (a 7) (a 8) h := by kernel_rfl
theorem u15 (p : j16 K (a 0) (a 7) (a 8) h) : I c15 (q2 j18 K) a h := ICx.to p (j16_ok j18)
theorem j17_ok (j18 : G2) : I c16 (q2 j18 K) a h = j17g j18 K (a 7) (a 8) h := by kernel_rfl
theorem u16 (p : j17 K (a 7) (a 8) h) : I c16 (q2 j18 K) a h := ICx.to p (j17_ok j18)
theorem u14 (p : j15 K (a 0) (a 7) (a 8) (a 113) h) : I c14 (q2 j18 K) a h := ICx.cnd (o := (Go.Operand.tmp 113)) u15 u16 p
theorem j14_ok (j15 : G4) (j18 : G2) : I c17 (q3 j15 j18 K) a h = j14g j15 j18 K (a 0) (a 7) (a 8) h := by kernel_rfl
theorem u17 (p : j14 K (a 0) (a 7) (a 8) h) : I c17 (q3 j15 j18 K) a h := ICx.to p (j14_ok j15 j18)
theorem u13 (p : j14 K (a 0) (a 7) (a 8) h) : I c13 (q2 j18 K) a h := ICx.sq (fun _ _ => u14) (u17 p)
theorem u11 (p : j14 K (a 0) (a 7) (a 8) h) : I c11 (q1 K) a h := ICx.sq (fun _ _ => u12) (u13 p)
theorem j13_ok (j14 : G3) : I c18 (q4 j14 K) a h = j13g j14 K (a 0) (a 6) (a 7) (a 8) h := by kernel_rfl
theorem u18 (p : j13 K (a 0) (a 6) (a 7) (a 8) h) : I c18 (q4 j14 K) a h := ICx.to p (j13_ok j14)
theorem u10 (p : j13 K (a 0) (a 6) (a 7) (a 8) h) : I c10 (q1 K) a h := ICx.sq (fun _ _ => u11) (u18 p)
theorem j12_ok (j13 : G4) : I c19 (q5 j13 K) a h = j12g j13 K (a 0) (a 5) (a 6) (a 7) (a 8) h := by kernel_rfl
theorem u19 (p : j12 K (a 0) (a 5) (a 6) (a 7) (a 8) h) : I c19 (q5 j13 K) a h := ICx.to p (j12_ok j13)
theorem u9 (p : j12 K (a 0) (a 5) (a 6) (a 7) (a 8) h) : I c9 (q1 K) a h := ICx.sq (fun _ _ => u10) (u19 p)
theorem j11_ok (j12 : G5) : I c20 (q6 j12 K) a h = j11g j12 K (a 0) (a 5) (a 6) (a 7) (a 8) h := by kernel_rfl
theorem u20 (p : j11 K (a 0) (a 5) (a 6) (a 7) (a 8) h) : I c20 (q6 j12 K) a h := ICx.to p (j11_ok j12)
theorem u8 (p : j11 K (a 0) (a 5) (a 6) (a 7) (a 8) h) : I c8 (q1 K) a h := ICx.sq (fun _ _ => u9) (u20 p)
theorem j10_ok (j11 : G5) : I c21 (q7 j11 K) a h = j10g j11 K (a 0) (a 5) (a 6) (a 7) (a 8) (a 9) h := by kernel_rfl
theorem u21 (p : j10 K (a 0) (a 5) (a 6) (a 7) (a 8) (a 9) h) : I c21 (q7 j11 K) a h := ICx.to p (j10_ok j11)
theorem u7 (p : j10 K (a 0) (a 5) (a 6) (a 7) (a 8) (a 9) h) : I c7 (q1 K) a h := ICx.sq (fun _ _ => u8) (u21 p)
theorem j9_ok (j10 : G6) : I c22 (q8 j10 K) a h = j9g j10 K (a 0) (a 5) (a 6) (a 7) (a 8) (a 9) h := by kernel_rfl
theorem u22 (p : j9 K (a 0) (a 5) (a 6) (a 7) (a 8) (a 9) h) : I c22 (q8 j10 K) a h := ICx.to p (j9_ok j10)
theorem u6 (p : j9 K (a 0) (a 5) (a 6) (a 7) (a 8) (a 9) h) : I c6 (q1 K) a h := ICx.sq (fun _ _ => u7) (u22 p)
theorem j8_ok (j9 : G6) : I c23 (q9 j9 K) a h = j8g j9 K (a 0) (a 5) (a 6) (a 7) (a 8) (a 9) h := by kernel_rfl
theorem u23 (p : j8 K (a 0) (a 5) (a 6) (a 7) (a 8) (a 9) h) : I c23 (q9 j9 K) a h := ICx.to p (j8_ok j9)
theorem u5 (p : j8 K (a 0) (a 5) (a 6) (a 7) (a 8) (a 9) h) : I c5 (q1 K) a h := ICx.sq (fun _ _ => u6) (u23 p)
theorem j7_ok (j8 : G6) : I c24 (q10 j8 K) a h = j7g j8 K (a 0) (a 5) (a 6) (a 7) (a 8) (a 9) h := by kernel_rfl
theorem u24 (p : j7 K (a 0) (a 5) (a 6) (a 7) (a 8) (a 9) h) : I c24 (q10 j8 K) a h := ICx.to p (j7_ok j8)
theorem u4 (p : j7 K (a 0) (a 5) (a 6) (a 7) (a 8) (a 9) h) : I c4 (q1 K) a h := ICx.sq (fun _ _ => u5) (u24 p)
theorem j5_ok (j7 : G6) : I c27 (q11 j7 K) a h = j5g j7 K (a 0) (a 5) (a 6) (a 7) (a 8) (a 9) h := by kernel_rfl
theorem u27 (p : j5 K (a 0) (a 5) (a 6) (a 7) (a 8) (a 9) h) : I c27 (q11 j7 K) a h := ICx.to p (j5_ok j7)
theorem j6_ok (j7 : G6) : I c28 (q11 j7 K) a h = j6g j7 K (a 0) (a 5) (a 6) (a 7) (a 8) (a 9) h := by kernel_rfl
theorem u28 (p : j6 K (a 0) (a 5) (a 6) (a 7) (a 8) (a 9) h) : I c28 (q11 j7 K) a h := ICx.to p (j6_ok j7)
theorem u26 (p : j4 K (a 0) (a 5) (a 6) (a 7) (a 8) (a 9) (a 25) h) : I c26 (q11 j7 K) a h := ICx.cnd (o := (Go.Operand.tmp 25)) u27 u28 p
theorem j3_ok (j4 : G7) (j7 : G6) : I c29 (q12 j4 j7 K) a h = j3g j4 j7 K (a 0) (a 5) (a 6) (a 7) (a 8) (a 9) h := by kernel_rfl
theorem u29 (p : j3 K (a 0) (a 5) (a 6) (a 7) (a 8) (a 9) h) : I c29 (q12 j4 j7 K) a h := ICx.to p (j3_ok j4 j7)
theorem u25 (p : j3 K (a 0) (a 5) (a 6) (a 7) (a 8) (a 9) h) : I c25 (q11 j7 K) a h := ICx.sq (fun _ _ => u26) (u29 p)
theorem u3 (p : j3 K (a 0) (a 5) (a 6) (a 7) (a 8) (a 9) h) : I c3 (q1 K) a h := ICx.sq (fun _ _ => u4) (u25 p)
theorem j2_ok (j3 : G6) : I c30 (q13 j3 K) a h = j2g j3 K (a 0) (a 5) (a 6) (a 7) (a 8) (a 9) h := by kernel_rfl
theorem u30 (p : j2 K (a 0) (a 5) (a 6) (a 7) (a 8) (a 9) h) : I c30 (q13 j3 K) a h := ICx.to p (j2_ok j3)
theorem u2 (p : j2 K (a 0) (a 5) (a 6) (a 7) (a 8) (a 9) h) : I c2 (q1 K) a h := ICx.sq (fun _ _ => u3) (u30 p)
theorem j1_ok (j2 : G6) : I c31 (q14 j2 K) a h = j1g j2 K (a 0) (a 5) (a 6) (a 7) (a 8) h := by kernel_rfl
theorem u31 (p : j1 K (a 0) (a 5) (a 6) (a 7) (a 8) h) : I c31 (q14 j2 K) a h := ICx.to p (j1_ok j2)
theorem u1 (p : j1 K (a 0) (a 5) (a 6) (a 7) (a 8) h) : I c1 (q1 K) a h := ICx.sq (fun _ _ => u2) (u31 p)
theorem e_ok (j1 : G5) : I c32 (q15 j1 K) a h = eg j1 K (a 0) (a 1) (a 2) (a 3) h := by kernel_rfl
theorem u32 (p : e K (a 0) (a 1) (a 2) (a 3) h) : I c32 (q15 j1 K) a h := ICx.to p (e_ok j1)
theorem u0 (p : e K (a 0) (a 1) (a 2) (a 3) h) : I c0 (q1 K) a h := ICx.sq (fun _ _ => u1) (u32 p)
theorem call {x0 x1 x2 x3 : IV} (p : e K x0 x1 x2 x3 h) : Z5 PP Z3O [x0, x1, x2, x3] h K :=
  ICx.fn Try.mixed Try.func76 rfl (Nat.le_of_ble_eq_true rfl) (u0 (a := actI [x0, x1, x2, x3]) p)
end ZE
namespace Z47
def D : Nat → DI
  | _ => ⟨[], [], []⟩
abbrev I := ICx PP 15 D
def c0 : Code := bodyN Try.f77
abbrev q1 (K : KT) : QT := finK PP Try.f77.results.toList K
def e (K : KT) (x0 x1 x2 : IV) (h : Heap) : Prop :=
 oV (.bool false) h fun v1 =>
 oV x1 h fun v2 =>
 oV x0 h fun v3 =>
 oD (Z7 PP .leq Z0 v2 v3) h fun v4 =>
 oV v4 h fun v5 =>
 oG (gW v5 true) (some x0) h fun v6 =>
 oG (gW v5 true) (some x2) h fun v7 =>
 oG (gW v5 true) (Z7 PP .leq Z0 v6 v7) h fun v8 =>
 oP sT (Ze v5 v8 (.bool false) h) h fun v9 =>
 oV v9 h fun v10 =>
 Zd PP [.v v10] h K
theorem u0 (p : e K (a 0) (a 1) (a 2) h) : I c0 (q1 K) a h := ICx.to p
theorem call {x0 x1 x2 : IV} (p : e K x0 x1 x2 h) : Z5 PP Z34 [x0, x1, x2] h K :=
  ICx.fn Try.mixed Try.func77 rfl (Nat.le_of_ble_eq_true rfl) (u0 (a := actI [x0, x1, x2]) p)
end Z47
namespace Z4I
def D : Nat → DI
  | _ => ⟨[], [], []⟩
abbrev I := ICx PP 31 D
def c0 : Code := bodyN Try.f78
abbrev q1 (K : KT) : QT := finK PP Try.f78.results.toList K
def e (K : KT) (x0 x1 x2 x3 x4 : IV) (h : Heap) : Prop :=
 oA (Zi Z8 x0 h) h fun v1 h1 =>
 oV (.bool false) h1 fun v2 =>
 oD (Z2 PP Z8 v1 0) h1 fun v3 =>
 oD (Z1 PP Z0 v3 h1) h1 fun v4 =>
 Z5 PP Z18 [v4, .int .i64 1, .int .i64 16] h1 fun v5 h2 =>
 oV v5 h2 fun v6 =>
 oG (gW v6 true) (Z2 PP Z8 v1 1) h2 fun v7 =>
 oG (gW v6 true) (Z1 PP Z0 v7 h2) h2 fun v8 =>
 Zm PP (gW v6 true) Z18 [v8, .int .i64 0, .int .i64 1073741824] h2 fun v9 h3 =>
 oP sT (Ze v6 v9 (.bool false) h3) h3 fun v10 =>
 oV v10 h3 fun v11 =>
 oG (gW v11 true) (Z1 PP Z8 v1 h3) h3 fun v12 =>
 oG (gW v11 true) (some x1) h3 fun v13 =>
 oG (gW v11 true) (some x2) h3 fun v14 =>
 oG (gW v11 true) (some x3) h3 fun v15 =>
 Zm PP (gW v11 true) Z3T [v12, v13, v14, v15] h3 fun v16 h4 =>
 oP sT (Ze v11 v16 (.bool false) h4) h4 fun v17 =>
 oV v17 h4 fun v18 =>
 oG (gW v18 true) (Z1 PP Z8 v1 h4) h4 fun v19 =>
 oG (gW v18 true) (some x4) h4 fun v20 =>
 Zm PP (gW v18 true) Z3U [v19, v20] h4 fun v21 h5 =>
 oP sT (Ze v18 v21 (.bool false) h5) h5 fun v22 =>
 oV v22 h5 fun v23 =>
 Zd PP [.v v23] h5 K
theorem u0 (p : e K (a 0) (a 1) (a 2) (a 3) (a 4) h) : I c0 (q1 K) a h := ICx.to p
theorem call {x0 x1 x2 x3 x4 : IV} (p : e K x0 x1 x2 x3 x4 h) : Z5 PP Z3P [x0, x1, x2, x3, x4] h K :=
  ICx.fn Try.mixed Try.func78 rfl (Nat.le_of_ble_eq_true rfl) (u0 (a := actI [x0, x1, x2, x3, x4]) p)
end Z4I
namespace Z4J
def D : Nat → DI
  | 1 => ⟨[0, 1, 0, 0, 12, 31, 63], [0, 1, 2, 3, 4, 5, 6], []⟩
  | _ => ⟨[], [], []⟩
abbrev I := ICx PP 13 D
def c0 : Code := bodyN Try.f79
abbrev q1 (K : KT) : QT := finK PP Try.f79.results.toList K
def e (K : KT) (x0 x1 x2 : IV) (h : Heap) : Prop :=
 oA (Zi Z6 x0 h) h fun v1 h1 =>
 oA (Zi Z3 x1 h1) h1 fun v2 h2 =>
 oV (.bool false) h2 fun v3 =>
 oD (Z2 PP Z3 v2 5) h2 fun v4 =>
 oD (Z1 PP Z0 v4 h2) h2 fun v5 =>
 oD (Z1 PP Z6 v1 h2) h2 fun v6 =>
 oV x2 h2 fun v7 =>
 Z5 PP Z1l [v6, v7] h2 fun v8 h3 => oB ((Zb (Z1 PP Z0 v4 h3) v5 h3) ∧ True) <|
 Z5 PP Z1S [v5, v8] h3 fun v9 h4 => oB (True) <|
 oV v9 h4 fun v10 =>
 Zd PP [.v v10] h4 K
theorem u0 (p : e K (a 0) (a 1) (a 2) h) : I c0 (q1 K) a h := ICx.to p
theorem call {x0 x1 x2 : IV} (p : e K x0 x1 x2 h) : Z5 PP Z2i [x0, x1, x2] h K :=
  ICx.fn Try.mixed Try.func79 rfl (Nat.le_of_ble_eq_true rfl) (u0 (a := actI [x0, x1, x2]) p)
end Z4J
namespace Z4K
def D : Nat → DI
  | 1 => ⟨[0, 1, 3, 7, 7, 23, 55, 127, 255, 511, 1023, 2047, 1023, 8191, 16383, 32767, 1023, 1023, 197631, 524287, 1048575, 2097151], [0, 1, 2, 3, 4, 5, 6, 7, 8, 9, 10, 11, 12, 13, 14, 15, 16, 17, 18, 19, 20, 21], []⟩
  | _ => ⟨[], [], []⟩
abbrev I := ICx PP 28 D
def c0 : Code := bodyN Try.f80
abbrev q1 (K : KT) : QT := finK PP Try.f80.results.toList K
def e (K : KT) (x0 x1 x2 : IV) (h : Heap) : Prop :=
 oA (Zi Z6 x0 h) h fun v1 h1 =>
 oV (.bool false) h1 fun v2 =>
 oV x1 h1 fun v3 =>
 oD (Z7 PP .geq Z0 v3 (.int .i64 0)) h1 fun v4 =>
 oV v4 h1 fun v5 =>
 oG (gW v5 true) (some x1) h1 fun v6 =>
 oG (gW v5 true) (Z2 PP Z6 v1 3) h1 fun v7 =>
 oG (gW v5 true) (Z1 PP Zw v7 h1) h1 fun v8 =>
 oG (gW v5 true) (lenI PP Zw v8) h1 fun v9 =>
 oG (gW v5 true) (Z7 PP .lss Z0 v6 v9) h1 fun v10 =>
 oP sT (Ze v5 v10 (.bool false) h1) h1 fun v11 =>
 oV v11 h1 fun v12 =>
 oG (gW v12 true) (Z2 PP Z6 v1 3) h1 fun v13 =>
 oG (gW v12 true) (Z1 PP Zw v13 h1) h1 fun v14 =>
 oG (gW v12 true) (some x1) h1 fun v15 =>
 oG (gW v12 true) (Zf PP Zw v14 v15 h1) h1 fun v16 =>
 oG (gW v12 true) (Z2 PP Zs v16 4) h1 fun v17 =>
 oG (gW v12 true) (Z1 PP Z0 v17 h1) h1 fun v18 =>
 oG (gW v12 true) (Z1 PP Z6 v1 h1) h1 fun v19 =>
 oG (gW v12 true) (some x2) h1 fun v20 =>
 Zm PP (gW v12 true) Z1l [v19, v20] h1 fun v21 h2 => oB ((ZS (gW v12 true) (Z1 PP Z0 v17 h2) v18 h2) ∧ (ZS (gW v12 true) (Zf PP Zw v14 v15 h2) v16 h2) ∧ (ZS (gW v12 true) (Z1 PP Zw v13 h2) v14 h2) ∧ True) <|
 Zm PP (gW v12 true) Z1S [v18, v21] h2 fun v22 h3 => oB (True) <|
 oP sT (Ze v12 v22 (.bool false) h3) h3 fun v23 =>
 oV v23 h3 fun v24 =>
 Zd PP [.v v24] h3 K
theorem u0 (p : e K (a 0) (a 1) (a 2) h) : I c0 (q1 K) a h := ICx.to p
theorem call {x0 x1 x2 : IV} (p : e K x0 x1 x2 h) : Z5 PP Z1T [x0, x1, x2] h K :=
  ICx.fn Try.mixed Try.func80 rfl (Nat.le_of_ble_eq_true rfl) (u0 (a := actI [x0, x1, x2]) p)
end Z4K
namespace Z4L
def D : Nat → DI
  | _ => ⟨[], [], []⟩
abbrev I := ICx PP 20 D
def c0 : Code := bodyN Try.f81
abbrev q1 (K : KT) : QT := finK PP Try.f81.results.toList K
def e (K : KT) (x0 x1 x2 : IV) (h : Heap) : Prop :=
 oA (Zi Z6 x0 h) h fun v1 h1 =>
 oV (.bool false) h1 fun v2 =>
 oV x1 h1 fun v3 =>
 oD (Z7 PP .geq Z0 v3 (.int .i64 0)) h1 fun v4 =>
 oV v4 h1 fun v5 =>
 oG (gW v5 true) (some x2) h1 fun v6 =>
 oG (gW v5 true) (Z7 PP .geq Z0 v6 (.int .i64 0)) h1 fun v7 =>
 oP sT (Ze v5 v7 (.bool false) h1) h1 fun v8 =>
 oV v8 h1 fun v9 =>
 oG (gW v9 true) (Z1 PP Z6 v1 h1) h1 fun v10 =>
 oG (gW v9 true) (some x1) h1 fun v11 =>
 oG (gW v9 true) (some x2) h1 fun v12 =>
 Zm PP (gW v9 true) Z35 [v10, v11, v12] h1 fun v13 h2 =>
 oG (gW v9 true) (unI .not v13) h2 fun v14 =>
 oP sT (Ze v9 v14 (.bool false) h2) h2 fun v15 =>
 oV v15 h2 fun v16 =>
 Zd PP [.v v16] h2 K
theorem u0 (p : e K (a 0) (a 1) (a 2) h) : I c0 (q1 K) a h := ICx.to p
theorem call {x0 x1 x2 : IV} (p : e K x0 x1 x2 h) : Z5 PP Z26 [x0, x1, x2] h K :=
  ICx.fn Try.mixed Try.func81 rfl (Nat.le_of_ble_eq_true rfl) (u0 (a := actI [x0, x1, x2]) p)
end Z4L
namespace Z3a
def D : Nat → DI
  | _ => ⟨[], [], []⟩
abbrev I := ICx PP 13 D
def c0 : Code := bodyN Try.f82
def c1 : Code := cR c0
def c2 : Code := cR c1
def c3 : Code := cL c1
def c4 : Code := cL c0
abbrev q1 (K : KT) : QT := finK PP Try.f82.results.toList K
def j2 (K : KT) (x3 x4 : IV) (h : Heap) : Prop :=
 oD (Z1 PP Z3 x3 h) h fun v1 =>
 oS (Z9 PP Z3 x4 v1 h) h fun h1 =>
 oV (.int .i64 0) h1 fun v2 =>
 Zd PP [.c x4 Z3, .v v2] h1 K
abbrev q2 (j2 : G2) (K : KT) : QT := Z4 (fun a h => j2 K (a 3) (a 4) h) (q1 K)
def j1g (j2 : G2) (K : KT) (x2 x3 x4 : IV) (h : Heap) : Prop :=
 oD (Z1 PP Z6 x2 h) h fun v1 =>
 oD (Z1 PP Z3 x3 h) h fun v2 =>
 Z5 PP Z2u [v1, v2] h fun v3 h1 =>
 oD (lenI PP Zk v3) h1 fun v4 =>
 oD (Z7 PP .gtr Z0 v4 (.int .i64 0)) h1 fun v5 =>
 bK' v5
   (oD (Zo PP Z3 []) h1 fun v6 =>
   oS (Z9 PP Z3 x4 v6 h1) h1 fun h2 =>
   oV (.int .i64 10) h2 fun v7 =>
   Zd PP [.c x4 Z3, .v v7] h2 K)
   (j2 K x3 x4 h1)
abbrev j1 : G3 := j1g j2
abbrev q3 (j1 : G3) (K : KT) : QT := Z4 (fun a h => j1 K (a 2) (a 3) (a 4) h) (q1 K)
def eg (j1 : G3) (K : KT) (x0 x1 : IV) (h : Heap) : Prop :=
 oA (Zi Z6 x0 h) h fun v1 h1 =>
 oA (Zi Z3 x1 h1) h1 fun v2 h2 =>
 oA (Zp PP Z3 h2) h2 fun v3 h3 =>
 oV (.int .i64 0) h3 fun v4 =>
 j1 K v1 v2 v3 h3
abbrev e : G2 := eg j1
theorem u2 (p : j2 K (a 3) (a 4) h) : I c2 (q1 K) a h := ICx.to p
theorem j1_ok (j2 : G2) : I c3 (q2 j2 K) a h = j1g j2 K (a 2) (a 3) (a 4) h := by kernel_rfl
theorem u3 (p : j1 K (a 2) (a 3) (a 4) h) : I c3 (q2 j2 K) a h := ICx.to p (j1_ok j2)
theorem u1 (p : j1 K (a 2) (a 3) (a 4) h) : I c1 (q1 K) a h := ICx.sq (fun _ _ => u2) (u3 p)
theorem e_ok (j1 : G3) : I c4 (q3 j1 K) a h = eg j1 K (a 0) (a 1) h := by kernel_rfl
theorem u4 (p : e K (a 0) (a 1) h) : I c4 (q3 j1 K) a h := ICx.to p (e_ok j1)
theorem u0 (p : e K (a 0) (a 1) h) : I c0 (q1 K) a h := ICx.sq (fun _ _ => u1) (u4 p)
theorem call {x0 x1 : IV} (p : e K x0 x1 h) : Z5 PP Z1U [x0, x1] h K :=
  ICx.fn Try.mixed Try.func82 rfl (Nat.le_of_ble_eq_true rfl) (u0 (a := actI [x0, x1]) p)
end Z3a
namespace Z11
def D : Nat → DI
  | _ => ⟨[], [], []⟩
abbrev I := ICx PP 134 D
def c0 : Code := bodyN Try.f83
def c1 : Code := cR c0
def c2 : Code := cR c1
def c3 : Code := cR c2
def c4 : Code := cR c3
def c5 : Code := cR c4
def c6 : Code := cL c4
def c7 : Code := cL c6
def c8 : Code := cR c7
def c9 : Code := cL c8
def c10 : Code := cR c8
def c11 : Code := cR c10
def c12 : Code := cL c11
def c13 : Code := cR c11
def c14 : Code := cR c13
def c15 : Code := cL c14
def c16 : Code := cR c14
def c17 : Code := cR c16
def c18 : Code := cL c17
def c19 : Code := cR c17
def c20 : Code := cL c16
def c21 : Code := cL c13
def c22 : Code := cL c10
def c23 : Code := cL c7
def c24 : Code := cL c3
def c25 : Code := cL c2
def c26 : Code := cL c1
def c27 : Code := cL c0
abbrev q1 (K : KT) : QT := finK PP Try.f83.results.toList K
def j17 (K : KT) (h : Heap) : Prop :=
 oV (.int .i64 0) h fun v1 =>
 Zd PP [.v v1] h K
abbrev q2 (j17 : G0) (K : KT) : QT := Z4 (fun a h => j17 K h) (q1 K)
abbrev q3 (j17 : G0) (K : KT) : QT := Zq 0 (q2 j17 K)
def j6g (j17 : G0) (K : KT) (h : Heap) : Prop :=
 oV (.int .i64 6) h fun v1 =>
 Zd PP [.v v1] h K
abbrev j6 : G0 := j6g j17
def j9g (j17 : G0) (K : KT) (h : Heap) : Prop :=
 oV (.int .i64 7) h fun v1 =>
 Zd PP [.v v1] h K
abbrev j9 : G0 := j9g j17
def j12g (j17 : G0) (K : KT) (h : Heap) : Prop :=
 oV (.int .i64 8) h fun v1 =>
 Zd PP [.v v1] h K
abbrev j12 : G0 := j12g j17
def j15g (j17 : G0) (K : KT) (h : Heap) : Prop :=
 oV (.int .i64 9) h fun v1 =>
 Zd PP [.v v1] h K
abbrev j15 : G0 := j15g j17
def j16g (j17 : G0) (K : KT) (x5 x7 x9 : IV) (h : Heap) : Prop :=
 oV x9 h fun v1 =>
 oD (unI .not v1) h fun v2 =>
 oV v2 h fun v3 =>
 oG (gW v3 true) (Z2 PP Za x7 7) h fun v4 =>
 oG (gW v3 true) (Z2 PP Zu v4 4) h fun v5 =>
 oG (gW v3 true) (Z1 PP Z0 v5 h) h fun v6 =>
 oG (gW v3 true) (Z2 PP Z8 x5 1) h fun v7 =>
 oG (gW v3 true) (Z1 PP Z0 v7 h) h fun v8 =>
 oG (gW v3 true) (Z7 PP .gtr Z0 v6 v8) h fun v9 =>
 oP sT (Ze v3 v9 (.bool false) h) h fun v10 =>
 oV v10 h fun v11 =>
 bK' v11
   (oV (.int .i64 9) h fun v12 =>
   Zd PP [.v v12] h K)
   (j17 K h)
abbrev j16 : G3 := j16g j17
def j14 (K : KT) (x5 x7 x9 x82 : IV) (h : Heap) : Prop := bK' x82 (j15 K h) (j16 K x5 x7 x9 h)
abbrev q4 (j14 : G4) (j17 : G0) (K : KT) : QT := Z4 (fun a h => j14 K (a 5) (a 7) (a 9) (a 82) h) (q3 j17 K)
def j13g (j14 : G4) (j17 : G0) (K : KT) (x3 x5 x7 x9 : IV) (h : Heap) : Prop :=
 oD (Z2 PP Z8 x5 6) h fun v1 =>
 oD (Z1 PP Z0 v1 h) h fun v2 =>
 oD (Z2 PP Z8 x5 1) h fun v3 =>
 oD (Z1 PP Z0 v3 h) h fun v4 =>
 oD (Z7 PP .lss Z0 v2 v4) h fun v5 =>
 oV v5 h fun v6 =>
 oG (gW v6 false) (Z2 PP Z8 x5 6) h fun v7 =>
 oG (gW v6 false) (Z1 PP Z0 v7 h) h fun v8 =>
 oG (gW v6 false) (Z2 PP Z8 x5 1) h fun v9 =>
 oG (gW v6 false) (Z1 PP Z0 v9 h) h fun v10 =>
 oG (gW v6 false) (Z2 PP Z6 x3 8) h fun v11 =>
 oG (gW v6 false) (Z1 PP Z0 v11 h) h fun v12 =>
 oG (gW v6 false) (Z7 PP .add Z0 v10 v12) h fun v13 =>
 oG (gW v6 false) (Z7 PP .gtr Z0 v8 v13) h fun v14 =>
 oP sT (Ze v6 (.bool true) v14 h) h fun v15 =>
 oV v15 h fun v16 =>
 oG (gW v16 false) (Z2 PP Z8 x5 7) h fun v17 =>
 oG (gW v16 false) (Z1 PP Z0 v17 h) h fun v18 =>
 oG (gW v16 false) (Z2 PP Z8 x5 6) h fun v19 =>
 oG (gW v16 false) (Z1 PP Z0 v19 h) h fun v20 =>
 oG (gW v16 false) (Z7 PP .leq Z0 v18 v20) h fun v21 =>
 oP sT (Ze v16 (.bool true) v21 h) h fun v22 =>
 oV v22 h fun v23 =>
 oG (gW v23 false) (Z2 PP Z8 x5 7) h fun v24 =>
 oG (gW v23 false) (Z1 PP Z0 v24 h) h fun v25 =>
 oG (gW v23 false) (Z2 PP Z8 x5 6) h fun v26 =>
 oG (gW v23 false) (Z1 PP Z0 v26 h) h fun v27 =>
 oG (gW v23 false) (Z7 PP .sub Z0 v25 v27) h fun v28 =>
 oG (gW v23 false) (Z2 PP Z6 x3 8) h fun v29 =>
 oG (gW v23 false) (Z1 PP Z0 v29 h) h fun v30 =>
 oG (gW v23 false) (Z7 PP .gtr Z0 v28 v30) h fun v31 =>
 oP sT (Ze v23 (.bool true) v31 h) h fun v32 =>
 oV v32 h fun v33 =>
 oG (gW v33 false) (Z2 PP Z8 x5 6) h fun v34 =>
 oG (gW v33 false) (Z1 PP Z0 v34 h) h fun v35 =>
 oG (gW v33 false) (Z2 PP Za x7 7) h fun v36 =>
 oG (gW v33 false) (Z2 PP Zu v36 4) h fun v37 =>
 oG (gW v33 false) (Z1 PP Z0 v37 h) h fun v38 =>
 oG (gW v33 false) (Z7 PP .lss Z0 v35 v38) h fun v39 =>
 oP sT (Ze v33 (.bool true) v39 h) h fun v40 =>
 oV v40 h fun v41 =>
 j14 K x5 x7 x9 v41 h
abbrev j13 : G4 := j13g j14 j17
def j11 (K : KT) (x3 x5 x7 x9 x69 : IV) (h : Heap) : Prop := bK' x69 (j12 K h) (j13 K x3 x5 x7 x9 h)
abbrev q5 (j11 : G5) (j17 : G0) (K : KT) : QT := Z4 (fun a h => j11 K (a 3) (a 5) (a 7) (a 9) (a 69) h) (q3 j17 K)
def j10g (j11 : G5) (j17 : G0) (K : KT) (x3 x5 x7 x8 x9 : IV) (h : Heap) : Prop :=
 oD (Z2 PP Z8 x5 8) h fun v1 =>
 oD (Z1 PP Z0 v1 h) h fun v2 =>
 oD (Z2 PP Zj x8 1) h fun v3 =>
 oD (Z1 PP Z0 v3 h) h fun v4 =>
 oD (Z7 PP .neq Z0 v2 v4) h fun v5 =>
 oV v5 h fun v6 =>
 oG (gW v6 false) (Z2 PP Zj x8 1) h fun v7 =>
 oG (gW v6 false) (Z1 PP Z0 v7 h) h fun v8 =>
 oG (gW v6 false) (Z2 PP Zj x8 2) h fun v9 =>
 oG (gW v6 false) (Z1 PP Z0 v9 h) h fun v10 =>
 oG (gW v6 false) (Z7 PP .neq Z0 v8 v10) h fun v11 =>
 oP sT (Ze v6 (.bool true) v11 h) h fun v12 =>
 oV v12 h fun v13 =>
 j11 K x3 x5 x7 x9 v13 h
abbrev j10 : G5 := j10g j11 j17
def j8 (K : KT) (x3 x5 x7 x8 x9 x40 : IV) (h : Heap) : Prop := bK' x40 (j9 K h) (j10 K x3 x5 x7 x8 x9 h)
abbrev q6 (j8 : G6) (j17 : G0) (K : KT) : QT := Z4 (fun a h => j8 K (a 3) (a 5) (a 7) (a 8) (a 9) (a 40) h) (q3 j17 K)
def j7g (j8 : G6) (j17 : G0) (K : KT) (x3 x5 x7 x8 x9 : IV) (h : Heap) : Prop :=
 oV x9 h fun v1 =>
 oV v1 h fun v2 =>
 oG (gW v2 true) (Z2 PP Z8 x5 5) h fun v3 =>
 oG (gW v2 true) (Z1 PP Z0 v3 h) h fun v4 =>
 oG (gW v2 true) (Z2 PP Za x7 6) h fun v5 =>
 oG (gW v2 true) (Z1 PP Z0 v5 h) h fun v6 =>
 oG (gW v2 true) (Z7 PP .neq Z0 v4 v6) h fun v7 =>
 oP sT (Ze v2 v7 (.bool false) h) h fun v8 =>
 oV v8 h fun v9 =>
 oG (gW v9 true) (Z2 PP Z8 x5 5) h fun v10 =>
 oG (gW v9 true) (Z1 PP Z0 v10 h) h fun v11 =>
 oG (gW v9 true) (Z2 PP Za x7 6) h fun v12 =>
 oG (gW v9 true) (Z1 PP Z0 v12 h) h fun v13 =>
 oG (gW v9 true) (Z7 PP .add Z0 v13 (.int .i64 1)) h fun v14 =>
 oG (gW v9 true) (Z7 PP .neq Z0 v11 v14) h fun v15 =>
 oP sT (Ze v9 v15 (.bool false) h) h fun v16 =>
 oV v16 h fun v17 =>
 oG (gW v17 false) (some x9) h fun v18 =>
 oG (gW v17 false) (unI .not v18) h fun v19 =>
 oG (gW v17 false) (some v19) h fun v20 =>
 oG (gW v20 true) (Z2 PP Z8 x5 5) h fun v21 =>
 oG (gW v20 true) (Z1 PP Z0 v21 h) h fun v22 =>
 oG (gW v20 true) (Z2 PP Za x7 6) h fun v23 =>
 oG (gW v20 true) (Z1 PP Z0 v23 h) h fun v24 =>
 oG (gW v20 true) (Z7 PP .add Z0 v24 (.int .i64 1)) h fun v25 =>
 oG (gW v20 true) (Z7 PP .neq Z0 v22 v25) h fun v26 =>
 oP (gW v17 false) (Ze v20 v26 (.bool false) h) h fun v27 =>
 oP sT (Ze v17 (.bool true) v27 h) h fun v28 =>
 oV v28 h fun v29 =>
 j8 K x3 x5 x7 x8 x9 v29 h
abbrev j7 : G5 := j7g j8 j17
def j5 (K : KT) (x3 x5 x7 x8 x9 x27 : IV) (h : Heap) : Prop := bK' x27 (j6 K h) (j7 K x3 x5 x7 x8 x9 h)
abbrev q7 (j5 : G6) (j17 : G0) (K : KT) : QT := Z4 (fun a h => j5 K (a 3) (a 5) (a 7) (a 8) (a 9) (a 27) h) (q3 j17 K)
def j4g (j5 : G6) (j17 : G0) (K : KT) (x3 x5 x7 x8 x9 : IV) (h : Heap) : Prop :=
 oD (Z2 PP Zj x8 0) h fun v1 =>
 oD (Z1 PP Z0 v1 h) h fun v2 =>
 oD (Z7 PP .eql Z0 v2 (.int .i64 3)) h fun v3 =>
 oV v3 h fun v4 =>
 oG (gW v4 false) (Z2 PP Zj x8 0) h fun v5 =>
 oG (gW v4 false) (Z1 PP Z0 v5 h) h fun v6 =>
 oG (gW v4 false) (Z7 PP .eql Z0 v6 (.int .i64 2)) h fun v7 =>
 oG (gW v4 false) (some v7) h fun v8 =>
 oG (gW v8 true) (some x9) h fun v9 =>
 oG (gW v8 true) (unI .not v9) h fun v10 =>
 oP (gW v4 false) (Ze v8 v10 (.bool false) h) h fun v11 =>
 oP sT (Ze v4 (.bool true) v11 h) h fun v12 =>
 oV v12 h fun v13 =>
 j5 K x3 x5 x7 x8 x9 v13 h
abbrev j4 : G5 := j4g j5 j17
abbrev q8 (j4 : G5) (K : KT) : QT := Z4 (fun a h => j4 K (a 3) (a 5) (a 7) (a 8) (a 9) h) (q1 K)
def j3g (j4 : G5) (K : KT) (x3 x5 x7 x8 : IV) (h : Heap) : Prop :=
 oD (Z2 PP Z8 x5 3) h fun v1 =>
 oD (Z1 PP Z0 v1 h) h fun v2 =>
 oD (Z2 PP Za x7 2) h fun v3 =>
 oD (Z1 PP Z0 v3 h) h fun v4 =>
 oD (Z7 PP .eql Z0 v2 v4) h fun v5 =>
 oV v5 h fun v6 =>
 j4 K x3 x5 x7 x8 v6 h
abbrev j3 : G4 := j3g j4
abbrev q9 (j3 : G4) (K : KT) : QT := Z4 (fun a h => j3 K (a 3) (a 5) (a 7) (a 8) h) (q1 K)
def j2g (j3 : G4) (K : KT) (x3 x4 x5 x7 : IV) (h : Heap) : Prop :=
 oD (Z2 PP Z3 x4 3) h fun v1 =>
 oD (Z1 PP Zl v1 h) h fun v2 =>
 oD (Z2 PP Z8 x5 3) h fun v3 =>
 oD (Z1 PP Z0 v3 h) h fun v4 =>
 oD (Zf PP Zl v2 v4 h) h fun v5 =>
 oD (Z1 PP Zj v5 h) h fun v6 =>
 oA (Zp PP Zj h) h fun v7 h1 =>
 oS (Z9 PP Zj v7 v6 h1) h1 fun h2 =>
 j3 K x3 x5 x7 v7 h2
abbrev j2 : G4 := j2g j3
abbrev q10 (j2 : G4) (K : KT) : QT := Z4 (fun a h => j2 K (a 3) (a 4) (a 5) (a 7) h) (q1 K)
def j1g (j2 : G4) (K : KT) (x3 x4 x5 : IV) (h : Heap) : Prop :=
 oD (Z2 PP Z3 x4 2) h fun v1 =>
 oD (Z1 PP Zh v1 h) h fun v2 =>
 oD (Z2 PP Z8 x5 2) h fun v3 =>
 oD (Z1 PP Z0 v3 h) h fun v4 =>
 oD (Zf PP Zh v2 v4 h) h fun v5 =>
 oD (Z1 PP Za v5 h) h fun v6 =>
 oA (Zp PP Za h) h fun v7 h1 =>
 oS (Z9 PP Za v7 v6 h1) h1 fun h2 =>
 j2 K x3 x4 x5 v7 h2
abbrev j1 : G3 := j1g j2
abbrev q11 (j1 : G3) (K : KT) : QT := Z4 (fun a h => j1 K (a 3) (a 4) (a 5) h) (q1 K)
def eg (j1 : G3) (K : KT) (x0 x1 x2 : IV) (h : Heap) : Prop :=
 oA (Zi Z6 x0 h) h fun v1 h1 =>
 oA (Zi Z3 x1 h1) h1 fun v2 h2 =>
 oA (Zi Z8 x2 h2) h2 fun v3 h3 =>
 oV (.int .i64 0) h3 fun v4 =>
 j1 K v1 v2 v3 h3
abbrev e : G3 := eg j1
theorem u5 (p : j17 K h) : I c5 (q1 K) a h := ICx.to p
theorem j6_ok (j17 : G0) : I c9 (q3 j17 K) a h = j6g j17 K h := by kernel_rfl
theorem u9 (p : j6 K h) : I c9 (q3 j17 K) a h := ICx.to p (j6_ok j17)
theorem j9_ok (j17 : G0) : I c12 (q3 j17 K) a h = j9g j17 K h := by kernel_rfl
theorem u12 (p : j9 K h) : I c12 (q3 j17 K) a h := ICx.to p (j9_ok j17)
theorem j12_ok (j17 : G0) : I c15 (q3 j17 K) a h = j12g j17 K h := by kernel_rfl
theorem u15 (p : j12 K h) : I c15 (q3 j17 K) a h := ICx.to p (j12_ok j17)
theorem j15_ok (j17 : G0) : I c18 (q3 j17 K) a h = j15g j17 K h := by kernel_rfl
theorem u18 (p : j15 K h) : I c18 (q3 j17 K) a h := ICx.to p (j15_ok j17)
theorem j16_ok (j17 : G0) : I c19 (q3 j17 K) a h = j16g j17 K (a 5) (a 7) (a 9) h := by kernel_rfl
theorem u19 (p : j16 K (a 5) (a 7) (a 9) h) : I c19 (q3 j17 K) a h := ICx.to p (j16_ok j17)
theorem u17 (p : j14 K (a 5) (a 7) (a 9) (a 82) h) : I c17 (q3 j17 K) a h := ICx.cnd (o := (Go.Operand.tmp 82)) u18 u19 p
theorem j13_ok (j14 : G4) (j17 : G0) : I c20 (q4 j14 j17 K) a h = j13g j14 j17 K (a 3) (a 5) (a 7) (a 9) h := by kernel_rfl
theorem u20 (p : j13 K (a 3) (a 5) (a 7) (a 9) h) : I c20 (q4 j14 j17 K) a h := ICx.to p (j13_ok j14 j17)
theorem u16 (p : j13 K (a 3) (a 5) (a 7) (a 9) h) : I c16 (q3 j17 K) a h := ICx.sq (fun _ _ => u17) (u20 p)
theorem u14 (p : j11 K (a 3) (a 5) (a 7) (a 9) (a 69) h) : I c14 (q3 j17 K) a h := ICx.cnd (o := (Go.Operand.tmp 69)) u15 u16 p
theorem j10_ok (j11 : G5) (j17 : G0) : I c21 (q5 j11 j17 K) a h = j10g j11 j17 K (a 3) (a 5) (a 7) (a 8) (a 9) h := by kernel_rfl
theorem u21 (p : j10 K (a 3) (a 5) (a 7) (a 8) (a 9) h) : I c21 (q5 j11 j17 K) a h := ICx.to p (j10_ok j11 j17)
theorem u13 (p : j10 K (a 3) (a 5) (a 7) (a 8) (a 9) h) : I c13 (q3 j17 K) a h := ICx.sq (fun _ _ => u14) (u21 p)
theorem u11 (p : j8 K (a 3) (a 5) (a 7) (a 8) (a 9) (a 40) h) : I c11 (q3 j17 K) a h := ICx.cnd (o := (Go.Operand.tmp 40)) u12 u13 p
theorem j7_ok (j8 : G6) (j17 : G0) : I c22 (q6 j8 j17 K) a h = j7g j8 j17 K (a 3) (a 5) (a 7) (a 8) (a 9) h := by kernel_rfl
theorem u22 (p : j7 K (a 3) (a 5) (a 7) (a 8) (a 9) h) : I c22 (q6 j8 j17 K) a h := ICx.to p (j7_ok j8 j17)
theorem u10 (p : j7 K (a 3) (a 5) (a 7) (a 8) (a 9) h) : I c10 (q3 j17 K) a h := ICx.sq (fun _ _ => u11) (u22 p)
theorem u8 (p : j5 K (a 3) (a 5) (a 7) (a 8) (a 9) (a 27) h) : I c8 (q3 j17 K) a h := ICx.cnd (o := (Go.Operand.tmp 27)) u9 u10 p
theorem j4_ok (j5 : G6) (j17 : G0) : I c23 (q7 j5 j17 K) a h = j4g j5 j17 K (a 3) (a 5) (a 7) (a 8) (a 9) h := by kernel_rfl
theorem u23 (p : j4 K (a 3) (a 5) (a 7) (a 8) (a 9) h) : I c23 (q7 j5 j17 K) a h := ICx.to p (j4_ok j5 j17)
theorem u7 (p : j4 K (a 3) (a 5) (a 7) (a 8) (a 9) h) : I c7 (q3 j17 K) a h := ICx.sq (fun _ _ => u8) (u23 p)
theorem u6 (p : j4 K (a 3) (a 5) (a 7) (a 8) (a 9) h) : I c6 (q2 j17 K) a h := ICx.blk (u7 p)
theorem u4 (p : j4 K (a 3) (a 5) (a 7) (a 8) (a 9) h) : I c4 (q1 K) a h := ICx.sq (fun _ _ => u5) (u6 p)
theorem j3_ok (j4 : G5) : I c24 (q8 j4 K) a h = j3g j4 K (a 3) (a 5) (a 7) (a 8) h := by kernel_rfl
theorem u24 (p : j3 K (a 3) (a 5) (a 7) (a 8) h) : I c24 (q8 j4 K) a h := ICx.to p (j3_ok j4)
theorem u3 (p : j3 K (a 3) (a 5) (a 7) (a 8) h) : I c3 (q1 K) a h := ICx.sq (fun _ _ => u4) (u24 p)
theorem j2_ok (j3 : G4) : I c25 (q9 j3 K) a h = j2g j3 K (a 3) (a 4) (a 5) (a 7) h := by kernel_rfl
theorem u25 (p : j2 K (a 3) (a 4) (a 5) (a 7) h) : I c25 (q9 j3 K) a h := ICx.to p (j2_ok j3)
theorem u2 (p : j2 K (a 3) (a 4) (a 5) (a 7) h) : I c2 (q1 K) a h := ICx.sq (fun _ _ => u3) (u25 p)
theorem j1_ok (j2 : G4) : I c26 (q10 j2 K) a h = j1g j2 K (a 3) (a 4) (a 5) h := by kernel_rfl
theorem u26 (p : j1 K (a 3) (a 4) (a 5) h) : I c26 (q10 j2 K) a h := ICx.to p (j1_ok j2)
theorem u1 (p : j1 K (a 3) (a 4) (a 5) h) : I c1 (q1 K) a h := ICx.sq (fun _ _ => u2) (u26 p)
theorem e_ok (j1 : G3) : I c27 (q11 j1 K) a h = eg j1 K (a 0) (a 1) (a 2) h := by kernel_rfl
theorem u27 (p : e K (a 0) (a 1) (a 2) h) : I c27 (q11 j1 K) a h := ICx.to p (e_ok j1)
theorem u0 (p : e K (a 0) (a 1) (a 2) h) : I c0 (q1 K) a h := ICx.sq (fun _ _ => u1) (u27 p)
theorem call {x0 x1 x2 : IV} (p : e K x0 x1 x2 h) : Z5 PP Z3Q [x0, x1, x2] h K :=
  ICx.fn Try.mixed Try.func83 rfl (Nat.le_of_ble_eq_true rfl) (u0 (a := actI [x0, x1, x2]) p)
end Z11
namespace Z4M
def D : Nat → DI
  | _ => ⟨[], [], []⟩
abbrev I := ICx PP 18 D
def c0 : Code := bodyN Try.f84
abbrev q1 (K : KT) : QT := finK PP Try.f84.results.toList K
def e (K : KT) (x0 x1 : IV) (h : Heap) : Prop :=
 oA (Zi Zu x0 h) h fun v1 h1 =>
 oA (Zp PP Zu h1) h1 fun v2 h2 =>
 oD (Z2 PP Zu v1 4) h2 fun v3 =>
 oD (Z1 PP Z0 v3 h2) h2 fun v4 =>
 oV x1 h2 fun v5 =>
 oD (Z7 PP .add Z0 v5 (.int .i64 1)) h2 fun v6 =>
 oD (mmI false v4 [v6]) h2 fun v7 =>
 oD (Z2 PP Zu v1 4) h2 fun v8 =>
 oS (Z9 PP Z0 v8 v7 h2) h2 fun h3 =>
 oD (Z2 PP Zu v1 3) h3 fun v9 =>
 oD (Z1 PP Z0 v9 h3) h3 fun v10 =>
 oD (Z2 PP Zu v1 4) h3 fun v11 =>
 oD (Z1 PP Z0 v11 h3) h3 fun v12 =>
 oD (mmI false v10 [v12]) h3 fun v13 =>
 oD (Z2 PP Zu v1 3) h3 fun v14 =>
 oS (Z9 PP Z0 v14 v13 h3) h3 fun h4 =>
 oD (Z1 PP Zu v1 h4) h4 fun v15 =>
 oS (Z9 PP Zu v2 v15 h4) h4 fun h5 =>
 Zd PP [.c v2 Zu] h5 K
theorem u0 (p : e K (a 0) (a 1) h) : I c0 (q1 K) a h := ICx.to p
theorem call {x0 x1 : IV} (p : e K x0 x1 h) : Z5 PP Z3R [x0, x1] h K :=
  ICx.fn Try.mixed Try.func84 rfl (Nat.le_of_ble_eq_true rfl) (u0 (a := actI [x0, x1]) p)
end Z4M
end
end Go.Ideal
