/- Part of a proof: functions of the program over an ideal memory, and what they compute. No condition. -/
import Derived.Test.YtcbcdjfbcihgoaaLE4
set_option linter.unusedVariables false
set_option linter.unusedSimpArgs false
namespace Go.Ideal
open Go.Proofs
set_option maxRecDepth 100000
noncomputable section
variable {K : KT} {a : IAct} {h : Heap}
namespace Z4N
def D : Nat → DI
  | 1 => ⟨[0, 0, 2, 0, 14, 30, 62, 127, 255, 511, 1023, 1023, 3071, 1023, 15359, 31743, 64511, 131071, 262143, 524287, 1048575], [0, 1, 2, 3, 4, 5, 6, 7, 8, 9, 10, 11, 12, 13, 14, 15, 16, 17, 18, 19, 20], []⟩
  | _ => ⟨[], [], []⟩
abbrev I := ICx PP 25 D
def c0 : Code := bodyN Try.f85
abbrev q1 (K : KT) : QT := finK PP Try.f85.results.toList K
def e (K : KT) (x0 x1 : IV) (h : Heap) : Prop :=
 oA (Zi Z3 x0 h) h fun v1 h1 =>
 oV (.bool false) h1 fun v2 =>
 oD (Z1 PP Z3 v1 h1) h1 fun v3 =>
 oD (Z2 PP Z3 v1 3) h1 fun v4 =>
 oD (Z1 PP Zl v4 h1) h1 fun v5 =>
 oV x1 h1 fun v6 =>
 oD (Zf PP Zl v5 v6 h1) h1 fun v7 =>
 oD (Z2 PP Zj v7 1) h1 fun v8 =>
 oD (Z1 PP Z0 v8 h1) h1 fun v9 =>
 Z5 PP Z1V [v3, v9] h1 fun v10 h2 => oB (True) <|
 oD (unI .not v10) h2 fun v11 =>
 oV v11 h2 fun v12 =>
 oG (gW v12 false) (Z1 PP Z3 v1 h2) h2 fun v13 =>
 oG (gW v12 false) (Z2 PP Z3 v1 3) h2 fun v14 =>
 oG (gW v12 false) (Z1 PP Zl v14 h2) h2 fun v15 =>
 oG (gW v12 false) (some x1) h2 fun v16 =>
 oG (gW v12 false) (Zf PP Zl v15 v16 h2) h2 fun v17 =>
 oG (gW v12 false) (Z2 PP Zj v17 2) h2 fun v18 =>
 oG (gW v12 false) (Z1 PP Z0 v18 h2) h2 fun v19 =>
 Zm PP (gW v12 false) Z1V [v13, v19] h2 fun v20 h3 => oB (True) <|
 oG (gW v12 false) (unI .not v20) h3 fun v21 =>
 oP sT (Ze v12 (.bool true) v21 h3) h3 fun v22 =>
 oV v22 h3 fun v23 =>
 Zd PP [.v v23] h3 K
theorem u0 (p : e K (a 0) (a 1) h) : I c0 (q1 K) a h := ICx.to p
theorem call {x0 x1 : IV} (p : e K x0 x1 h) : Z5 PP Z3S [x0, x1] h K :=
  ICx.fn Try.mixed Try.func85 rfl (Nat.le_of_ble_eq_true rfl) (u0 (a := actI [x0, x1]) p)
end Z4N
namespace Z4O
def D : Nat → DI
  | _ => ⟨[], [], []⟩
abbrev I := ICx PP 9 D
def c0 : Code := bodyN Try.f86
abbrev q1 (K : KT) : QT := finK PP Try.f86.results.toList K
def e (K : KT) (x0 x1 : IV) (h : Heap) : Prop :=
 oA (Zi Z3 x0 h) h fun v1 h1 =>
 oV (.bool false) h1 fun v2 =>
 oD (Z2 PP Z3 v1 4) h1 fun v3 =>
 oD (Z1 PP Z0 v3 h1) h1 fun v4 =>
 oV x1 h1 fun v5 =>
 Z5 PP Z1S [v4, v5] h1 fun v6 h2 =>
 oV v6 h2 fun v7 =>
 Zd PP [.v v7] h2 K
theorem u0 (p : e K (a 0) (a 1) h) : I c0 (q1 K) a h := ICx.to p
theorem call {x0 x1 : IV} (p : e K x0 x1 h) : Z5 PP Z1V [x0, x1] h K :=
  ICx.fn Try.mixed Try.func86 rfl (Nat.le_of_ble_eq_true rfl) (u0 (a := actI [x0, x1]) p)
end Z4O
namespace Z4P
def D : Nat → DI
  | 1 => ⟨[0, 0, 3, 0, 0, 31, 63, 127], [0, 1, 3, 4, 2, 5, 6, 7], []⟩
  | _ => ⟨[], [], []⟩
abbrev I := ICx PP 26 D
def c0 : Code := bodyN Try.f87
abbrev q1 (K : KT) : QT := finK PP Try.f87.results.toList K
def e (K : KT) (x0 x1 x2 : IV) (h : Heap) : Prop :=
 oA (Zi Z6 x0 h) h fun v1 h1 =>
 oV (.bool false) h1 fun v2 =>
 oD (Z1 PP Z6 v1 h1) h1 fun v3 =>
 oV x1 h1 fun v4 =>
 oD (Z1 PP Z6 v1 h1) h1 fun v5 =>
 oV x2 h1 fun v6 =>
 Z5 PP Z1l [v3, v4] h1 fun v7 h2 => oB ((Zb (Z1 PP Z6 v1 h2) v5 h2) ∧ True) <|
 Z5 PP Z1l [v5, v6] h2 fun v8 h3 => oB (True) <|
 oV v7 h3 fun v9 =>
 oV v8 h3 fun v10 =>
 oV v9 h3 fun v11 =>
 oD (Z7 PP .geq Z0 v11 (.int .i64 0)) h3 fun v12 =>
 oV v12 h3 fun v13 =>
 oG (gW v13 true) (some v10) h3 fun v14 =>
 oG (gW v13 true) (Z7 PP .geq Z0 v14 (.int .i64 0)) h3 fun v15 =>
 oP sT (Ze v13 v15 (.bool false) h3) h3 fun v16 =>
 oV v16 h3 fun v17 =>
 oG (gW v17 true) (some v9) h3 fun v18 =>
 oG (gW v17 true) (some v10) h3 fun v19 =>
 oG (gW v17 true) (Z7 PP .neq Z0 v18 v19) h3 fun v20 =>
 oP sT (Ze v17 v20 (.bool false) h3) h3 fun v21 =>
 oV v21 h3 fun v22 =>
 Zd PP [.v v22] h3 K
theorem u0 (p : e K (a 0) (a 1) (a 2) h) : I c0 (q1 K) a h := ICx.to p
theorem call {x0 x1 x2 : IV} (p : e K x0 x1 x2 h) : Z5 PP Z35 [x0, x1, x2] h K :=
  ICx.fn Try.mixed Try.func87 rfl (Nat.le_of_ble_eq_true rfl) (u0 (a := actI [x0, x1, x2]) p)
end Z4P
namespace Z48
def D : Nat → DI
  | _ => ⟨[], [], []⟩
abbrev I := ICx PP 15 D
def c0 : Code := bodyN Try.f88
abbrev q1 (K : KT) : QT := finK PP Try.f88.results.toList K
def e (K : KT) (x0 x1 x2 : IV) (h : Heap) : Prop :=
 oV (.bool false) h fun v1 =>
 oV x0 h fun v2 =>
 oV x1 h fun v3 =>
 oD (Z7 PP .geq Z0 v2 v3) h fun v4 =>
 oV v4 h fun v5 =>
 oG (gW v5 true) (some x0) h fun v6 =>
 oG (gW v5 true) (some x2) h fun v7 =>
 oG (gW v5 true) (Z7 PP .leq Z0 v6 v7) h fun v8 =>
 oP sT (Ze v5 v8 (.bool false) h) h fun v9 =>
 oV v9 h fun v10 =>
 Zd PP [.v v10] h K
theorem u0 (p : e K (a 0) (a 1) (a 2) h) : I c0 (q1 K) a h := ICx.to p
theorem call {x0 x1 x2 : IV} (p : e K x0 x1 x2 h) : Z5 PP Z18 [x0, x1, x2] h K :=
  ICx.fn Try.mixed Try.func88 rfl (Nat.le_of_ble_eq_true rfl) (u0 (a := actI [x0, x1, x2]) p)
end Z48
namespace Z1j
def D : Nat → DI
  | 2 => ⟨[0, 1, 0, 4, 12, 31, 63, 127, 255, 511, 1023, 2047, 1023, 5119, 16383, 32767, 65535, 131071], [0, 2, 3, 4, 1, 5, 6, 7, 8, 9, 10, 11, 12, 13, 14, 15, 16, 17], []⟩
  | _ => ⟨[], [], []⟩
abbrev I := ICx PP 105 D
def c0 : Code := bodyN Try.f89
def c1 : Code := cR c0
def c2 : Code := cR c1
def c3 : Code := cR c2
def c4 : Code := cR c3
def c5 : Code := cL c3
def c6 : Code := cL c5
def c7 : Code := cR c6
def c8 : Code := cL c7
def c9 : Code := cR c7
def c10 : Code := cR c9
def c11 : Code := cL c9
def c12 : Code := cL c6
def c13 : Code := cL c2
def c14 : Code := cL c1
def c15 : Code := cL c0
abbrev q1 (K : KT) : QT := finK PP Try.f89.results.toList K
def j8 (K : KT) (h : Heap) : Prop :=
 oV (.bool true) h fun v1 =>
 Zd PP [.v v1] h K
abbrev q2 (j8 : G0) (K : KT) : QT := Z4 (fun a h => j8 K h) (q1 K)
abbrev q3 (j8 : G0) (K : KT) : QT := Zq 0 (q2 j8 K)
def j5g (j8 : G0) (K : KT) (h : Heap) : Prop :=
 oV (.bool false) h fun v1 =>
 Zd PP [.v v1] h K
abbrev j5 : G0 := j5g j8
def j7g (j8 : G0) (K : KT) (x64 : IV) (h : Heap) : Prop :=
 bK' x64
   (oV (.bool false) h fun v1 =>
   Zd PP [.v v1] h K)
   (j8 K h)
abbrev j7 : G1 := j7g j8
abbrev q4 (j7 : G1) (j8 : G0) (K : KT) : QT := Z4 (fun a h => j7 K (a 64) h) (q3 j8 K)
def j6g (j7 : G1) (j8 : G0) (K : KT) (x2 x3 x4 x9 : IV) (h : Heap) : Prop :=
 oV x9 h fun v1 =>
 Z5 PP ZW [v1, .int .u8 111] h fun v2 h1 =>
 oV v2 h1 fun v3 =>
 oG (gW v3 true) (Z2 PP Z8 x4 4) h1 fun v4 =>
 oG (gW v3 true) (Z1 PP Z0 v4 h1) h1 fun v5 =>
 oG (gW v3 true) (some x2) h1 fun v6 =>
 oG (gW v3 true) (Z7 PP .sub Z0 v6 (.int .i64 1)) h1 fun v7 =>
 Zm PP (gW v3 true) Z18 [v5, .int .i64 (-1), v7] h1 fun v8 h2 =>
 oG (gW v3 true) (unI .not v8) h2 fun v9 =>
 oG (gW v3 true) (some v9) h2 fun v10 =>
 oG (gW v10 false) (Z2 PP Z8 x4 4) h2 fun v11 =>
 oG (gW v10 false) (Z1 PP Z0 v11 h2) h2 fun v12 =>
 oG (gW v10 false) (Z2 PP Z8 x4 3) h2 fun v13 =>
 oG (gW v10 false) (Z1 PP Z0 v13 h2) h2 fun v14 =>
 oG (gW v10 false) (Z7 PP .eql Z0 v12 v14) h2 fun v15 =>
 oP (gW v3 true) (Ze v10 (.bool true) v15 h2) h2 fun v16 =>
 oP sT (Ze v3 v16 (.bool false) h2) h2 fun v17 =>
 oV v17 h2 fun v18 =>
 bK' v18
   (j7 K v18 h2)
   (oV x9 h2 fun v19 =>
   Z5 PP ZW [v19, .int .u8 114] h2 fun v20 h3 =>
   oV v20 h3 fun v21 =>
   oG (gW v21 true) (Z2 PP Z8 x4 4) h3 fun v22 =>
   oG (gW v21 true) (Z1 PP Z0 v22 h3) h3 fun v23 =>
   oG (gW v21 true) (some x3) h3 fun v24 =>
   oG (gW v21 true) (Z7 PP .sub Z0 v24 (.int .i64 1)) h3 fun v25 =>
   Zm PP (gW v21 true) Z18 [v23, .int .i64 0, v25] h3 fun v26 h4 =>
   oG (gW v21 true) (unI .not v26) h4 fun v27 =>
   oP sT (Ze v21 v27 (.bool false) h4) h4 fun v28 =>
   oV v28 h4 fun v29 =>
   bK' v29
     (j7 K v29 h4)
     (oV x9 h4 fun v30 =>
     Z5 PP ZW [v30, .int .u8 111] h4 fun v31 h5 =>
     oD (unI .not v31) h5 fun v32 =>
     oV v32 h5 fun v33 =>
     oG (gW v33 true) (some x9) h5 fun v34 =>
     Zm PP (gW v33 true) ZW [v34, .int .u8 114] h5 fun v35 h6 =>
     oG (gW v33 true) (unI .not v35) h6 fun v36 =>
     oP sT (Ze v33 v36 (.bool false) h6) h6 fun v37 =>
     oV v37 h6 fun v38 =>
     oG (gW v38 true) (Z2 PP Z8 x4 4) h6 fun v39 =>
     oG (gW v38 true) (Z1 PP Z0 v39 h6) h6 fun v40 =>
     oG (gW v38 true) (Z7 PP .neq Z0 v40 (.int .i64 (-1))) h6 fun v41 =>
     oP sT (Ze v38 v41 (.bool false) h6) h6 fun v42 =>
     oV v42 h6 fun v43 =>
     j7 K v43 h6))
abbrev j6 : G4 := j6g j7 j8
def j4 (K : KT) (x2 x3 x4 x9 x30 : IV) (h : Heap) : Prop := bK' x30 (j5 K h) (j6 K x2 x3 x4 x9 h)
abbrev q5 (j4 : G5) (j8 : G0) (K : KT) : QT := Z4 (fun a h => j4 K (a 2) (a 3) (a 4) (a 9) (a 30) h) (q3 j8 K)
def j3g (j4 : G5) (j8 : G0) (K : KT) (x2 x3 x4 x9 : IV) (h : Heap) : Prop :=
 oV x9 h fun v1 =>
 Z5 PP ZW [v1, .int .u8 99] h fun v2 h1 =>
 oV v2 h1 fun v3 =>
 oG (gW v3 true) (Z2 PP Z8 x4 3) h1 fun v4 =>
 oG (gW v3 true) (Z1 PP Z0 v4 h1) h1 fun v5 =>
 oG (gW v3 true) (some x2) h1 fun v6 =>
 oG (gW v3 true) (Z7 PP .sub Z0 v6 (.int .i64 1)) h1 fun v7 =>
 Zm PP (gW v3 true) Z18 [v5, .int .i64 0, v7] h1 fun v8 h2 =>
 oG (gW v3 true) (unI .not v8) h2 fun v9 =>
 oP sT (Ze v3 v9 (.bool false) h2) h2 fun v10 =>
 oV v10 h2 fun v11 =>
 bK' v11
   (j4 K x2 x3 x4 x9 v11 h2)
   (oV x9 h2 fun v12 =>
   Z5 PP ZW [v12, .int .u8 67] h2 fun v13 h3 =>
   oV v13 h3 fun v14 =>
   oG (gW v14 true) (Z2 PP Z8 x4 3) h3 fun v15 =>
   oG (gW v14 true) (Z1 PP Z0 v15 h3) h3 fun v16 =>
   oG (gW v14 true) (some x2) h3 fun v17 =>
   oG (gW v14 true) (Z7 PP .sub Z0 v17 (.int .i64 1)) h3 fun v18 =>
   Zm PP (gW v14 true) Z18 [v16, .int .i64 (-1), v18] h3 fun v19 h4 =>
   oG (gW v14 true) (unI .not v19) h4 fun v20 =>
   oP sT (Ze v14 v20 (.bool false) h4) h4 fun v21 =>
   oV v21 h4 fun v22 =>
   bK' v22
     (j4 K x2 x3 x4 x9 v22 h4)
     (oV x9 h4 fun v23 =>
     Z5 PP ZW [v23, .int .u8 99] h4 fun v24 h5 =>
     oD (unI .not v24) h5 fun v25 =>
     oV v25 h5 fun v26 =>
     oG (gW v26 true) (some x9) h5 fun v27 =>
     Zm PP (gW v26 true) ZW [v27, .int .u8 67] h5 fun v28 h6 =>
     oG (gW v26 true) (unI .not v28) h6 fun v29 =>
     oP sT (Ze v26 v29 (.bool false) h6) h6 fun v30 =>
     oV v30 h6 fun v31 =>
     oG (gW v31 true) (Z2 PP Z8 x4 3) h6 fun v32 =>
     oG (gW v31 true) (Z1 PP Z0 v32 h6) h6 fun v33 =>
     oG (gW v31 true) (Z7 PP .neq Z0 v33 (.int .i64 (-1))) h6 fun v34 =>
     oP sT (Ze v31 v34 (.bool false) h6) h6 fun v35 =>
     oV v35 h6 fun v36 =>
     j4 K x2 x3 x4 x9 v36 h6))
abbrev j3 : G4 := j3g j4 j8
abbrev q6 (j3 : G4) (K : KT) : QT := Z4 (fun a h => j3 K (a 2) (a 3) (a 4) (a 9) h) (q1 K)
def j2g (j3 : G4) (K : KT) (x1 x2 x3 x4 x9 : IV) (h : Heap) : Prop :=
 oV x9 h fun v1 =>
 oD (Z2 PP Z8 x4 2) h fun v2 =>
 oD (Z1 PP Z0 v2 h) h fun v3 =>
 oD (Z7 PP .neq Z0 v3 (.int .i64 (-1))) h fun v4 =>
 Z5 PP ZW [v1, .int .u8 116] h fun v5 h1 => oB ((Zb (Z1 PP Z0 v2 h1) v3 h1) ∧ True) <|
 oD (Z7 PP .neq Zy v5 v4) h1 fun v6 =>
 oV v6 h1 fun v7 =>
 oG (gW v7 false) (some x9) h1 fun v8 =>
 Zm PP (gW v7 false) ZW [v8, .int .u8 116] h1 fun v9 h2 => oB (True) <|
 oG (gW v7 false) (some v9) h2 fun v10 =>
 oG (gW v10 true) (Z2 PP Z8 x4 2) h2 fun v11 =>
 oG (gW v10 true) (Z1 PP Z0 v11 h2) h2 fun v12 =>
 oG (gW v10 true) (some x1) h2 fun v13 =>
 oG (gW v10 true) (Z7 PP .sub Z0 v13 (.int .i64 1)) h2 fun v14 =>
 Zm PP (gW v10 true) Z18 [v12, .int .i64 0, v14] h2 fun v15 h3 => oB (True) <|
 oG (gW v10 true) (unI .not v15) h3 fun v16 =>
 oP (gW v7 false) (Ze v10 v16 (.bool false) h3) h3 fun v17 =>
 oP sT (Ze v7 (.bool true) v17 h3) h3 fun v18 =>
 bK' v18
   (oV (.bool false) h3 fun v19 =>
   Zd PP [.v v19] h3 K)
   (j3 K x2 x3 x4 x9 h3)
abbrev j2 : G5 := j2g j3
abbrev q7 (j2 : G5) (K : KT) : QT := Z4 (fun a h => j2 K (a 1) (a 2) (a 3) (a 4) (a 9) h) (q1 K)
def j1g (j2 : G5) (K : KT) (x1 x2 x3 x4 : IV) (h : Heap) : Prop :=
 oD (Z2 PP Z8 x4 0) h fun v1 =>
 oD (Z1 PP Z0 v1 h) h fun v2 =>
 oV v2 h fun v3 =>
 j2 K x1 x2 x3 x4 v3 h
abbrev j1 : G4 := j1g j2
abbrev q8 (j1 : G4) (K : KT) : QT := Z4 (fun a h => j1 K (a 1) (a 2) (a 3) (a 4) h) (q1 K)
def eg (j1 : G4) (K : KT) (x0 x1 x2 x3 : IV) (h : Heap) : Prop :=
 oA (Zi Z8 x0 h) h fun v1 h1 =>
 oV (.bool false) h1 fun v2 =>
 j1 K x1 x2 x3 v1 h1
abbrev e : G4 := eg j1
theorem u4 (p : j8 K h) : I c4 (q1 K) a h := ICx.to p
theorem j5_ok (j8 : G0) : I c8 (q3 j8 K) a h = j5g j8 K h := by kernel_rfl
theorem u8 (p : j5 K h) : I c8 (q3 j8 K) a h := ICx.to p (j5_ok j8)
theorem j7_ok (j8 : G0) : I c10 (q3 j8 K) a h = j7g j8 K (a 64) h := by kernel_rfl
theorem u10 (p : j7 K (a 64) h) : I c10 (q3 j8 K) a h := ICx.to p (j7_ok j8)
theorem j6_ok (j7 : G1) (j8 : G0) : I c11 (q4 j7 j8 K) a h = j6g j7 j8 K (a 2) (a 3) (a 4) (a 9) h := by kernel_rfl
theorem u11 (p : j6 K (a 2) (a 3) (a 4) (a 9) h) : I c11 (q4 j7 j8 K) a h := ICx.to p (j6_ok j7 j8)
theorem u9 (p : j6 K (a 2) (a 3) (a 4) (a 9) h) : I c9 (q3 j8 K) a h := ICx.sq (fun _ _ => u10) (u11 p)
theorem u7 (p : j4 K (a 2) (a 3) (a 4) (a 9) (a 30) h) : I c7 (q3 j8 K) a h := ICx.cnd (o := (Go.Operand.tmp 30)) u8 u9 p
theorem j3_ok (j4 : G5) (j8 : G0) : I c12 (q5 j4 j8 K) a h = j3g j4 j8 K (a 2) (a 3) (a 4) (a 9) h := by kernel_rfl
theorem u12 (p : j3 K (a 2) (a 3) (a 4) (a 9) h) : I c12 (q5 j4 j8 K) a h := ICx.to p (j3_ok j4 j8)
theorem u6 (p : j3 K (a 2) (a 3) (a 4) (a 9) h) : I c6 (q3 j8 K) a h := ICx.sq (fun _ _ => u7) (u12 p)
theorem u5 (p : j3 K (a 2) (a 3) (a 4) (a 9) h) : I c5 (q2 j8 K) a h := ICx.blk (u6 p)
theorem u3 (p : j3 K (a 2) (a 3) (a 4) (a 9) h) : I c3 (q1 K) a h := ICx.sq (fun _ _ => u4) (u5 p)
theorem j2_ok (j3 : G4) : I c13 (q6 j3 K) a h = j2g j3 K (a 1) (a 2) (a 3) (a 4) (a 9) h := by kernel_rfl
theorem u13 (p : j2 K (a 1) (a 2) (a 3) (a 4) (a 9) h) : I c13 (q6 j3 K) a h := ICx.to p (j2_ok j3)
theorem u2 (p : j2 K (a 1) (a 2) (a 3) (a 4) (a 9) h) : I c2 (q1 K) a h := ICx.sq (fun _ _ => u3) (u13 p)
theorem j1_ok (j2 : G5) : I c14 (q7 j2 K) a h = j1g j2 K (a 1) (a 2) (a 3) (a 4) h := by kernel_rfl
theorem u14 (p : j1 K (a 1) (a 2) (a 3) (a 4) h) : I c14 (q7 j2 K) a h := ICx.to p (j1_ok j2)
theorem u1 (p : j1 K (a 1) (a 2) (a 3) (a 4) h) : I c1 (q1 K) a h := ICx.sq (fun _ _ => u2) (u14 p)
theorem e_ok (j1 : G4) : I c15 (q8 j1 K) a h = eg j1 K (a 0) (a 1) (a 2) (a 3) h := by kernel_rfl
theorem u15 (p : e K (a 0) (a 1) (a 2) (a 3) h) : I c15 (q8 j1 K) a h := ICx.to p (e_ok j1)
theorem u0 (p : e K (a 0) (a 1) (a 2) (a 3) h) : I c0 (q1 K) a h := ICx.sq (fun _ _ => u1) (u15 p)
theorem call {x0 x1 x2 x3 : IV} (p : e K x0 x1 x2 x3 h) : Z5 PP Z3T [x0, x1, x2, x3] h K :=
  ICx.fn Try.mixed Try.func89 rfl (Nat.le_of_ble_eq_true rfl) (u0 (a := actI [x0, x1, x2, x3]) p)
end Z1j
namespace Z10
def D : Nat → DI
  | _ => ⟨[], [], []⟩
abbrev I := ICx PP 82 D
def c0 : Code := bodyN Try.f90
def c1 : Code := cR c0
def c2 : Code := cR c1
def c3 : Code := cR c2
def c4 : Code := cL c2
def c5 : Code := cL c4
def c6 : Code := cR c5
def c7 : Code := cL c6
def c8 : Code := cR c6
def c9 : Code := cR c8
def c10 : Code := cL c8
def c11 : Code := cL c5
def c12 : Code := cL c1
def c13 : Code := cL c0
abbrev q1 (K : KT) : QT := finK PP Try.f90.results.toList K
def j7 (K : KT) (x2 : IV) (h : Heap) : Prop :=
 oD (Z2 PP Z8 x2 8) h fun v1 =>
 oD (Z1 PP Z0 v1 h) h fun v2 =>
 oD (Z7 PP .eql Z0 v2 (.int .i64 0)) h fun v3 =>
 oV v3 h fun v4 =>
 Zd PP [.v v4] h K
abbrev q2 (j7 : G1) (K : KT) : QT := Z4 (fun a h => j7 K (a 2) h) (q1 K)
abbrev q3 (j7 : G1) (K : KT) : QT := Zq 0 (q2 j7 K)
def j4g (j7 : G1) (K : KT) (h : Heap) : Prop :=
 oV (.bool false) h fun v1 =>
 Zd PP [.v v1] h K
abbrev j4 : G0 := j4g j7
def j6g (j7 : G1) (K : KT) (x1 x2 x5 x25 : IV) (h : Heap) : Prop :=
 bK' x25
   (oV (.bool false) h fun v1 =>
   Zd PP [.v v1] h K)
   (oV x5 h fun v2 =>
   Z5 PP ZW [v2, .int .u8 118] h fun v3 h1 =>
   oV v3 h1 fun v4 =>
   bK' v4
     (oD (Z2 PP Z8 x2 8) h1 fun v5 =>
     oD (Z1 PP Z0 v5 h1) h1 fun v6 =>
     oV x1 h1 fun v7 =>
     oD (Z7 PP .sub Z0 v7 (.int .i64 1)) h1 fun v8 =>
     Z5 PP Z18 [v6, .int .i64 0, v8] h1 fun v9 h2 =>
     oV v9 h2 fun v10 =>
     Zd PP [.v v10] h2 K)
     (oV x5 h1 fun v11 =>
     Z5 PP ZW [v11, .int .u8 98] h1 fun v12 h3 =>
     oV v12 h3 fun v13 =>
     bK' v13
       (oD (Z2 PP Z8 x2 8) h3 fun v14 =>
       oD (Z1 PP Z0 v14 h3) h3 fun v15 =>
       Z5 PP Z18 [v15, .int .i64 0, .int .i64 1] h3 fun v16 h4 =>
       oV v16 h4 fun v17 =>
       Zd PP [.v v17] h4 K)
       (oV x5 h3 fun v18 =>
       Z5 PP ZW [v18, .int .u8 109] h3 fun v19 h5 =>
       oV v19 h5 fun v20 =>
       bK' v20
         (oD (Z2 PP Z8 x2 8) h5 fun v21 =>
         oD (Z1 PP Z0 v21 h5) h5 fun v22 =>
         Z5 PP Z18 [v22, .int .i64 1, .int .i64 3] h5 fun v23 h6 =>
         oV v23 h6 fun v24 =>
         Zd PP [.v v24] h6 K)
         (oV x5 h5 fun v25 =>
         Z5 PP ZW [v25, .int .u8 110] h5 fun v26 h7 =>
         oV v26 h7 fun v27 =>
         bK' v27
           (oD (Z2 PP Z8 x2 8) h7 fun v28 =>
           oD (Z1 PP Z0 v28 h7) h7 fun v29 =>
           Z5 PP Z18 [v29, .int .i64 0, .int .i64 1073741824] h7 fun v30 h8 =>
           oV v30 h8 fun v31 =>
           Zd PP [.v v31] h8 K)
           (j7 K x2 h7)))))
abbrev j6 : G4 := j6g j7
abbrev q4 (j6 : G4) (j7 : G1) (K : KT) : QT := Z4 (fun a h => j6 K (a 1) (a 2) (a 5) (a 25) h) (q3 j7 K)
def j5g (j6 : G4) (j7 : G1) (K : KT) (x1 x2 x5 : IV) (h : Heap) : Prop :=
 oV x5 h fun v1 =>
 Z5 PP ZW [v1, .int .u8 119] h fun v2 h1 =>
 oV v2 h1 fun v3 =>
 oG (gW v3 true) (Z2 PP Z8 x2 6) h1 fun v4 =>
 oG (gW v3 true) (Z1 PP Z0 v4 h1) h1 fun v5 =>
 Zm PP (gW v3 true) Z18 [v5, .int .i64 0, .int .i64 1073741824] h1 fun v6 h2 =>
 oG (gW v3 true) (unI .not v6) h2 fun v7 =>
 oG (gW v3 true) (some v7) h2 fun v8 =>
 oG (gW v8 false) (Z2 PP Z8 x2 7) h2 fun v9 =>
 oG (gW v8 false) (Z1 PP Z0 v9 h2) h2 fun v10 =>
 Zm PP (gW v8 false) Z18 [v10, .int .i64 0, .int .i64 1073741824] h2 fun v11 h3 =>
 oG (gW v8 false) (unI .not v11) h3 fun v12 =>
 oP (gW v3 true) (Ze v8 (.bool true) v12 h3) h3 fun v13 =>
 oP sT (Ze v3 v13 (.bool false) h3) h3 fun v14 =>
 oV v14 h3 fun v15 =>
 bK' v15
   (j6 K x1 x2 x5 v15 h3)
   (oV x5 h3 fun v16 =>
   Z5 PP ZW [v16, .int .u8 119] h3 fun v17 h4 =>
   oD (unI .not v17) h4 fun v18 =>
   oV v18 h4 fun v19 =>
   oG (gW v19 true) (Z2 PP Z8 x2 6) h4 fun v20 =>
   oG (gW v19 true) (Z1 PP Z0 v20 h4) h4 fun v21 =>
   oG (gW v19 true) (Z7 PP .neq Z0 v21 (.int .i64 0)) h4 fun v22 =>
   oG (gW v19 true) (some v22) h4 fun v23 =>
   oG (gW v23 false) (Z2 PP Z8 x2 7) h4 fun v24 =>
   oG (gW v23 false) (Z1 PP Z0 v24 h4) h4 fun v25 =>
   oG (gW v23 false) (Z7 PP .neq Z0 v25 (.int .i64 0)) h4 fun v26 =>
   oP (gW v19 true) (Ze v23 (.bool true) v26 h4) h4 fun v27 =>
   oP sT (Ze v19 v27 (.bool false) h4) h4 fun v28 =>
   oV v28 h4 fun v29 =>
   j6 K x1 x2 x5 v29 h4)
abbrev j5 : G3 := j5g j6 j7
def j3 (K : KT) (x1 x2 x5 x8 : IV) (h : Heap) : Prop := bK' x8 (j4 K h) (j5 K x1 x2 x5 h)
abbrev q5 (j3 : G4) (j7 : G1) (K : KT) : QT := Z4 (fun a h => j3 K (a 1) (a 2) (a 5) (a 8) h) (q3 j7 K)
def j2g (j3 : G4) (j7 : G1) (K : KT) (x1 x2 x5 : IV) (h : Heap) : Prop :=
 oV x5 h fun v1 =>
 Z5 PP ZW [v1, .int .u8 101] h fun v2 h1 =>
 oV v2 h1 fun v3 =>
 oG (gW v3 true) (Z2 PP Z8 x2 5) h1 fun v4 =>
 oG (gW v3 true) (Z1 PP Z0 v4 h1) h1 fun v5 =>
 Zm PP (gW v3 true) Z18 [v5, .int .i64 1, .int .i64 1048576] h1 fun v6 h2 =>
 oG (gW v3 true) (unI .not v6) h2 fun v7 =>
 oP sT (Ze v3 v7 (.bool false) h2) h2 fun v8 =>
 oV v8 h2 fun v9 =>
 bK' v9
   (j3 K x1 x2 x5 v9 h2)
   (oV x5 h2 fun v10 =>
   Z5 PP ZW [v10, .int .u8 101] h2 fun v11 h3 =>
   oD (unI .not v11) h3 fun v12 =>
   oV v12 h3 fun v13 =>
   oG (gW v13 true) (Z2 PP Z8 x2 5) h3 fun v14 =>
   oG (gW v13 true) (Z1 PP Z0 v14 h3) h3 fun v15 =>
   oG (gW v13 true) (Z7 PP .neq Z0 v15 (.int .i64 0)) h3 fun v16 =>
   oP sT (Ze v13 v16 (.bool false) h3) h3 fun v17 =>
   oV v17 h3 fun v18 =>
   j3 K x1 x2 x5 v18 h3)
abbrev j2 : G3 := j2g j3 j7
abbrev q6 (j2 : G3) (K : KT) : QT := Z4 (fun a h => j2 K (a 1) (a 2) (a 5) h) (q1 K)
def j1g (j2 : G3) (K : KT) (x1 x2 : IV) (h : Heap) : Prop :=
 oD (Z2 PP Z8 x2 0) h fun v1 =>
 oD (Z1 PP Z0 v1 h) h fun v2 =>
 oV v2 h fun v3 =>
 j2 K x1 x2 v3 h
abbrev j1 : G2 := j1g j2
abbrev q7 (j1 : G2) (K : KT) : QT := Z4 (fun a h => j1 K (a 1) (a 2) h) (q1 K)
def eg (j1 : G2) (K : KT) (x0 x1 : IV) (h : Heap) : Prop :=
 oA (Zi Z8 x0 h) h fun v1 h1 =>
 oV (.bool false) h1 fun v2 =>
 j1 K x1 v1 h1
abbrev e : G2 := eg j1
theorem u3 (p : j7 K (a 2) h) : I c3 (q1 K) a h := ICx.to p
theorem j4_ok (j7 : G1) : I c7 (q3 j7 K) a h = j4g j7 K h := by kernel_rfl
theorem u7 (p : j4 K h) : I c7 (q3 j7 K) a h := ICx.to p (j4_ok j7)
theorem j6_ok (j7 : G1) : I c9 (q3 j7 K) a h = j6g j7 K (a 1) (a 2) (a 5) (a 25) h := by kernel_rfl
theorem u9 (p : j6 K (a 1) (a 2) (a 5) (a 25) h) : I c9 (q3 j7 K) a h := ICx.to p (j6_ok j7)
theorem j5_ok (j6 : G4) (j7 : G1) : I c10 (q4 j6 j7 K) a h = j5g j6 j7 K (a 1) (a 2) (a 5) h := by kernel_rfl
theorem u10 (p : j5 K (a 1) (a 2) (a 5) h) : I c10 (q4 j6 j7 K) a h := ICx.to p (j5_ok j6 j7)
theorem u8 (p : j5 K (a 1) (a 2) (a 5) h) : I c8 (q3 j7 K) a h := ICx.sq (fun _ _ => u9) (u10 p)
theorem u6 (p : j3 K (a 1) (a 2) (a 5) (a 8) h) : I c6 (q3 j7 K) a h := ICx.cnd (o := (Go.Operand.tmp 8)) u7 u8 p
theorem j2_ok (j3 : G4) (j7 : G1) : I c11 (q5 j3 j7 K) a h = j2g j3 j7 K (a 1) (a 2) (a 5) h := by kernel_rfl
theorem u11 (p : j2 K (a 1) (a 2) (a 5) h) : I c11 (q5 j3 j7 K) a h := ICx.to p (j2_ok j3 j7)
theorem u5 (p : j2 K (a 1) (a 2) (a 5) h) : I c5 (q3 j7 K) a h := ICx.sq (fun _ _ => u6) (u11 p)
theorem u4 (p : j2 K (a 1) (a 2) (a 5) h) : I c4 (q2 j7 K) a h := ICx.blk (u5 p)
theorem u2 (p : j2 K (a 1) (a 2) (a 5) h) : I c2 (q1 K) a h := ICx.sq (fun _ _ => u3) (u4 p)
theorem j1_ok (j2 : G3) : I c12 (q6 j2 K) a h = j1g j2 K (a 1) (a 2) h := by kernel_rfl
theorem u12 (p : j1 K (a 1) (a 2) h) : I c12 (q6 j2 K) a h := ICx.to p (j1_ok j2)
theorem u1 (p : j1 K (a 1) (a 2) h) : I c1 (q1 K) a h := ICx.sq (fun _ _ => u2) (u12 p)
theorem e_ok (j1 : G2) : I c13 (q7 j1 K) a h = eg j1 K (a 0) (a 1) h := by kernel_rfl
theorem u13 (p : e K (a 0) (a 1) h) : I c13 (q7 j1 K) a h := ICx.to p (e_ok j1)
theorem u0 (p : e K (a 0) (a 1) h) : I c0 (q1 K) a h := ICx.sq (fun _ _ => u1) (u13 p)
theorem call {x0 x1 : IV} (p : e K x0 x1 h) : Z5 PP Z3U [x0, x1] h K :=
  ICx.fn Try.mixed Try.func90 rfl (Nat.le_of_ble_eq_true rfl) (u0 (a := actI [x0, x1]) p)
end Z10
namespace Z1s
def D : Nat → DI
  | _ => ⟨[], [], []⟩
abbrev I := ICx PP 20 D
def c0 : Code := bodyN Try.f91
def c1 : Code := cR c0
def c2 : Code := cR c1
def c3 : Code := cR c2
def c4 : Code := cL c2
def c5 : Code := cR c4
def c6 : Code := cL c5
def c7 : Code := cL c6
def c8 : Code := cR c7
def c9 : Code := cR c8
def c10 : Code := cL c8
def c11 : Code := cL c7
def c12 : Code := cL c4
def c13 : Code := cL c1
def c14 : Code := cL c0
abbrev q1 (K : KT) : QT := finK PP Try.f91.results.toList K
def j5 (K : KT) (h : Heap) : Prop :=
 oV (.bool false) h fun v1 =>
 Zd PP [.v v1] h K
abbrev q2 (j5 : G0) (K : KT) : QT := Z4 (fun a h => j5 K h) (q1 K)
abbrev q3 (j5 : G0) (K : KT) : QT := Zq 0 (q2 j5 K)
def l1 (K : KT) (x1 x5 x6 : IV) (h : Heap) : Prop := ∀ a : IAct, a 1 = x1 → a 5 = x5 → a 6 = x6 → ILoop PP 20 c7 (q3 j5 K) a h
abbrev q4 (l1 : G3) (j5 : G0) (K : KT) : QT := Z4 (fun a h => l1 K (a 1) (a 5) (a 6) h) (q3 j5 K)
def j4g (l1 : G3) (j5 : G0) (K : KT) (x1 x5 x6 : IV) (h : Heap) : Prop :=
 oV x6 h fun v1 =>
 oD (Z7 PP .add Z0 v1 (.int .i64 1)) h fun v2 =>
 oV v2 h fun v3 =>
 l1 K x1 x5 v3 h
abbrev j4 : G3 := j4g l1 j5
abbrev q5 (j4 : G3) (l1 : G3) (j5 : G0) (K : KT) : QT := Z4 (fun a h => j4 K (a 1) (a 5) (a 6) h) (q4 l1 j5 K)
def j3g (j4 : G3) (l1 : G3) (j5 : G0) (K : KT) (x1 x5 x6 : IV) (h : Heap) : Prop :=
 oV x5 h fun v1 =>
 oV x6 h fun v2 =>
 oD (indexI PP Z1n v1 v2) h fun v3 =>
 oV x1 h fun v4 =>
 oD (Z7 PP .eql t_uint8 v3 v4) h fun v5 =>
 bK' v5
   (oV (.bool true) h fun v6 =>
   Zd PP [.v v6] h K)
   (j4 K x1 x5 x6 h)
abbrev j3 : G3 := j3g j4 l1 j5
abbrev q6 (j3 : G3) (l1 : G3) (j5 : G0) (K : KT) : QT := Z4 (fun a h => j3 K (a 1) (a 5) (a 6) h) (q4 l1 j5 K)
def b1g (j3 : G3) (l1 : G3) (j5 : G0) (K : KT) (x1 x5 x6 : IV) (h : Heap) : Prop :=
 oV x6 h fun v1 =>
 oV x5 h fun v2 =>
 oD (lenI PP Z1n v2) h fun v3 =>
 oD (Z7 PP .lss Z0 v1 v3) h fun v4 =>
 bK' v4
   (j3 K x1 x5 x6 h)
   (j5 K h)
abbrev b1 : G3 := b1g j3 l1 j5
abbrev q7 (l1 : G3) (j5 : G0) (K : KT) : QT := Z4 (fun a h => l1 K (a 1) (a 5) (a 6) h) (q2 j5 K)
def j2g (l1 : G3) (j5 : G0) (K : KT) (x1 x5 : IV) (h : Heap) : Prop :=
 oV (.int .i64 0) h fun v1 =>
 l1 K x1 x5 v1 h
abbrev j2 : G2 := j2g l1 j5
abbrev q8 (j2 : G2) (K : KT) : QT := Z4 (fun a h => j2 K (a 1) (a 5) h) (q1 K)
def j1g (j2 : G2) (K : KT) (x0 x1 : IV) (h : Heap) : Prop :=
 oV x0 h fun v1 =>
 Z5 PP Z3V [v1] h fun v2 h1 =>
 oV v2 h1 fun v3 =>
 j2 K x1 v3 h1
abbrev j1 : G2 := j1g j2
abbrev q9 (j1 : G2) (K : KT) : QT := Z4 (fun a h => j1 K (a 0) (a 1) h) (q1 K)
def eg (j1 : G2) (K : KT) (x0 x1 : IV) (h : Heap) : Prop :=
 oV (.bool false) h fun v1 =>
 j1 K x0 x1 h
abbrev e : G2 := eg j1
theorem u3 (p : j5 K h) : I c3 (q1 K) a h := ICx.to p
theorem j4_ok (l1 : G3) (j5 : G0) : I c9 (q4 l1 j5 K) a h = j4g l1 j5 K (a 1) (a 5) (a 6) h := by kernel_rfl
theorem u9 (p : j4 K (a 1) (a 5) (a 6) h) : I c9 (q4 l1 j5 K) a h := ICx.to p (j4_ok l1 j5)
theorem j3_ok (j4 : G3) (l1 : G3) (j5 : G0) : I c10 (q5 j4 l1 j5 K) a h = j3g j4 l1 j5 K (a 1) (a 5) (a 6) h := by kernel_rfl
theorem u10 (p : j3 K (a 1) (a 5) (a 6) h) : I c10 (q5 j4 l1 j5 K) a h := ICx.to p (j3_ok j4 l1 j5)
theorem u8 (p : j3 K (a 1) (a 5) (a 6) h) : I c8 (q4 l1 j5 K) a h := ICx.sq (fun _ _ => u9) (u10 p)
theorem b1_ok (j3 : G3) (l1 : G3) (j5 : G0) : I c11 (q6 j3 l1 j5 K) a h = b1g j3 l1 j5 K (a 1) (a 5) (a 6) h := by kernel_rfl
theorem u11 (p : b1 K (a 1) (a 5) (a 6) h) : I c11 (q6 j3 l1 j5 K) a h := ICx.to p (b1_ok j3 l1 j5)
theorem u7 (p : b1 K (a 1) (a 5) (a 6) h) : I c7 (q4 l1 j5 K) a h := ICx.sq (fun _ _ => u8) (u11 p)
theorem u6 (p : l1 K (a 1) (a 5) (a 6) h) : I c6 (q3 j5 K) a h := ICx.lp (p a rfl rfl rfl)
theorem l1_round {x1 x5 x6 : IV} (p : b1 K x1 x5 x6 h) : l1 K x1 x5 x6 h := by
  intro a e1 e5 e6
  subst e1; subst e5; subst e6; exact ICx.round Try.mixed (D := D) (L := fun a h => l1 K (a 1) (a 5) (a 6) h) (fun a h p => p a rfl rfl rfl) (u7 p)
theorem u5 (p : l1 K (a 1) (a 5) (a 6) h) : I c5 (q2 j5 K) a h := ICx.blk (u6 p)
theorem j2_ok (l1 : G3) (j5 : G0) : I c12 (q7 l1 j5 K) a h = j2g l1 j5 K (a 1) (a 5) h := by kernel_rfl
theorem u12 (p : j2 K (a 1) (a 5) h) : I c12 (q7 l1 j5 K) a h := ICx.to p (j2_ok l1 j5)
theorem u4 (p : j2 K (a 1) (a 5) h) : I c4 (q2 j5 K) a h := ICx.sq (fun _ _ => u5) (u12 p)
theorem u2 (p : j2 K (a 1) (a 5) h) : I c2 (q1 K) a h := ICx.sq (fun _ _ => u3) (u4 p)
theorem j1_ok (j2 : G2) : I c13 (q8 j2 K) a h = j1g j2 K (a 0) (a 1) h := by kernel_rfl
theorem u13 (p : j1 K (a 0) (a 1) h) : I c13 (q8 j2 K) a h := ICx.to p (j1_ok j2)
theorem u1 (p : j1 K (a 0) (a 1) h) : I c1 (q1 K) a h := ICx.sq (fun _ _ => u2) (u13 p)
theorem e_ok (j1 : G2) : I c14 (q9 j1 K) a h = eg j1 K (a 0) (a 1) h := by kernel_rfl
theorem u14 (p : e K (a 0) (a 1) h) : I c14 (q9 j1 K) a h := ICx.to p (e_ok j1)
theorem u0 (p : e K (a 0) (a 1) h) : I c0 (q1 K) a h := ICx.sq (fun _ _ => u1) (u14 p)
theorem call {x0 x1 : IV} (p : e K x0 x1 h) : Z5 PP ZW [x0, x1] h K :=
  ICx.fn Try.mixed Try.func91 rfl (Nat.le_of_ble_eq_true rfl) (u0 (a := actI [x0, x1]) p)
end Z1s
namespace Z1Y
def D : Nat → DI
  | _ => ⟨[], [], []⟩
abbrev I := ICx PP 17 D
def c0 : Code := bodyN Try.f92
def c1 : Code := cR c0
def c2 : Code := cR c1
def c3 : Code := cR c2
def c4 : Code := cL c2
def c5 : Code := cL c1
def c6 : Code := cL c0
abbrev q1 (K : KT) : QT := finK PP Try.f92.results.toList K
def j3 (K : KT) (x0 x3 : IV) (h : Heap) : Prop :=
 oV x3 h fun v1 =>
 oV x0 h fun v2 =>
 oD (Zf PP Z1W v1 v2 h) h fun v3 =>
 oD (Z1 PP Z1n v3 h) h fun v4 =>
 oV v4 h fun v5 =>
 Zd PP [.v v5] h K
abbrev q2 (j3 : G2) (K : KT) : QT := Z4 (fun a h => j3 K (a 0) (a 3) h) (q1 K)
def j2g (j3 : G2) (K : KT) (x0 x3 : IV) (h : Heap) : Prop :=
 oV x0 h fun v1 =>
 oD (Z7 PP .lss Z0 v1 (.int .i64 1)) h fun v2 =>
 oV v2 h fun v3 =>
 oG (gW v3 false) (some x0) h fun v4 =>
 oG (gW v3 false) (some x3) h fun v5 =>
 oG (gW v3 false) (lenI PP Z1W v5) h fun v6 =>
 oG (gW v3 false) (Z7 PP .geq Z0 v4 v6) h fun v7 =>
 oP sT (Ze v3 (.bool true) v7 h) h fun v8 =>
 bK' v8
   (oV (.str ⟨#[63]⟩) h fun v9 =>
   Zd PP [.v v9] h K)
   (j3 K x0 x3 h)
abbrev j2 : G2 := j2g j3
abbrev q3 (j2 : G2) (K : KT) : QT := Z4 (fun a h => j2 K (a 0) (a 3) h) (q1 K)
def j1g (j2 : G2) (K : KT) (x0 : IV) (h : Heap) : Prop :=
 oA (ZA PP Z1W 17 [(0, .str ⟨#[]⟩), (1, .str ⟨#[116, 99, 111]⟩), (2, .str ⟨#[116, 99, 101, 119, 118]⟩), (3, .str ⟨#[116, 101]⟩), (4, .str ⟨#[116, 67]⟩), (5, .str ⟨#[116, 99]⟩), (6, .str ⟨#[116, 99]⟩), (7, .str ⟨#[116]⟩), (8, .str ⟨#[116, 98]⟩), (9, .str ⟨#[99, 109]⟩), (10, .str ⟨#[99, 118]⟩), (11, .str ⟨#[99, 118]⟩), (12, .str ⟨#[118]⟩), (13, .str ⟨#[114, 98]⟩), (14, .str ⟨#[]⟩), (15, .str ⟨#[]⟩), (16, .str ⟨#[110]⟩)] h) h fun v1 h1 =>
 oV v1 h1 fun v2 =>
 j2 K x0 v2 h1
abbrev j1 : G1 := j1g j2
abbrev q4 (j1 : G1) (K : KT) : QT := Z4 (fun a h => j1 K (a 0) h) (q1 K)
def eg (j1 : G1) (K : KT) (x0 : IV) (h : Heap) : Prop :=
 oV (.str ⟨#[]⟩) h fun v1 =>
 j1 K x0 h
abbrev e : G1 := eg j1
theorem u3 (p : j3 K (a 0) (a 3) h) : I c3 (q1 K) a h := ICx.to p
theorem j2_ok (j3 : G2) : I c4 (q2 j3 K) a h = j2g j3 K (a 0) (a 3) h := by kernel_rfl
theorem u4 (p : j2 K (a 0) (a 3) h) : I c4 (q2 j3 K) a h := ICx.to p (j2_ok j3)
theorem u2 (p : j2 K (a 0) (a 3) h) : I c2 (q1 K) a h := ICx.sq (fun _ _ => u3) (u4 p)
theorem j1_ok (j2 : G2) : I c5 (q3 j2 K) a h = j1g j2 K (a 0) h := by kernel_rfl
theorem u5 (p : j1 K (a 0) h) : I c5 (q3 j2 K) a h := ICx.to p (j1_ok j2)
theorem u1 (p : j1 K (a 0) h) : I c1 (q1 K) a h := ICx.sq (fun _ _ => u2) (u5 p)
theorem e_ok (j1 : G1) : I c6 (q4 j1 K) a h = eg j1 K (a 0) h := by kernel_rfl
theorem u6 (p : e K (a 0) h) : I c6 (q4 j1 K) a h := ICx.to p (e_ok j1)
theorem u0 (p : e K (a 0) h) : I c0 (q1 K) a h := ICx.sq (fun _ _ => u1) (u6 p)
theorem call {x0 : IV} (p : e K x0 h) : Z5 PP Z3V [x0] h K :=
  ICx.fn Try.mixed Try.func92 rfl (Nat.le_of_ble_eq_true rfl) (u0 (a := actI [x0]) p)
end Z1Y
end
end Go.Ideal
namespace Go.Ideal
variable {P : Program} {x x' v : IV} {h h' : Heap} {K : IV → Prop} {KH : KT} {KP : Heap → Prop} {w w' : Option Bool} {o o' : Option IV} {p p' : Option (IV × Heap)} {X Y A B : Prop} {f : FuncId}
@[congr] theorem oV_congr (e : x = x') : oV x h K = oV x' h K := by rw [e]
@[congr] theorem oD_congr (e : o = o') : oD o h K = oD o' h K := by rw [e]
def gv (b : Bool) (v : IV) : IV := if b = true then v else .tup []
@[simp] theorem gv_true (v : IV) : gv true v = v := Zc rfl
@[simp] theorem gv_false (v : IV) : gv false v = .tup [] := Zc rfl
@[congr] theorem oG_congr (d : w = w') : oG w o h K = oG w' o h K := by rw [d]
def oH (b : Bool) (o : Option IV) (h : Heap) (K : IV → Prop) : Prop := oG (some b) o h K
@[simp] theorem oG_H {b : Bool} : oG (some b) o h K = oH b o h K := Zc rfl
@[congr] theorem oH_congr {b b' : Bool} (d : b = b') (e : b' = true → o = o') : oH b o h K = oH b' o' h K := by
  subst d
  cases b with
  | false => rfl
  | true => rw [e rfl]
@[simp] theorem oH_true : oH true o h K = oD o h K := Zc rfl
@[simp] theorem oH_false : oH false o h K = K (.tup []) := Zc rfl
def oQ (b : Bool) (p : Option (IV × Heap)) (h : Heap) (K : IV → Prop) : Prop := oP (some b) p h K
@[simp] theorem oQ_congr0 {b : Bool} : oP (some b) p h K = oQ b p h K := Zc rfl
@[congr] theorem oQ_congr {b b' : Bool} (d : b = b') (e : b' = true → p = p') : oQ b p h K = oQ b' p' h K := by
  subst d
  cases b with
  | false => rfl
  | true => rw [e rfl]
@[simp] theorem oQ_gv {b : Bool} {q : IV × Heap} : oQ b (some q) h K = K (gv b q.1) := by cases b <;> rfl
@[simp] theorem oQ_false : oQ false p h K = K (.tup []) := Zc rfl
def callB (P : Program) (b : Bool) (f : FuncId) (args : List IV) (h : Heap) (KH : KT) : Prop := Zm P (some b) f args h KH
@[simp] theorem callS_B {b : Bool} {args : List IV} : Zm P (some b) f args h KH = callB P b f args h KH := Zc rfl
@[congr] theorem callB_congr {b b' : Bool} {args args' : List IV} (d : b = b') (e : b' = true → args = args') : callB P b f args h KH = callB P b' f args' h KH := by
  subst d
  cases b with
  | false => rfl
  | true => rw [e rfl]
@[simp] theorem callB_true {args : List IV} : callB P true f args h KH = Z5 P f args h KH := Zc rfl
@[simp] theorem callB_false {args : List IV} : callB P false f args h KH = KH (.tup []) h := Zc rfl
theorem callB_fun {b : Bool} {args : List IV} {r : IV} (hf : b = true → Fun P f args r) (k : KH (gv b r) h) : callB P b f args h KH := by
  cases b
  · exact k
  · exact (hf rfl).call k
@[simp] theorem oH_gv {b : Bool} : oH b (some v) h K = K (gv b v) := by cases b <;> rfl
@[congr] theorem oP_congr (d : w = w') : oP w p h K = oP w' p h K := by rw [d]
@[congr] theorem oA_congr (e : p = p') : oA p h KH = oA p' h KH := by rw [e]
@[congr] theorem oS_congr {o o' : Option Heap} (e : o = o') : oS o h KP = oS o' h KP := by rw [e]
@[congr] theorem oK_congr {α : Type} {o o' : Option α} {K : α → Prop} (e : o = o') : oK o K = oK o' K := by rw [e]
@[congr] theorem bK'_congr (e : x = x') : bK' x X Y = bK' x' X Y := by rw [e]
@[congr] theorem callS_congr {args : List IV} (d : w = w') : Zm P w f args h KH = Zm P w' f args h KH := by rw [d]
@[simp] theorem readsG_some {b : Bool} : ZS (some b) o v h = (b = true → Zb o v h) := by cases b <;> simp [ZS, Zb]
@[simp] theorem ite_boolV {q : Prop} [Decidable q] (c d : Bool) : (if q then IV.bool c else IV.bool d) = IV.bool (if q then c else d) := by split <;> rfl
section
variable {b c d : Bool} {x y : IV}
@[simp] theorem pick_t : Ze (.bool true) x y h = some (x, h) := Zc rfl
@[simp] theorem pick_f : Ze (.bool false) x y h = some (y, h) := Zc rfl
@[simp] theorem pick_and : Ze (.bool b) (gv b (.bool c)) (.bool false) h = some (.bool (b && c), h) := by cases b <;> rfl
@[simp] theorem pick_or : Ze (.bool b) (.bool true) (gv (!b) (.bool c)) h = some (.bool (b || c), h) := by cases b <;> rfl
@[simp] theorem pick_or' : Ze (.bool (!b)) (.bool true) (gv b (.bool c)) h = some (.bool (!b || c), h) := by cases b <;> rfl
@[simp low] theorem pick_y : Ze (.bool b) x (gv (!b) y) h = some (if b then x else y, h) := by cases b <;> rfl
end
theorem gv_gW {b c : Bool} {x : Bool} : gW (gv b (.bool x)) c = some (if b then (x == c) else false) := by cases b <;> rfl
attribute [simp] gv_gW
@[simp] theorem gv_gv {b : Bool} (v : IV) : gv b (gv b v) = gv b v := by cases b <;> rfl
@[congr] theorem callK_congr {args : List IV} (d : w = w') (e : x = x') : callK P w x args h KH = callK P w' x' args h KH := by rw [d, e]
@[congr] theorem CallsI_congr {args args' : List IV} (d : args = args') : Z5 P f args h KH = Z5 P f args' h KH := by rw [d]
theorem oB_congr (e : A = B) : oB A Y = oB B Y := by rw [e]
attribute [congr] oB_congr
@[simp] theorem oB_true : oB True Y = Y := by simp [oB]
attribute [simp] oV_eq
@[simp] theorem bK'_true : bK' (.bool true) X Y = X := Zc rfl
@[simp] theorem bK'_false : bK' (.bool false) X Y = Y := Zc rfl
theorem bK'_dec {q : Prop} [Decidable q] (hx : q → X) (hy : ¬ q → Y) : bK' (.bool (decide q)) X Y := by
  by_cases hq : q
  · simp [hq]; exact hx hq
  · simp [hq]; exact hy hq
theorem bK'_b {b : Bool} (hx : b = true → X) (hy : b = false → Y) : bK' (.bool b) X Y := by
  cases b
  · exact hy rfl
  · exact hx rfl
@[simp] theorem sT_eq : sT = some true := Zc rfl
@[simp] theorem bin_ii {op : BinOp} {t : TypeId} {k k' : IntKind} {a b : Int} : Z7 P op t (.int k a) (.int k' b) = arithI op k a k' b := Zc rfl
theorem bin_bb {op : BinOp} {t : TypeId} {a b : Bool} (hk : knO P t = .bo) : Z7 P op t (.bool a) (.bool b) = (match op with | .eql => some (.bool (a == b)) | .neq => some (.bool !(a == b)) | _ => none) := by
  cases op <;> simp [Z7, eqI, hk]
@[simp] theorem un_not (b : Bool) : unI .not (.bool b) = some (.bool !b) := Zc rfl
section
variable {k : IntKind} {a b : Int}
@[simp] theorem ar_add : arithI .add k a k b = some (.int k (k.wrap (a + b))) := by simp [arithI]
@[simp] theorem ar_sub : arithI .sub k a k b = some (.int k (k.wrap (a - b))) := by simp [arithI]
@[simp] theorem ar_mul : arithI .mul k a k b = some (.int k (k.wrap (a * b))) := by simp [arithI]
@[simp] theorem ar_eql : arithI .eql k a k b = some (.bool (decide (a = b))) := by simp [arithI]; rfl
@[simp] theorem ar_neq : arithI .neq k a k b = some (.bool (!decide (a = b))) := by simp [arithI]; rfl
@[simp] theorem ar_lss : arithI .lss k a k b = some (.bool (decide (a < b))) := by simp [arithI]
@[simp] theorem ar_leq : arithI .leq k a k b = some (.bool (decide (a ≤ b))) := by simp [arithI]
@[simp] theorem ar_gtr : arithI .gtr k a k b = some (.bool (decide (b < a))) := by simp [arithI]
@[simp] theorem ar_geq : arithI .geq k a k b = some (.bool (decide (b ≤ a))) := by simp [arithI]
theorem ar_rem (h0 : b ≠ 0) : arithI .rem k a k b = some (.int k (a.tmod b)) := by simp [arithI, h0]
theorem ar_quo (h0 : b ≠ 0) : arithI .quo k a k b = some (.int k (k.wrap (a.tdiv b))) := by simp [arithI, h0]
end
@[simp] theorem mm_nil (mx : Bool) (x : IV) : mmI mx x [] = some x := by simp [mmI]
@[simp] theorem mm_min {k : IntKind} {a b : Int} {r : List IV} : mmI false (.int k a) (.int k b :: r) = mmI false (.int k (min a b)) r := by
  simp only [mmI, if_true, Bool.false_eq_true, if_false]
  have : (if b < a then b else a) = min a b := by split <;> omega
  rw [this]
@[simp] theorem mm_max {k : IntKind} {a b : Int} {r : List IV} : mmI true (.int k a) (.int k b :: r) = mmI true (.int k (max a b)) r := by
  simp only [mmI, if_true]
  have : (if b > a then b else a) = max a b := by split <;> omega
  rw [this]
theorem w64 {x : Int} (h1 : -9223372036854775808 ≤ x) (h2 : x ≤ 9223372036854775807) : IntKind.i64.wrap x = x := by
  have e : IntKind.i64.wrap x = if 9223372036854775808 ≤ x % 18446744073709551616 then x % 18446744073709551616 - 18446744073709551616 else x % 18446744073709551616 := by
    simp [IntKind.wrap, IntKind.bits, IntKind.signed]
  rw [e]
  split <;> omega
theorem bv_and1 (a : Int) : (BitVec.ofInt 64 a &&& BitVec.ofInt 64 1).toNat = (a % 2).toNat := by
  rw [BitVec.toNat_and, BitVec.toNat_ofInt, BitVec.toNat_ofInt]
  have : ((1 : Int) % ((2 ^ 64 : Nat) : Int)).toNat = 1 := by decide
  rw [this, Nat.and_one_is_mod]
  omega
theorem ar_and1 {a : Int} : arithI .and .i64 a .i64 1 = some (.int .i64 (a % 2)) := by
  have e1 : arithI .and .i64 a .i64 1 = some (.int .i64 (IntKind.i64.wrap ((BitVec.ofInt 64 a &&& BitVec.ofInt 64 1).toNat : Nat))) := rfl
  rw [e1, bv_and1]
  have : ((a % 2).toNat : Int) = a % 2 := by omega
  rw [this, w64 (by omega) (by omega)]
theorem ar_shr {k : IntKind} {a b : Int} (h0 : 0 ≤ b) (h1 : b < 64) : arithI .shr .i64 a k b = some (.int .i64 (a / 2 ^ b.toNat)) := by
  have e1 : arithI .shr .i64 a k b = some (.int .i64 (a.fdiv (2 ^ (min b.toNat 64)))) := by simp [arithI, h0]; rfl
  rw [e1, show min b.toNat 64 = b.toNat by omega, Int.fdiv_eq_ediv_of_nonneg _ (Int.pow_nonneg (by decide))]
theorem wu64 {x : Int} (h1 : 0 ≤ x) (h2 : x < 18446744073709551616) : IntKind.u64.wrap x = x := by
  have e : IntKind.u64.wrap x = x % 18446744073709551616 := by
    simp [IntKind.wrap, IntKind.bits, IntKind.signed]
  rw [e]; omega
attribute [simp] retK_nil retK_v
@[simp] theorem mkV_none (b : Nat) : mkV none b = .ptr b 0 0 := Zc rfl
@[simp] theorem mkV_some (n b : Nat) : mkV (some n) b = .sl b 0 n := Zc rfl
def ldI (a : Option Bool) (n : Option Nat) (cs : List IV) : Option IV := match a, n with
  | some true, some n => if n ≤ cs.length then some (.agg (cs.take n)) else none
  | some false, some _ => cs.head?
  | _, _ => none
theorem ldI_one (n : Nat) (c : IV) (cs : List IV) : ldI (some false) (some n) (c :: cs) = some c := Zc rfl
attribute [simp] ldI_one
theorem ld_f (t : TypeId) (cs : List IV) (h : Heap) : Z1 P t (.fptr cs) h = ldI (agO P t) (szO P t) cs := by
  unfold Z1 ldI cellsOf
  cases agO P t with
  | none => rfl
  | some a => cases a <;> cases szO P t <;> rfl
theorem ld_p {b i o : Nat} {k : Blk} {e : List IV} (t : TypeId) (hb : h[b]? = some (some k)) (he : k.es[i]? = some e) : Z1 P t (.ptr b i o) h = ldI (agO P t) (szO P t) (e.drop o) := by
  unfold Z1 ldI cellsOf
  simp only [hb, he, Option.map_some]
  cases agO P t with
  | none => rfl
  | some a => cases a <;> cases szO P t <;> rfl
theorem ld_b {b o n T : Nat} {cs : List IV} (hb : h[b]? = some (some ⟨n, T, [cs]⟩)) (t : TypeId) : Z1 P t (.ptr b 0 o) h = ldI (agO P t) (szO P t) (cs.drop o) := ld_p t hb rfl
attribute [simp] ld_f
theorem fa_p {t : TypeId} {i b j o off s : Nat} {a : Bool} (hf : fdO P t i = some (off, s, a)) (hs : (decide (s = 0)) = false) : Z2 P t (.ptr b j o) i = some (.ptr b j (o + off)) := by
  simp only [decide_eq_false_iff_not] at hs
  simp [Z2, hf, hs]
theorem fa_f {t : TypeId} {i off s : Nat} {cs : List IV} {a : Bool} (hf : fdO P t i = some (off, s, a)) (hs : (decide (s = 0)) = false) : Z2 P t (.fptr cs) i = some (.fptr (cs.drop off)) := by
  simp only [decide_eq_false_iff_not] at hs
  simp [Z2, hf, hs]
theorem len_v {t t' : TypeId} {s : Nat} {es : List (List IV)} (ht : elO P t = some t') : lenI P t (.vs s es) = some (.int .i64 es.length) := by simp [lenI, ht]
theorem len_s {t t' : TypeId} {b lo len : Nat} (ht : elO P t = some t') : lenI P t (.sl b lo len) = some (.int .i64 len) := by simp [lenI, ht]
theorem ix_v {t t' : TypeId} {s : Nat} {es : List (List IV)} {k : IntKind} {i : Int} {e : List IV} (ht : elO P t = some t') (hs : szO P t' = some s) (h0 : 0 ≤ i) (he : es[i.toNat]? = some e) : Zf P t (.vs s es) (.int k i) h = some (.fptr e) := by
  simp [Zf, ht, hs, h0, he]
theorem ix_s {t t' T : TypeId} {s b lo len : Nat} {es : List (List IV)} {k : IntKind} {i : Int} (ht : elO P t = some t') (hs : szO P t' = some s) (h0 : 0 ≤ i) (h1 : i < len) (hb : h[b]? = some (some ⟨s, T, es⟩)) : Zf P t (.sl b lo len) (.int k i) h = some (.ptr b (lo + i.toNat) 0) := by
  simp [Zf, ht, hs, h0, h1, hb]
theorem sl_v {t t' : TypeId} {s : Nat} {es : List (List IV)} {lo hi : Option IV} {l m : Int} (ht : elO P t = some t') (hs : szO P t' = some s) (hl : boundI 0 lo = some l) (hm : boundI es.length hi = some m) (h0 : 0 ≤ l) (h1 : l ≤ m) (h2 : m ≤ es.length) :
    sliceI P t (.vs s es) lo hi h = some (.vs s ((es.take m.toNat).drop l.toNat)) := by
  simp only [sliceI, ht, hs, Option.bind_some, hl, hm]
  rw [if_pos (by simp; omega)]
  congr 2
  rw [List.drop_take]
section
variable {h0 : Heap} {b : Nat} {k : Blk} {r : PT} {L L1 L2 L3 L4 L5 L6 L7 : PT} {rs : List PT}
theorem Own.at0 (S : Own h0 (((b, some k) :: r) :: rs) h) : h[b]? = some (some k) := (S.get (b, some k) (by simp)).2
theorem Own.fill (S : Own h0 (((b, none) :: r) :: rs) h) (k : Blk) : Own h0 (((b, some k) :: r) :: rs) (h.set b (some k)) := S.set (some k)
theorem Own.slot (S : Own h0 rs h) : Own h0 ([(h.length, none)] :: rs) (h ++ [none]) := S.push none
theorem Own.slot2 (S : Own h0 rs h) : Own h0 ([(h.length, none)] :: [(h.length + 1, none)] :: rs) (h ++ [none, none]) := by
  have := (S.push none).push none
  simp only [List.length_append, List.length_cons, List.length_nil, List.append_assoc, List.cons_append, List.nil_append] at this
  exact this.swap
theorem Own.at1 (S : Own h0 (L :: ((b, some k) :: r) :: rs) h) : h[b]? = some (some k) := S.drop.at0
theorem Own.at2 (S : Own h0 (L :: L1 :: ((b, some k) :: r) :: rs) h) : h[b]? = some (some k) := S.drop.at1
theorem Own.at3 (S : Own h0 (L :: L1 :: L2 :: ((b, some k) :: r) :: rs) h) : h[b]? = some (some k) := S.drop.at2
theorem Own.at4 (S : Own h0 (L :: L1 :: L2 :: L3 :: ((b, some k) :: r) :: rs) h) : h[b]? = some (some k) := S.drop.at3
theorem Own.at5 (S : Own h0 (L :: L1 :: L2 :: L3 :: L4 :: ((b, some k) :: r) :: rs) h) : h[b]? = some (some k) := S.drop.at4
theorem Own.at6 (S : Own h0 (L :: L1 :: L2 :: L3 :: L4 :: L5 :: ((b, some k) :: r) :: rs) h) : h[b]? = some (some k) := S.drop.at5
theorem Own.at7 (S : Own h0 (L :: L1 :: L2 :: L3 :: L4 :: L5 :: L6 :: ((b, some k) :: r) :: rs) h) : h[b]? = some (some k) := S.drop.at6
theorem Own.up1 (S : Own h0 (L :: L1 :: rs) h) : Own h0 (L1 :: L :: rs) h := S.swap
theorem Own.up2 (S : Own h0 (L :: L1 :: L2 :: rs) h) : Own h0 (L2 :: L :: L1 :: rs) h := S.perm (by
  simp only [List.flatten_cons, ← List.append_assoc]
  exact List.Perm.append_right _ (by rw [List.append_assoc]; exact List.perm_append_comm))
theorem Own.up3 (S : Own h0 (L :: L1 :: L2 :: L3 :: rs) h) : Own h0 (L3 :: L :: L1 :: L2 :: rs) h := S.perm (by
  simp only [List.flatten_cons, ← List.append_assoc]
  exact List.Perm.append_right _ (by rw [List.append_assoc, List.append_assoc, ← List.append_assoc L L1 L2]; exact List.perm_append_comm))
theorem Own.box {cs : List IV} {T : TypeId} (S : Own h0 rs h) (k : ∀ b h', Own h0 ([(b, some ⟨cs.length, T, [cs]⟩)] :: rs) h' → KH (.ptr b 0 0) h') : oA (Zi T (.agg cs) h) h KH := by
  simp only [Zi, ZC, oA_some]
  exact k _ _ (S.push _)
theorem Own.box1 {x : IV} {T : TypeId} (S : Own h0 rs h) (hx : ZC x = some [x]) (k : ∀ b h', Own h0 ([(b, some ⟨1, T, [[x]]⟩)] :: rs) h' → KH (.ptr b 0 0) h') : oA (Zi T x h) h KH := by
  simp only [Zi, hx, oA_some]
  exact k _ _ (S.push _)
theorem Own.alloc {T : TypeId} {z : List IV} (S : Own h0 rs h) (hz : zrO P T = some z) (k : ∀ b h', Own h0 ([(b, some ⟨z.length, T, [z]⟩)] :: rs) h' → KH (.ptr b 0 0) h') : oA (Zp P T h) h KH := by
  simp only [Zp, hz, oA_some]
  exact k _ _ (S.push _)
theorem Own.store {n T : Nat} {t : TypeId} {cs new : List IV} {o : Nat} {x : IV} (S : Own h0 (((b, some ⟨n, T, [cs]⟩) :: r) :: rs) h) (hx : ZC x = some new) (hs : szO P t = some new.length) (hl : o + new.length ≤ cs.length) (ho : new.all oneI = true)
    (k : ∀ h', Own h0 (((b, some ⟨n, T, [splice o new cs]⟩) :: r) :: rs) h' → KP h') : oS (Z9 P t (.ptr b 0 o) x h) h KP := by
  have hb := S.at0
  simp only [Z9, hx, hs, hb, List.getElem?_cons_zero]
  rw [if_pos (by simp [ho]; exact hl)]
  simp only [oS_some]
  exact k _ (S.set _)
end
end Go.Ideal
namespace Go.Ideal
abbrev IV.n (x : Int) : IV := .int .i64 x
def ints (l : List Int) : List (List IV) := l.map fun x => [.int .i64 x]
@[simp] theorem ints_length (l : List Int) : (ints l).length = l.length := by simp [ints]
@[simp] theorem ints_nil : ints [] = [] := rfl
@[simp] theorem ints_cons (x : Int) (l : List Int) : ints (x :: l) = [.int .i64 x] :: ints l := rfl
theorem ints_append (l m : List Int) : ints (l ++ m) = ints l ++ ints m := by simp [ints]
theorem ints_get {l : List Int} {i : Nat} {x : Int} (h : l[i]? = some x) : (ints l)[i]? = some [.int .i64 x] := by simp [ints, h]
theorem ints_set (l : List Int) (i : Nat) (x : Int) : (ints l).set i [.int .i64 x] = ints (l.set i x) := by simp [ints, List.map_set]
theorem map_get {α : Type} (f : α → List IV) {l : List α} {i : Nat} {x : α} (h : l[i]? = some x) : (l.map f)[i]? = some (f x) := by simp [h]
def gt {α : Type} (l : List α) (i : Int) : Option α := if 0 ≤ i then l[i.toNat]? else none
theorem gt_some {α : Type} {l : List α} {i : Int} {x : α} : gt l i = some x ↔ 0 ≤ i ∧ l[i.toNat]? = some x := by unfold gt; split <;> simp [*]
theorem gt_none {α : Type} {l : List α} {i : Int} : gt l i = none ↔ i < 0 ∨ (l.length : Int) ≤ i := by
  unfold gt; split <;> simp <;> omega
theorem gt_lt {α : Type} {l : List α} {i : Int} {x : α} (h : gt l i = some x) : 0 ≤ i ∧ i < l.length := by
  obtain ⟨h0, h1⟩ := gt_some.1 h; have := (List.getElem?_eq_some_iff.1 h1).1; omega
theorem gt_ex {α : Type} {l : List α} {i : Int} (h0 : 0 ≤ i) (h1 : i < l.length) : ∃ x, gt l i = some x := by
  cases e : gt l i with
  | some x => exact ⟨x, rfl⟩
  | none => rcases gt_none.1 e with h | h <;> omega
theorem gt_nat {α : Type} (l : List α) (i : Nat) : gt l (i : Int) = l[i]? := by unfold gt; simp
theorem belss_map {α : Type} (f : α → List IV) (n : Nat) (hf : ∀ x, Bels n (f x)) (l : List α) : Belss n (l.map f) := by
  rw [belss_iff]; intro e he; obtain ⟨x, _, rfl⟩ := List.mem_map.1 he; exact hf x
@[simp] theorem bel_ints (n : Nat) (l : List Int) : Belss n (ints l) := belss_map _ n (fun x => by simp [Bels, Bel]) l
theorem ones_map {α : Type} (f : α → List IV) (hf : ∀ x, (f x).all oneI = true) (l : List α) : ZT (l.map f) = true := by
  simp only [ZT, List.all_map, List.all_eq_true]; intro x _; exact hf x
structure Zone where
  region : Int
  deriving DecidableEq
def Zone.c (x : Zone) : List IV := [.n x.region]
abbrev Zone.v (x : Zone) : IV := .agg x.c
@[simp] theorem Zone.ones (x : Zone) : x.c.all oneI = true := by simp [Zone.c, oneI]
@[simp] theorem Zone.ld_region (x : Zone) : ldI (some false) (some 1) x.c = some (.n x.region) := Zc rfl
@[simp] theorem Zone.bel (n : Nat) (x : Zone) : Bels n x.c := by simp [Zone.c, Bels, Bel]
@[simp] theorem Zone.bels (n : Nat) (l : List Zone) : Belss n (l.map Zone.c) := belss_map _ n (fun x => x.bel n) l
structure CellC where
  zone : Int
  capacity : Int
  deriving DecidableEq
def CellC.c (x : CellC) : List IV := [.n x.zone, .n x.capacity]
abbrev CellC.v (x : CellC) : IV := .agg x.c
@[simp] theorem CellC.ld (x : CellC) : ldI (some true) (some 2) x.c = some x.v := Zc rfl
@[simp] theorem CellC.len (x : CellC) : x.c.length = 2 := Zc rfl
@[simp] theorem CellC.ones (x : CellC) : x.c.all oneI = true := by simp [CellC.c, oneI]
@[simp] theorem CellC.ld_zone (x : CellC) : ldI (some false) (some 1) x.c = some (.n x.zone) := Zc rfl
@[simp] theorem CellC.ld_capacity (x : CellC) : ldI (some false) (some 1) x.c.tail = some (.n x.capacity) := Zc rfl
@[simp] theorem CellC.bel (n : Nat) (x : CellC) : Bels n x.c := by simp [CellC.c, Bels, Bel]
@[simp] theorem CellC.bels (n : Nat) (l : List CellC) : Belss n (l.map CellC.c) := belss_map _ n (fun x => x.bel n) l
structure Tenant where
  load : Int
  shadow : Int
  priority : Int
  lag : Int
  allowed : Int
  group : Int
  noisy : Bool
  deriving DecidableEq
def Tenant.c (x : Tenant) : List IV := [.n x.load, .n x.shadow, .n x.priority, .n x.lag, .n x.allowed, .n x.group, .bool x.noisy]
abbrev Tenant.v (x : Tenant) : IV := .agg x.c
@[simp] theorem Tenant.ld (x : Tenant) : ldI (some true) (some 7) x.c = some x.v := Zc rfl
@[simp] theorem Tenant.len (x : Tenant) : x.c.length = 7 := Zc rfl
@[simp] theorem Tenant.ones (x : Tenant) : x.c.all oneI = true := by simp [Tenant.c, oneI]
@[simp] theorem Tenant.ld_load (x : Tenant) : ldI (some false) (some 1) x.c = some (.n x.load) := Zc rfl
@[simp] theorem Tenant.ld_shadow (x : Tenant) : ldI (some false) (some 1) x.c.tail = some (.n x.shadow) := Zc rfl
@[simp] theorem Tenant.ld_allowed (x : Tenant) : ldI (some false) (some 1) (x.c.drop 4) = some (.n x.allowed) := Zc rfl
@[simp] theorem Tenant.bel (n : Nat) (x : Tenant) : Bels n x.c := by simp [Tenant.c, Bels, Bel]
@[simp] theorem Tenant.bels (n : Nat) (l : List Tenant) : Belss n (l.map Tenant.c) := belss_map _ n (fun x => x.bel n) l
structure Version where
  low : Int
  high : Int
  deriving DecidableEq
def Version.c (x : Version) : List IV := [.n x.low, .n x.high]
abbrev Version.v (x : Version) : IV := .agg x.c
@[simp] theorem Version.ld (x : Version) : ldI (some true) (some 2) x.c = some x.v := Zc rfl
@[simp] theorem Version.len (x : Version) : x.c.length = 2 := Zc rfl
@[simp] theorem Version.ones (x : Version) : x.c.all oneI = true := by simp [Version.c, oneI]
@[simp] theorem Version.ld_low (x : Version) : ldI (some false) (some 1) x.c = some (.n x.low) := Zc rfl
@[simp] theorem Version.ld_high (x : Version) : ldI (some false) (some 1) x.c.tail = some (.n x.high) := Zc rfl
@[simp] theorem Version.bel (n : Nat) (x : Version) : Bels n x.c := by simp [Version.c, Bels, Bel]
@[simp] theorem Version.bels (n : Nat) (l : List Version) : Belss n (l.map Version.c) := belss_map _ n (fun x => x.bel n) l
structure Config where
  regions : Int
  zones : List Zone
  cells : List CellC
  tenants : List Tenant
  versions : List Version
  replicas : List Int
  observers : List Int
  blast : Int
  lease : Int
  bake : Int
def Config.c (x : Config) : List IV := [.n x.regions, .vs 1 (x.zones.map Zone.c), .vs 2 (x.cells.map CellC.c), .vs 7 (x.tenants.map Tenant.c), .vs 2 (x.versions.map Version.c), .vs 1 (ints x.replicas), .vs 1 (ints x.observers), .n x.blast, .n x.lease, .n x.bake]
abbrev Config.v (x : Config) : IV := .agg x.c
@[simp] theorem Config.ld (x : Config) : ldI (some true) (some 10) x.c = some x.v := Zc rfl
@[simp] theorem Config.len (x : Config) : x.c.length = 10 := Zc rfl
@[simp] theorem Config.ones (x : Config) : x.c.all oneI = true := by simp [Config.c, oneI]
@[simp] theorem Config.ld_regions (x : Config) : ldI (some false) (some 1) x.c = some (.n x.regions) := Zc rfl
@[simp] theorem Config.ld_zones (x : Config) : ldI (some false) (some 1) x.c.tail = some (.vs 1 (x.zones.map Zone.c)) := Zc rfl
@[simp] theorem Config.ld_cells (x : Config) : ldI (some false) (some 1) (x.c.drop 2) = some (.vs 2 (x.cells.map CellC.c)) := Zc rfl
@[simp] theorem Config.ld_tenants (x : Config) : ldI (some false) (some 1) (x.c.drop 3) = some (.vs 7 (x.tenants.map Tenant.c)) := Zc rfl
@[simp] theorem Config.ld_versions (x : Config) : ldI (some false) (some 1) (x.c.drop 4) = some (.vs 2 (x.versions.map Version.c)) := Zc rfl
@[simp] theorem Config.ld_blast (x : Config) : ldI (some false) (some 1) (x.c.drop 7) = some (.n x.blast) := Zc rfl
@[simp] theorem Config.ld_lease (x : Config) : ldI (some false) (some 1) (x.c.drop 8) = some (.n x.lease) := Zc rfl
@[simp] theorem Config.ld_bake (x : Config) : ldI (some false) (some 1) (x.c.drop 9) = some (.n x.bake) := Zc rfl
@[simp] theorem Config.bel (n : Nat) (x : Config) : Bels n x.c := by simp [Config.c, Bels, Bel]
structure Entry where
  kind : Int
  tick : Int
  tenant : Int
  cell : Int
  other : Int
  epoch : Int
  start : Int
  till : Int
  num : Int
  deriving DecidableEq
def Entry.c (x : Entry) : List IV := [.n x.kind, .n x.tick, .n x.tenant, .n x.cell, .n x.other, .n x.epoch, .n x.start, .n x.till, .n x.num]
abbrev Entry.v (x : Entry) : IV := .agg x.c
@[simp] theorem Entry.ld (x : Entry) : ldI (some true) (some 9) x.c = some x.v := Zc rfl
@[simp] theorem Entry.len (x : Entry) : x.c.length = 9 := Zc rfl
@[simp] theorem Entry.ones (x : Entry) : x.c.all oneI = true := by simp [Entry.c, oneI]
@[simp] theorem Entry.ld_kind (x : Entry) : ldI (some false) (some 1) x.c = some (.n x.kind) := Zc rfl
@[simp] theorem Entry.st_kind (x : Entry) (y : Int) : splice 0 [.n y] x.c = Entry.c { x with kind := y } := Zc rfl
@[simp] theorem Entry.ld_tick (x : Entry) : ldI (some false) (some 1) x.c.tail = some (.n x.tick) := Zc rfl
@[simp] theorem Entry.ld_tenant (x : Entry) : ldI (some false) (some 1) (x.c.drop 2) = some (.n x.tenant) := Zc rfl
@[simp] theorem Entry.st_tenant (x : Entry) (y : Int) : splice 2 [.n y] x.c = Entry.c { x with tenant := y } := Zc rfl
@[simp] theorem Entry.ld_cell (x : Entry) : ldI (some false) (some 1) (x.c.drop 3) = some (.n x.cell) := Zc rfl
@[simp] theorem Entry.st_cell (x : Entry) (y : Int) : splice 3 [.n y] x.c = Entry.c { x with cell := y } := Zc rfl
@[simp] theorem Entry.ld_other (x : Entry) : ldI (some false) (some 1) (x.c.drop 4) = some (.n x.other) := Zc rfl
@[simp] theorem Entry.st_other (x : Entry) (y : Int) : splice 4 [.n y] x.c = Entry.c { x with other := y } := Zc rfl
@[simp] theorem Entry.ld_epoch (x : Entry) : ldI (some false) (some 1) (x.c.drop 5) = some (.n x.epoch) := Zc rfl
@[simp] theorem Entry.ld_start (x : Entry) : ldI (some false) (some 1) (x.c.drop 6) = some (.n x.start) := Zc rfl
@[simp] theorem Entry.st_start (x : Entry) (y : Int) : splice 6 [.n y] x.c = Entry.c { x with start := y } := Zc rfl
@[simp] theorem Entry.ld_till (x : Entry) : ldI (some false) (some 1) (x.c.drop 7) = some (.n x.till) := Zc rfl
@[simp] theorem Entry.st_till (x : Entry) (y : Int) : splice 7 [.n y] x.c = Entry.c { x with till := y } := Zc rfl
@[simp] theorem Entry.ld_num (x : Entry) : ldI (some false) (some 1) (x.c.drop 8) = some (.n x.num) := Zc rfl
@[simp] theorem Entry.st_num (x : Entry) (y : Int) : splice 8 [.n y] x.c = Entry.c { x with num := y } := Zc rfl
@[simp] theorem Entry.bel (n : Nat) (x : Entry) : Bels n x.c := by simp [Entry.c, Bels, Bel]
@[simp] theorem Entry.bels (n : Nat) (l : List Entry) : Belss n (l.map Entry.c) := belss_map _ n (fun x => x.bel n) l
structure Window where
  cell : Int
  epoch : Int
  version : Int
  start : Int
  till : Int
  deriving DecidableEq
def Window.c (x : Window) : List IV := [.n x.cell, .n x.epoch, .n x.version, .n x.start, .n x.till]
abbrev Window.v (x : Window) : IV := .agg x.c
@[simp] theorem Window.ld (x : Window) : ldI (some true) (some 5) x.c = some x.v := Zc rfl
@[simp] theorem Window.len (x : Window) : x.c.length = 5 := Zc rfl
@[simp] theorem Window.ones (x : Window) : x.c.all oneI = true := by simp [Window.c, oneI]
@[simp] theorem Window.ld_cell (x : Window) : ldI (some false) (some 1) x.c = some (.n x.cell) := Zc rfl
@[simp] theorem Window.ld_start (x : Window) : ldI (some false) (some 1) (x.c.drop 3) = some (.n x.start) := Zc rfl
@[simp] theorem Window.st_start (x : Window) (y : Int) : splice 3 [.n y] x.c = Window.c { x with start := y } := Zc rfl
@[simp] theorem Window.ld_till (x : Window) : ldI (some false) (some 1) (x.c.drop 4) = some (.n x.till) := Zc rfl
@[simp] theorem Window.st_till (x : Window) (y : Int) : splice 4 [.n y] x.c = Window.c { x with till := y } := Zc rfl
@[simp] theorem Window.bel (n : Nat) (x : Window) : Bels n x.c := by simp [Window.c, Bels, Bel]
structure TState where
  placed : Bool
  shed : Bool
  home : Int
  standby : Int
  next : Int
  target : Int
  epoch : Int
  window : Window
  deriving DecidableEq
def TState.c (x : TState) : List IV := [.bool x.placed, .bool x.shed, .n x.home, .n x.standby, .n x.next, .n x.target, .n x.epoch, .n x.window.cell, .n x.window.epoch, .n x.window.version, .n x.window.start, .n x.window.till]
abbrev TState.v (x : TState) : IV := .agg x.c
@[simp] theorem TState.ld (x : TState) : ldI (some true) (some 12) x.c = some x.v := Zc rfl
@[simp] theorem TState.len (x : TState) : x.c.length = 12 := Zc rfl
@[simp] theorem TState.ones (x : TState) : x.c.all oneI = true := by simp [TState.c, oneI]
@[simp] theorem TState.ld_placed (x : TState) : ldI (some false) (some 1) x.c = some (.bool x.placed) := Zc rfl
@[simp] theorem TState.st_placed (x : TState) (y : Bool) : splice 0 [.bool y] x.c = TState.c { x with placed := y } := Zc rfl
@[simp] theorem TState.ld_shed (x : TState) : ldI (some false) (some 1) x.c.tail = some (.bool x.shed) := Zc rfl
@[simp] theorem TState.st_shed (x : TState) (y : Bool) : splice 1 [.bool y] x.c = TState.c { x with shed := y } := Zc rfl
@[simp] theorem TState.ld_home (x : TState) : ldI (some false) (some 1) (x.c.drop 2) = some (.n x.home) := Zc rfl
@[simp] theorem TState.st_home (x : TState) (y : Int) : splice 2 [.n y] x.c = TState.c { x with home := y } := Zc rfl
@[simp] theorem TState.ld_standby (x : TState) : ldI (some false) (some 1) (x.c.drop 3) = some (.n x.standby) := Zc rfl
@[simp] theorem TState.st_standby (x : TState) (y : Int) : splice 3 [.n y] x.c = TState.c { x with standby := y } := Zc rfl
@[simp] theorem TState.ld_next (x : TState) : ldI (some false) (some 1) (x.c.drop 4) = some (.n x.next) := Zc rfl
@[simp] theorem TState.st_next (x : TState) (y : Int) : splice 4 [.n y] x.c = TState.c { x with next := y } := Zc rfl
@[simp] theorem TState.ld_target (x : TState) : ldI (some false) (some 1) (x.c.drop 5) = some (.n x.target) := Zc rfl
@[simp] theorem TState.st_target (x : TState) (y : Int) : splice 5 [.n y] x.c = TState.c { x with target := y } := Zc rfl
@[simp] theorem TState.ld_epoch (x : TState) : ldI (some false) (some 1) (x.c.drop 6) = some (.n x.epoch) := Zc rfl
@[simp] theorem TState.ld_window (x : TState) : ldI (some true) (some 5) (x.c.drop 7) = some (.agg x.window.c) := Zc rfl
@[simp] theorem TState.st_window (x : TState) (y : Window) : splice 7 y.c x.c = TState.c { x with window := y } := Zc rfl
@[simp] theorem TState.ld_window_cell (x : TState) : ldI (some false) (some 1) (x.c.drop 7) = some (.n x.window.cell) := Zc rfl
@[simp] theorem TState.ld_window_till (x : TState) : ldI (some false) (some 1) (x.c.drop 11) = some (.n x.window.till) := Zc rfl
@[simp] theorem TState.bel (n : Nat) (x : TState) : Bels n x.c := by simp [TState.c, Bels, Bel]
@[simp] theorem TState.bels (n : Nat) (l : List TState) : Belss n (l.map TState.c) := belss_map _ n (fun x => x.bel n) l
@[simp] theorem TState.oness (l : List TState) : ZT (l.map TState.c) = true := ones_map _ (fun x => x.ones) l
structure CState where
  mode : Int
  running : Int
  wanted : Int
  since : Int
  deriving DecidableEq
def CState.c (x : CState) : List IV := [.n x.mode, .n x.running, .n x.wanted, .n x.since]
abbrev CState.v (x : CState) : IV := .agg x.c
@[simp] theorem CState.ld (x : CState) : ldI (some true) (some 4) x.c = some x.v := Zc rfl
@[simp] theorem CState.len (x : CState) : x.c.length = 4 := Zc rfl
@[simp] theorem CState.ones (x : CState) : x.c.all oneI = true := by simp [CState.c, oneI]
@[simp] theorem CState.ld_mode (x : CState) : ldI (some false) (some 1) x.c = some (.n x.mode) := Zc rfl
@[simp] theorem CState.st_mode (x : CState) (y : Int) : splice 0 [.n y] x.c = CState.c { x with mode := y } := Zc rfl
@[simp] theorem CState.ld_running (x : CState) : ldI (some false) (some 1) x.c.tail = some (.n x.running) := Zc rfl
@[simp] theorem CState.st_running (x : CState) (y : Int) : splice 1 [.n y] x.c = CState.c { x with running := y } := Zc rfl
@[simp] theorem CState.ld_wanted (x : CState) : ldI (some false) (some 1) (x.c.drop 2) = some (.n x.wanted) := Zc rfl
@[simp] theorem CState.ld_since (x : CState) : ldI (some false) (some 1) (x.c.drop 3) = some (.n x.since) := Zc rfl
@[simp] theorem CState.bel (n : Nat) (x : CState) : Bels n x.c := by simp [CState.c, Bels, Bel]
@[simp] theorem CState.bels (n : Nat) (l : List CState) : Belss n (l.map CState.c) := belss_map _ n (fun x => x.bel n) l
@[simp] theorem CState.oness (l : List CState) : ZT (l.map CState.c) = true := ones_map _ (fun x => x.ones) l
structure State where
  tick : Int
  count : Int
  tenants : List TState
  cells : List CState
  proven : Int
  evacuating : Int
  low : Int
  high : Int
def State.c (x : State) : List IV := [.n x.tick, .n x.count, .vs 12 (x.tenants.map TState.c), .vs 4 (x.cells.map CState.c), .n x.proven, .n x.evacuating, .n x.low, .n x.high]
abbrev State.v (x : State) : IV := .agg x.c
@[simp] theorem State.ld (x : State) : ldI (some true) (some 8) x.c = some x.v := Zc rfl
@[simp] theorem State.len (x : State) : x.c.length = 8 := Zc rfl
@[simp] theorem State.ones (x : State) : x.c.all oneI = true := by simp [State.c, oneI]
@[simp] theorem State.ld_tick (x : State) : ldI (some false) (some 1) x.c = some (.n x.tick) := Zc rfl
@[simp] theorem State.ld_count (x : State) : ldI (some false) (some 1) x.c.tail = some (.n x.count) := Zc rfl
@[simp] theorem State.ld_tenants (x : State) : ldI (some false) (some 1) (x.c.drop 2) = some (.vs 12 (x.tenants.map TState.c)) := Zc rfl
@[simp] theorem State.ld_cells (x : State) : ldI (some false) (some 1) (x.c.drop 3) = some (.vs 4 (x.cells.map CState.c)) := Zc rfl
@[simp] theorem State.ld_proven (x : State) : ldI (some false) (some 1) (x.c.drop 4) = some (.n x.proven) := Zc rfl
@[simp] theorem State.ld_evacuating (x : State) : ldI (some false) (some 1) (x.c.drop 5) = some (.n x.evacuating) := Zc rfl
@[simp] theorem State.bel (n : Nat) (x : State) : Bels n x.c := by simp [State.c, Bels, Bel]
mutual
theorem bel_le {n m : Nat} (h : n ≤ m) : ∀ (r : IV), Bel n r → Bel m r
  | .any, _ => by simp [Bel]
  | .bool _, _ => by simp [Bel]
  | .int _ _, _ => by simp [Bel]
  | .str _, _ => by simp [Bel]
  | .nil, _ => by simp [Bel]
  | .snil, _ => by simp [Bel]
  | .ptr b _ _, k => by simp only [Bel] at k ⊢; omega
  | .sl b _ _, k => by simp only [Bel] at k ⊢; omega
  | .fptr cs, k => by simp only [Bel] at k ⊢; exact bels_le h cs k
  | .vs s es, k => by simp only [Bel] at k ⊢; exact belss_le h es k
  | .fn f cs, k => by simp only [Bel] at k ⊢; exact bels_le h cs k
  | .agg cs, k => by simp only [Bel] at k ⊢; exact bels_le h cs k
  | .tup cs, k => by simp only [Bel] at k ⊢; exact bels_le h cs k
theorem bels_le {n m : Nat} (h : n ≤ m) : ∀ (rs : List IV), Bels n rs → Bels m rs
  | [], _ => by simp [Bels]
  | r :: rs, k => by simp only [Bels] at k ⊢; exact ⟨bel_le h r k.1, bels_le h rs k.2⟩
theorem belss_le {n m : Nat} (h : n ≤ m) : ∀ (rs : List (List IV)), Belss n rs → Belss m rs
  | [], _ => by simp [Belss]
  | r :: rs, k => by simp only [Belss] at k ⊢; exact ⟨bels_le h r k.1, belss_le h rs k.2⟩
end
theorem Ret.val {Q : IV → Prop} {h0 h : Heap} {rs : List PT} {r : IV} (S : Own h0 rs h) (hb : Bel 0 r) (hq : Q r) : Ret Q h0 r h :=
  ⟨r, S.pre, Fz.refl h _ r hb, bel_le (Nat.zero_le _) r hb, hq⟩
theorem Ret.sl {Q : IV → Prop} {h0 h : Heap} {rs : List PT} {n e : Nat} {s : IV} {es : List (List IV)} {L : PT} (l : Sl n e s es L) (S : Own h0 (L :: rs) h) (hb : Belss 0 es) (hq : Q (.vs n es)) : Ret Q h0 s h :=
  ⟨.vs n es, S.pre, l.fz S (l.geB S) (Fzss.refl h _ es hb), belss_le (Nat.zero_le _) es hb, hq⟩
end Go.Ideal
namespace Go.Ideal
section
variable {P : Program} {h0 h : Heap} {rs : List PT} {r L : PT} {KH : KT} {KP : Heap → Prop} {n e t t2 t' : Nat} {s x v : IV} {es xs : List (List IV)} {z cs c : List IV} {by_ b i o : Nat}
theorem Sl.app1 (l : Sl n e s es L) (S : Own h0 (L :: rs) h) (ht : elO P t = some e) (hz : zrO P e = some z) (hs : szO P e = some n) (hb : byO P e = some by_)
    (hc : (decide (z.length = n) && decide (0 < n) && decide (by_ ≤ 65536) && decide (n ≤ 16777216)) = true) (hv : ZC v = some cs) (hn : cs.length = n) (ho : cs.all oneI = true) (hlen : es.length + 1 ≤ 1073741824)
    (k : ∀ s' L' h', Sl n e s' (es ++ [cs]) L' → Own h0 (L' :: rs) h' → KH s' h') : oA (ZA P t 1 [(0, v)] h) h fun w h2 => oA (ZJ P t t s w h2) h2 KH := by
  simp only [Bool.and_eq_true, decide_eq_true_eq] at hc
  have e1 : ZA P t 1 [(0, v)] h = some (.sl h.length 0 1, h ++ [some ⟨n, e, [cs]⟩]) := by
    unfold ZA
    simp only [ht, hz, hs]
    rw [if_pos (by omega)]
    have e2 : fillI (fun i => some (i * n, n)) (List.replicate 1 z).flatten [(0, v)] = some cs := by
      simp only [fillI, hv, hn, ho]
      simp [splice, hc.1.1.1, hn]
    rw [e2]
    simp [chunks, ← hn]
  rw [e1]
  simp only [oA_some]
  have S2 := S.push (some ⟨n, e, [cs]⟩)
  refine l.append S2.swap (x := .sl h.length 0 1) (xs := [cs]) ?_ ht ht hz hs hb (by simp [hc.1.1.1, hc.1.1.2, hc.1.2]) (by simp [ZT, ho]) (by simpa using hlen) ?_
  · simp [srcI]
  · intro s' L' h' l' S'
    exact k s' L' h' l' S'.swap.drop
theorem Own.lit0 (S : Own h0 rs h) (ht : elO P t = some e) (hz : zrO P e = some z) (hs : szO P e = some n) (hc : (decide (z.length = n) && decide (0 < n)) = true)
    (k : ∀ s L h', Sl n e s [] L → Own h0 (L :: rs) h' → KH s h') : oA (ZA P t 0 [] h) h KH := by
  simp only [Bool.and_eq_true, decide_eq_true_eq] at hc
  have e1 : ZA P t 0 [] h = some (.sl h.length 0 0, h ++ [some ⟨n, e, []⟩]) := by
    unfold ZA
    simp only [ht, hz, hs]
    rw [if_pos (by omega)]
    simp [fillI, chunks]
  rw [e1]
  simp only [oA_some]
  exact k _ _ _ (Sl.mk n e h.length []) (S.push _)
theorem Own.made {k1 k2 : IntKind} {m : Int} (S : Own h0 rs h) (ht : elO P t = some e) (hz : zrO P e = some z) (hs : szO P e = some n) (hb : byO P e = some by_) (hm0 : 0 ≤ m) (hm : m ≤ 65536)
    (hc : (decide (z.length = n) && decide (0 < n) && decide (by_ ≤ 65536)) = true)
    (k : ∀ s L h', Sl n e s (List.replicate m.toNat z) L → Own h0 (L :: rs) h' → KH s h') : oA (Z12 P t (.int k1 m) (.int k2 m) h) h KH := by
  simp only [Bool.and_eq_true, decide_eq_true_eq] at hc
  unfold Z12
  simp only [ht, hz, hs, hb]
  rw [if_pos (by omega)]
  simp only [oA_some]
  have := S.push (some ⟨n, e, List.replicate m.toNat z⟩)
  refine k _ _ _ ?_ this
  have e1 := Sl.mk n e h.length (List.replicate m.toNat z)
  rw [List.length_replicate] at e1
  exact e1
theorem Sl.at_ (l : Sl n e s es L) (hc : es[i]? = some c) : ∃ b, s = .sl b 0 es.length ∧ L = [(b, some ⟨n, e, es⟩)] ∧ i < es.length := by
  have hi := (List.getElem?_eq_some_iff.1 hc).1
  rcases l with ⟨rfl, rfl, rfl⟩ | ⟨b, rfl, rfl⟩
  · simp at hi
  · exact ⟨b, rfl, rfl, hi⟩
theorem Own.storeE {new : List IV} (S : Own h0 (((b, some ⟨n, e, es⟩) :: r) :: rs) h) (hc : es[i]? = some c) (hx : ZC x = some new) (hs : szO P t = some new.length) (hl : o + new.length ≤ c.length) (ho : new.all oneI = true)
    (k : ∀ h', Own h0 (((b, some ⟨n, e, es.set i (splice o new c)⟩) :: r) :: rs) h' → KP h') : oS (Z9 P t (.ptr b i o) x h) h KP := by
  have hb := S.at0
  simp only [Z9, hx, hs, hb, hc]
  rw [if_pos (by simp [ho]; exact hl)]
  simp only [oS_some]
  exact k _ (S.set _)
end
end Go.Ideal
namespace Go.Ideal
section
variable {P : Program} {h0 h : Heap} {rs : List PT} {r L M : PT} {KH : KT} {KP : Heap → Prop} {n T t b o : Nat} {x : IV} {cs new : List IV} {p : Nat × Option Blk}
theorem sub_flat {l m : List PT} (h : l.Sublist m) : l.flatten.Sublist m.flatten := by
  induction h with
  | slnil => exact List.Sublist.refl _
  | cons a _ ih => rw [List.flatten_cons]; exact ih.trans (List.sublist_append_right _ _)
  | cons_cons a _ ih => rw [List.flatten_cons, List.flatten_cons]; exact List.Sublist.append (List.Sublist.refl _) ih
theorem Own.del (S : Own h0 rs h) (i : Nat) : Own h0 (rs.eraseIdx i) h := S.sub (sub_flat (List.eraseIdx_sublist rs i))
theorem Own.cons1 (S : Own h0 ((p :: L) :: rs) h) : Own h0 ([p] :: L :: rs) h := S.perm (by simp)
theorem Own.uncons (S : Own h0 ([p] :: L :: rs) h) : Own h0 ((p :: L) :: rs) h := S.perm (by simp)
theorem Own.put (S : Own h0 (((b, some ⟨n, T, [cs]⟩) :: r) :: rs) h) (hx : ZC x = some new) (hs : szO P t = some new.length) (hl : new.length = cs.length) (ho : new.all oneI = true)
    (k : ∀ h', Own h0 (((b, some ⟨n, T, [new]⟩) :: r) :: rs) h' → KP h') : oS (Z9 P t (.ptr b 0 0) x h) h KP := by
  refine S.store hx hs (by omega) ho fun h' S' => ?_
  have : splice 0 new cs = new := by simp [splice, hl]
  rw [this] at S'
  exact k h' S'
end
end Go.Ideal
namespace Go.Ideal
section
variable {h0 h : Heap} {rs : List PT} {a b x y : Option Blk}
theorem Own.push2 (S : Own h0 rs h) (x y : Option Blk) : Own h0 ([(h.length, x)] :: [(h.length + 1, y)] :: rs) (h ++ [x, y]) := by
  have := (S.push x).push y
  simp only [List.length_append, List.length_cons, List.length_nil, List.append_assoc, List.cons_append, List.nil_append] at this
  exact this.swap
end
end Go.Ideal
namespace Go.Ideal
section
variable {P : Program} {x y z : IV} {h : Heap} {KH : KT} {t t2 : TypeId} {a b c d : Bool}
@[simp] theorem pick_or2 : Ze (.bool (a || b)) (.bool true) (gv (!a && !b) (.bool c)) h = some (.bool (a || b || c), h) := by cases a <;> cases b <;> rfl
@[simp] theorem retK_c1 : Zd P [.c x t] h KH = oD (Z1 P t x h) h fun r => KH r h := by
  unfold Zd resV
  cases Z1 P t x h <;> rfl
@[simp] theorem retK_cv1 : Zd P [.c x t, .v y] h KH = oD (Z1 P t x h) h fun r => KH (.tup [r, y]) h := by
  unfold Zd resV
  cases Z1 P t x h <;> rfl
@[simp] theorem retK_cvv1 : Zd P [.c x t, .v y, .v z] h KH = oD (Z1 P t x h) h fun r => KH (.tup [r, y, z]) h := by
  unfold Zd resV
  cases Z1 P t x h <;> rfl
@[simp] theorem retK_cc1 : Zd P [.c x t, .c y t2] h KH = oD (Z1 P t x h) h fun r => oD (Z1 P t2 y h) h fun q => KH (.tup [r, q]) h := by
  unfold Zd resV resV
  cases Z1 P t x h <;> cases Z1 P t2 y h <;> rfl
@[simp high] theorem ext_0 {l : List IV} : Zg (.tup (x :: l)) 0 = some x := Zc rfl
@[simp high] theorem ext_1 {l : List IV} : Zg (.tup (x :: y :: l)) 1 = some y := Zc rfl
@[simp high] theorem ext_2 {l : List IV} : Zg (.tup (x :: y :: z :: l)) 2 = some z := Zc rfl
end
end Go.Ideal
namespace Go.Ideal
open Go.Proofs
set_option maxRecDepth 100000
@[simp] theorem Z49 : szO PP Z0 = some 1 := Zc (by kernel_rfl)
@[simp] theorem ag_t_int : agO PP Z0 = some false := Zc (by kernel_rfl)
@[simp] theorem Z4a : zrO PP Z0 = some [.int .i64 0] := Zc (by kernel_rfl)
@[simp] theorem in_t_int : inO PP Z0 = some .i64 := Zc (by kernel_rfl)
@[simp] theorem sz_t_bool : szO PP Zy = some 1 := Zc (by kernel_rfl)
@[simp] theorem ag_t_bool : agO PP Zy = some false := Zc (by kernel_rfl)
@[simp] theorem zr_t_bool : zrO PP Zy = some [.bool false] := Zc (by kernel_rfl)
@[simp] theorem Z4b : knO PP Zy = .bo := Zc (by kernel_rfl)
@[simp] theorem sz_t_string : szO PP Z1n = some 1 := Zc (by kernel_rfl)
@[simp] theorem ag_t_string : agO PP Z1n = some false := Zc (by kernel_rfl)
@[simp] theorem Z4Q : strO PP Z1n = true := Zc (by kernel_rfl)
@[simp] theorem sz_t_s_int : szO PP Zk = some 1 := Zc (by kernel_rfl)
@[simp] theorem ag_t_s_int : agO PP Zk = some false := Zc (by kernel_rfl)
@[simp] theorem ln_t_s_int (s : Nat) (es : List (List IV)) : lenI PP Zk (.vs s es) = some (.int .i64 es.length) := len_v (by kernel_rfl : elO PP Zk = some Z0)
@[simp] theorem ls_t_s_int (b lo len : Nat) : lenI PP Zk (.sl b lo len) = some (.int .i64 len) := len_s (by kernel_rfl : elO PP Zk = some Z0)
theorem Z1y {h : Heap} {k : IntKind} {i : Int} {es : List (List IV)} {e : List IV} (h0 : 0 ≤ i) (he : es[i.toNat]? = some e) : Zf PP Zk (.vs 1 es) (.int k i) h = some (.fptr e) := ix_v (by kernel_rfl : elO PP Zk = some Z0) (by kernel_rfl) h0 he
theorem Z5h {h : Heap} {k : IntKind} {i : Int} {b lo len T : Nat} {es : List (List IV)} (h0 : 0 ≤ i) (h1 : i < len) (hb : h[b]? = some (some ⟨1, T, es⟩)) : Zf PP Zk (.sl b lo len) (.int k i) h = some (.ptr b (lo + i.toNat) 0) := ix_s (by kernel_rfl : elO PP Zk = some Z0) (by kernel_rfl) h0 h1 hb
theorem Z4R {h0 h : Heap} {rs : List PT} {s x : IV} {es xs : List (List IV)} {L : PT} {KH : KT} (l : Sl 1 Z0 s es L) (S : Own h0 (L :: rs) h) (hx : srcI h 1 x = some xs) (ho : ZT xs = true) (hlen : es.length + xs.length ≤ 1073741824) (k : ∀ s' L' h', Sl 1 Z0 s' (es ++ xs) L' → Own h0 (L' :: rs) h' → KH s' h') : oA (ZJ PP Zk Zk s x h) h KH :=
  l.append S hx (by kernel_rfl : elO PP Zk = some Z0) (by kernel_rfl : elO PP Zk = some Z0) (by kernel_rfl : zrO PP Z0 = some [.int .i64 0]) (by kernel_rfl) (by kernel_rfl : byO PP Z0 = some 8) rfl ho hlen k
theorem Z3b {h0 h : Heap} {rs : List PT} {s v : IV} {es : List (List IV)} {cs : List IV} {L : PT} {KH : KT} (l : Sl 1 Z0 s es L) (S : Own h0 (L :: rs) h) (hv : ZC v = some cs) (hn : cs.length = 1) (ho : cs.all oneI = true) (hlen : es.length + 1 ≤ 1073741824) (k : ∀ s' L' h', Sl 1 Z0 s' (es ++ [cs]) L' → Own h0 (L' :: rs) h' → KH s' h') : oA (ZA PP Zk 1 [(0, v)] h) h fun w h2 => oA (ZJ PP Zk Zk s w h2) h2 KH :=
  l.app1 S (by kernel_rfl : elO PP Zk = some Z0) (by kernel_rfl : zrO PP Z0 = some [.int .i64 0]) (by kernel_rfl) (by kernel_rfl : byO PP Z0 = some 8) rfl hv hn ho hlen k
theorem Z3c {h0 h : Heap} {rs : List PT} {KH : KT} {m : Int} (S : Own h0 rs h) (hm0 : 0 ≤ m) (hm : m ≤ 65536) (k : ∀ s L h', Sl 1 Z0 s (List.replicate m.toNat [.int .i64 0]) L → Own h0 (L :: rs) h' → KH s h') : oA (Z12 PP Zk (.int .i64 m) (.int .i64 m) h) h KH := S.made (by kernel_rfl : elO PP Zk = some Z0) (by kernel_rfl) (by kernel_rfl) (by kernel_rfl : byO PP Z0 = some 8) hm0 hm rfl k
@[simp] theorem Z1K : elO PP Zk = some Z0 := Zc (by kernel_rfl)
@[simp] theorem Z6m : szO PP Zh = some 1 := Zc (by kernel_rfl)
@[simp] theorem Z6n : agO PP Zh = some false := Zc (by kernel_rfl)
@[simp] theorem Z5i (s : Nat) (es : List (List IV)) : lenI PP Zh (.vs s es) = some (.int .i64 es.length) := len_v (by kernel_rfl : elO PP Zh = some Za)
@[simp] theorem Z6o (b lo len : Nat) : lenI PP Zh (.sl b lo len) = some (.int .i64 len) := len_s (by kernel_rfl : elO PP Zh = some Za)
theorem Z2m {h : Heap} {k : IntKind} {i : Int} {es : List (List IV)} {e : List IV} (h0 : 0 ≤ i) (he : es[i.toNat]? = some e) : Zf PP Zh (.vs 12 es) (.int k i) h = some (.fptr e) := ix_v (by kernel_rfl : elO PP Zh = some Za) (by kernel_rfl) h0 he
theorem Z1C {h : Heap} {k : IntKind} {i : Int} {b lo len T : Nat} {es : List (List IV)} (h0 : 0 ≤ i) (h1 : i < len) (hb : h[b]? = some (some ⟨12, T, es⟩)) : Zf PP Zh (.sl b lo len) (.int k i) h = some (.ptr b (lo + i.toNat) 0) := ix_s (by kernel_rfl : elO PP Zh = some Za) (by kernel_rfl) h0 h1 hb
theorem Z4S {h0 h : Heap} {rs : List PT} {s x : IV} {es xs : List (List IV)} {L : PT} {KH : KT} (l : Sl 12 Za s es L) (S : Own h0 (L :: rs) h) (hx : srcI h 12 x = some xs) (ho : ZT xs = true) (hlen : es.length + xs.length ≤ 1073741824) (k : ∀ s' L' h', Sl 12 Za s' (es ++ xs) L' → Own h0 (L' :: rs) h' → KH s' h') : oA (ZJ PP Zh Zh s x h) h KH :=
  l.append S hx (by kernel_rfl : elO PP Zh = some Za) (by kernel_rfl : elO PP Zh = some Za) (by kernel_rfl : zrO PP Za = some [.bool false, .bool false, .int .i64 0, .int .i64 0, .int .i64 0, .int .i64 0, .int .i64 0, .int .i64 0, .int .i64 0, .int .i64 0, .int .i64 0, .int .i64 0]) (by kernel_rfl) (by kernel_rfl : byO PP Za = some 88) rfl ho hlen k
theorem Z5j {h0 h : Heap} {rs : List PT} {s v : IV} {es : List (List IV)} {cs : List IV} {L : PT} {KH : KT} (l : Sl 12 Za s es L) (S : Own h0 (L :: rs) h) (hv : ZC v = some cs) (hn : cs.length = 12) (ho : cs.all oneI = true) (hlen : es.length + 1 ≤ 1073741824) (k : ∀ s' L' h', Sl 12 Za s' (es ++ [cs]) L' → Own h0 (L' :: rs) h' → KH s' h') : oA (ZA PP Zh 1 [(0, v)] h) h fun w h2 => oA (ZJ PP Zh Zh s w h2) h2 KH :=
  l.app1 S (by kernel_rfl : elO PP Zh = some Za) (by kernel_rfl : zrO PP Za = some [.bool false, .bool false, .int .i64 0, .int .i64 0, .int .i64 0, .int .i64 0, .int .i64 0, .int .i64 0, .int .i64 0, .int .i64 0, .int .i64 0, .int .i64 0]) (by kernel_rfl) (by kernel_rfl : byO PP Za = some 88) rfl hv hn ho hlen k
theorem Z5k {h0 h : Heap} {rs : List PT} {KH : KT} (S : Own h0 rs h) (k : ∀ s L h', Sl 12 Za s [] L → Own h0 (L :: rs) h' → KH s h') : oA (ZA PP Zh 0 [] h) h KH := S.lit0 (by kernel_rfl) (by kernel_rfl : zrO PP Za = some [.bool false, .bool false, .int .i64 0, .int .i64 0, .int .i64 0, .int .i64 0, .int .i64 0, .int .i64 0, .int .i64 0, .int .i64 0, .int .i64 0, .int .i64 0]) (by kernel_rfl) rfl k
theorem Z5l {h0 h : Heap} {rs : List PT} {KH : KT} {m : Int} (S : Own h0 rs h) (hm0 : 0 ≤ m) (hm : m ≤ 65536) (k : ∀ s L h', Sl 12 Za s (List.replicate m.toNat [.bool false, .bool false, .int .i64 0, .int .i64 0, .int .i64 0, .int .i64 0, .int .i64 0, .int .i64 0, .int .i64 0, .int .i64 0, .int .i64 0, .int .i64 0]) L → Own h0 (L :: rs) h' → KH s h') : oA (Z12 PP Zh (.int .i64 m) (.int .i64 m) h) h KH := S.made (by kernel_rfl : elO PP Zh = some Za) (by kernel_rfl) (by kernel_rfl) (by kernel_rfl : byO PP Za = some 88) hm0 hm rfl k
@[simp] theorem Z29 : elO PP Zh = some Za := Zc (by kernel_rfl)
@[simp] theorem Z6p : szO PP Zl = some 1 := Zc (by kernel_rfl)
@[simp] theorem Z6q : agO PP Zl = some false := Zc (by kernel_rfl)
@[simp] theorem Z6r (s : Nat) (es : List (List IV)) : lenI PP Zl (.vs s es) = some (.int .i64 es.length) := len_v (by kernel_rfl : elO PP Zl = some Zj)
@[simp] theorem Z6s (b lo len : Nat) : lenI PP Zl (.sl b lo len) = some (.int .i64 len) := len_s (by kernel_rfl : elO PP Zl = some Zj)
theorem Z3d {h : Heap} {k : IntKind} {i : Int} {es : List (List IV)} {e : List IV} (h0 : 0 ≤ i) (he : es[i.toNat]? = some e) : Zf PP Zl (.vs 4 es) (.int k i) h = some (.fptr e) := ix_v (by kernel_rfl : elO PP Zl = some Zj) (by kernel_rfl) h0 he
theorem Z1a {h : Heap} {k : IntKind} {i : Int} {b lo len T : Nat} {es : List (List IV)} (h0 : 0 ≤ i) (h1 : i < len) (hb : h[b]? = some (some ⟨4, T, es⟩)) : Zf PP Zl (.sl b lo len) (.int k i) h = some (.ptr b (lo + i.toNat) 0) := ix_s (by kernel_rfl : elO PP Zl = some Zj) (by kernel_rfl) h0 h1 hb
theorem Z5m {h0 h : Heap} {rs : List PT} {s x : IV} {es xs : List (List IV)} {L : PT} {KH : KT} (l : Sl 4 Zj s es L) (S : Own h0 (L :: rs) h) (hx : srcI h 4 x = some xs) (ho : ZT xs = true) (hlen : es.length + xs.length ≤ 1073741824) (k : ∀ s' L' h', Sl 4 Zj s' (es ++ xs) L' → Own h0 (L' :: rs) h' → KH s' h') : oA (ZJ PP Zl Zl s x h) h KH :=
  l.append S hx (by kernel_rfl : elO PP Zl = some Zj) (by kernel_rfl : elO PP Zl = some Zj) (by kernel_rfl : zrO PP Zj = some [.int .i64 0, .int .i64 0, .int .i64 0, .int .i64 0]) (by kernel_rfl) (by kernel_rfl : byO PP Zj = some 32) rfl ho hlen k
theorem Z5n {h0 h : Heap} {rs : List PT} {s v : IV} {es : List (List IV)} {cs : List IV} {L : PT} {KH : KT} (l : Sl 4 Zj s es L) (S : Own h0 (L :: rs) h) (hv : ZC v = some cs) (hn : cs.length = 4) (ho : cs.all oneI = true) (hlen : es.length + 1 ≤ 1073741824) (k : ∀ s' L' h', Sl 4 Zj s' (es ++ [cs]) L' → Own h0 (L' :: rs) h' → KH s' h') : oA (ZA PP Zl 1 [(0, v)] h) h fun w h2 => oA (ZJ PP Zl Zl s w h2) h2 KH :=
  l.app1 S (by kernel_rfl : elO PP Zl = some Zj) (by kernel_rfl : zrO PP Zj = some [.int .i64 0, .int .i64 0, .int .i64 0, .int .i64 0]) (by kernel_rfl) (by kernel_rfl : byO PP Zj = some 32) rfl hv hn ho hlen k
theorem Z5o {h0 h : Heap} {rs : List PT} {KH : KT} (S : Own h0 rs h) (k : ∀ s L h', Sl 4 Zj s [] L → Own h0 (L :: rs) h' → KH s h') : oA (ZA PP Zl 0 [] h) h KH := S.lit0 (by kernel_rfl) (by kernel_rfl : zrO PP Zj = some [.int .i64 0, .int .i64 0, .int .i64 0, .int .i64 0]) (by kernel_rfl) rfl k
@[simp] theorem Z4T : elO PP Zl = some Zj := Zc (by kernel_rfl)
@[simp] theorem sz_t_s_api_Zone : szO PP ZK = some 1 := Zc (by kernel_rfl)
@[simp] theorem ag_t_s_api_Zone : agO PP ZK = some false := Zc (by kernel_rfl)
@[simp] theorem ln_t_s_api_Zone (s : Nat) (es : List (List IV)) : lenI PP ZK (.vs s es) = some (.int .i64 es.length) := len_v (by kernel_rfl : elO PP ZK = some ZR)
theorem Z4U {h : Heap} {k : IntKind} {i : Int} {es : List (List IV)} {e : List IV} (h0 : 0 ≤ i) (he : es[i.toNat]? = some e) : Zf PP ZK (.vs 1 es) (.int k i) h = some (.fptr e) := ix_v (by kernel_rfl : elO PP ZK = some ZR) (by kernel_rfl) h0 he
theorem Z5p {h0 h : Heap} {rs : List PT} {s x : IV} {es xs : List (List IV)} {L : PT} {KH : KT} (l : Sl 1 ZR s es L) (S : Own h0 (L :: rs) h) (hx : srcI h 1 x = some xs) (ho : ZT xs = true) (hlen : es.length + xs.length ≤ 1073741824) (k : ∀ s' L' h', Sl 1 ZR s' (es ++ xs) L' → Own h0 (L' :: rs) h' → KH s' h') : oA (ZJ PP ZK ZK s x h) h KH :=
  l.append S hx (by kernel_rfl : elO PP ZK = some ZR) (by kernel_rfl : elO PP ZK = some ZR) (by kernel_rfl : zrO PP ZR = some [.int .i64 0]) (by kernel_rfl) (by kernel_rfl : byO PP ZR = some 8) rfl ho hlen k
@[simp] theorem Z3e : elO PP ZK = some ZR := Zc (by kernel_rfl)
@[simp] theorem sz_t_s_api_Cell : szO PP Zn = some 1 := Zc (by kernel_rfl)
@[simp] theorem ag_t_s_api_Cell : agO PP Zn = some false := Zc (by kernel_rfl)
@[simp] theorem ln_t_s_api_Cell (s : Nat) (es : List (List IV)) : lenI PP Zn (.vs s es) = some (.int .i64 es.length) := len_v (by kernel_rfl : elO PP Zn = some Zz)
theorem Z1Z {h : Heap} {k : IntKind} {i : Int} {es : List (List IV)} {e : List IV} (h0 : 0 ≤ i) (he : es[i.toNat]? = some e) : Zf PP Zn (.vs 2 es) (.int k i) h = some (.fptr e) := ix_v (by kernel_rfl : elO PP Zn = some Zz) (by kernel_rfl) h0 he
theorem Z5q {h0 h : Heap} {rs : List PT} {s x : IV} {es xs : List (List IV)} {L : PT} {KH : KT} (l : Sl 2 Zz s es L) (S : Own h0 (L :: rs) h) (hx : srcI h 2 x = some xs) (ho : ZT xs = true) (hlen : es.length + xs.length ≤ 1073741824) (k : ∀ s' L' h', Sl 2 Zz s' (es ++ xs) L' → Own h0 (L' :: rs) h' → KH s' h') : oA (ZJ PP Zn Zn s x h) h KH :=
  l.append S hx (by kernel_rfl : elO PP Zn = some Zz) (by kernel_rfl : elO PP Zn = some Zz) (by kernel_rfl : zrO PP Zz = some [.int .i64 0, .int .i64 0]) (by kernel_rfl) (by kernel_rfl : byO PP Zz = some 16) rfl ho hlen k
@[simp] theorem Z5r : elO PP Zn = some Zz := Zc (by kernel_rfl)
@[simp] theorem Z6t : szO PP Zw = some 1 := Zc (by kernel_rfl)
@[simp] theorem Z6u : agO PP Zw = some false := Zc (by kernel_rfl)
@[simp] theorem Z6v (s : Nat) (es : List (List IV)) : lenI PP Zw (.vs s es) = some (.int .i64 es.length) := len_v (by kernel_rfl : elO PP Zw = some Zs)
theorem Z2I {h : Heap} {k : IntKind} {i : Int} {es : List (List IV)} {e : List IV} (h0 : 0 ≤ i) (he : es[i.toNat]? = some e) : Zf PP Zw (.vs 7 es) (.int k i) h = some (.fptr e) := ix_v (by kernel_rfl : elO PP Zw = some Zs) (by kernel_rfl) h0 he
theorem Z5s {h0 h : Heap} {rs : List PT} {s v : IV} {es : List (List IV)} {cs : List IV} {L : PT} {KH : KT} (l : Sl 7 Zs s es L) (S : Own h0 (L :: rs) h) (hv : ZC v = some cs) (hn : cs.length = 7) (ho : cs.all oneI = true) (hlen : es.length + 1 ≤ 1073741824) (k : ∀ s' L' h', Sl 7 Zs s' (es ++ [cs]) L' → Own h0 (L' :: rs) h' → KH s' h') : oA (ZA PP Zw 1 [(0, v)] h) h fun w h2 => oA (ZJ PP Zw Zw s w h2) h2 KH :=
  l.app1 S (by kernel_rfl : elO PP Zw = some Zs) (by kernel_rfl : zrO PP Zs = some [.int .i64 0, .int .i64 0, .int .i64 0, .int .i64 0, .int .i64 0, .int .i64 0, .bool false]) (by kernel_rfl) (by kernel_rfl : byO PP Zs = some 56) rfl hv hn ho hlen k
@[simp] theorem Z6w : szO PP ZI = some 1 := Zc (by kernel_rfl)
@[simp] theorem Z6x : agO PP ZI = some false := Zc (by kernel_rfl)
@[simp] theorem Z6y (s : Nat) (es : List (List IV)) : lenI PP ZI (.vs s es) = some (.int .i64 es.length) := len_v (by kernel_rfl : elO PP ZI = some ZD)
theorem Z4c {h : Heap} {k : IntKind} {i : Int} {es : List (List IV)} {e : List IV} (h0 : 0 ≤ i) (he : es[i.toNat]? = some e) : Zf PP ZI (.vs 2 es) (.int k i) h = some (.fptr e) := ix_v (by kernel_rfl : elO PP ZI = some ZD) (by kernel_rfl) h0 he
theorem Z5t {h0 h : Heap} {rs : List PT} {s x : IV} {es xs : List (List IV)} {L : PT} {KH : KT} (l : Sl 2 ZD s es L) (S : Own h0 (L :: rs) h) (hx : srcI h 2 x = some xs) (ho : ZT xs = true) (hlen : es.length + xs.length ≤ 1073741824) (k : ∀ s' L' h', Sl 2 ZD s' (es ++ xs) L' → Own h0 (L' :: rs) h' → KH s' h') : oA (ZJ PP ZI ZI s x h) h KH :=
  l.append S hx (by kernel_rfl : elO PP ZI = some ZD) (by kernel_rfl : elO PP ZI = some ZD) (by kernel_rfl : zrO PP ZD = some [.int .i64 0, .int .i64 0]) (by kernel_rfl) (by kernel_rfl : byO PP ZD = some 16) rfl ho hlen k
@[simp] theorem Z5u : elO PP ZI = some ZD := Zc (by kernel_rfl)
@[simp] theorem sz_t_api_Config : szO PP Z6 = some 10 := Zc (by kernel_rfl)
@[simp] theorem ag_t_api_Config : agO PP Z6 = some true := Zc (by kernel_rfl)
@[simp] theorem Z1t : zrO PP Z6 = some [.int .i64 0, .snil, .snil, .snil, .snil, .snil, .snil, .int .i64 0, .int .i64 0, .int .i64 0] := Zc (by kernel_rfl)
@[simp] theorem Z6z (b i o : Nat) : Z2 PP Z6 (.ptr b i o) 0 = some (.ptr b i (o + 0)) := fa_p (by kernel_rfl : fdO PP Z6 0 = some (0, 1, false)) rfl
@[simp] theorem Z6A (b i o : Nat) : Z2 PP Z6 (.ptr b i o) 1 = some (.ptr b i (o + 1)) := fa_p (by kernel_rfl : fdO PP Z6 1 = some (1, 1, false)) rfl
@[simp] theorem Z6B (b i o : Nat) : Z2 PP Z6 (.ptr b i o) 2 = some (.ptr b i (o + 2)) := fa_p (by kernel_rfl : fdO PP Z6 2 = some (2, 1, false)) rfl
@[simp] theorem Z6C (b i o : Nat) : Z2 PP Z6 (.ptr b i o) 3 = some (.ptr b i (o + 3)) := fa_p (by kernel_rfl : fdO PP Z6 3 = some (3, 1, false)) rfl
@[simp] theorem Z6D (b i o : Nat) : Z2 PP Z6 (.ptr b i o) 4 = some (.ptr b i (o + 4)) := fa_p (by kernel_rfl : fdO PP Z6 4 = some (4, 1, false)) rfl
@[simp] theorem Z6E (b i o : Nat) : Z2 PP Z6 (.ptr b i o) 5 = some (.ptr b i (o + 5)) := fa_p (by kernel_rfl : fdO PP Z6 5 = some (5, 1, false)) rfl
@[simp] theorem Z6F (b i o : Nat) : Z2 PP Z6 (.ptr b i o) 6 = some (.ptr b i (o + 6)) := fa_p (by kernel_rfl : fdO PP Z6 6 = some (6, 1, false)) rfl
@[simp] theorem Z6G (b i o : Nat) : Z2 PP Z6 (.ptr b i o) 7 = some (.ptr b i (o + 7)) := fa_p (by kernel_rfl : fdO PP Z6 7 = some (7, 1, false)) rfl
@[simp] theorem Z6H (b i o : Nat) : Z2 PP Z6 (.ptr b i o) 8 = some (.ptr b i (o + 8)) := fa_p (by kernel_rfl : fdO PP Z6 8 = some (8, 1, false)) rfl
@[simp] theorem Z6I (b i o : Nat) : Z2 PP Z6 (.ptr b i o) 9 = some (.ptr b i (o + 9)) := fa_p (by kernel_rfl : fdO PP Z6 9 = some (9, 1, false)) rfl
@[simp] theorem Z4V : flO PP Z6 = some [(0, 1), (1, 1), (2, 1), (3, 1), (4, 1), (5, 1), (6, 1), (7, 1), (8, 1), (9, 1)] := Zc (by kernel_rfl)
@[simp] theorem sz_t_api_State : szO PP Z3 = some 8 := Zc (by kernel_rfl)
@[simp] theorem ag_t_api_State : agO PP Z3 = some true := Zc (by kernel_rfl)
@[simp] theorem ZH : zrO PP Z3 = some [.int .i64 0, .int .i64 0, .snil, .snil, .int .i64 0, .int .i64 0, .int .i64 0, .int .i64 0] := Zc (by kernel_rfl)
@[simp] theorem Z6J (b i o : Nat) : Z2 PP Z3 (.ptr b i o) 0 = some (.ptr b i (o + 0)) := fa_p (by kernel_rfl : fdO PP Z3 0 = some (0, 1, false)) rfl
@[simp] theorem Z6K (b i o : Nat) : Z2 PP Z3 (.ptr b i o) 1 = some (.ptr b i (o + 1)) := fa_p (by kernel_rfl : fdO PP Z3 1 = some (1, 1, false)) rfl
@[simp] theorem Z6L (b i o : Nat) : Z2 PP Z3 (.ptr b i o) 2 = some (.ptr b i (o + 2)) := fa_p (by kernel_rfl : fdO PP Z3 2 = some (2, 1, false)) rfl
@[simp] theorem Z6M (b i o : Nat) : Z2 PP Z3 (.ptr b i o) 3 = some (.ptr b i (o + 3)) := fa_p (by kernel_rfl : fdO PP Z3 3 = some (3, 1, false)) rfl
@[simp] theorem Z6N (b i o : Nat) : Z2 PP Z3 (.ptr b i o) 4 = some (.ptr b i (o + 4)) := fa_p (by kernel_rfl : fdO PP Z3 4 = some (4, 1, false)) rfl
@[simp] theorem Z6O (b i o : Nat) : Z2 PP Z3 (.ptr b i o) 5 = some (.ptr b i (o + 5)) := fa_p (by kernel_rfl : fdO PP Z3 5 = some (5, 1, false)) rfl
@[simp] theorem Z6P (b i o : Nat) : Z2 PP Z3 (.ptr b i o) 6 = some (.ptr b i (o + 6)) := fa_p (by kernel_rfl : fdO PP Z3 6 = some (6, 1, false)) rfl
@[simp] theorem Z6Q (b i o : Nat) : Z2 PP Z3 (.ptr b i o) 7 = some (.ptr b i (o + 7)) := fa_p (by kernel_rfl : fdO PP Z3 7 = some (7, 1, false)) rfl
@[simp] theorem Z4W : flO PP Z3 = some [(0, 1), (1, 1), (2, 1), (3, 1), (4, 1), (5, 1), (6, 1), (7, 1)] := Zc (by kernel_rfl)
@[simp] theorem sz_t_api_Window : szO PP Zu = some 5 := Zc (by kernel_rfl)
@[simp] theorem ag_t_api_Window : agO PP Zu = some true := Zc (by kernel_rfl)
@[simp] theorem Z20 : zrO PP Zu = some [.int .i64 0, .int .i64 0, .int .i64 0, .int .i64 0, .int .i64 0] := Zc (by kernel_rfl)
@[simp] theorem Z6R (b i o : Nat) : Z2 PP Zu (.ptr b i o) 0 = some (.ptr b i (o + 0)) := fa_p (by kernel_rfl : fdO PP Zu 0 = some (0, 1, false)) rfl
@[simp] theorem Z6S (cs : List IV) : Z2 PP Zu (.fptr cs) 0 = some (.fptr (cs.drop 0)) := fa_f (by kernel_rfl : fdO PP Zu 0 = some (0, 1, false)) rfl
@[simp] theorem Z6T (b i o : Nat) : Z2 PP Zu (.ptr b i o) 3 = some (.ptr b i (o + 3)) := fa_p (by kernel_rfl : fdO PP Zu 3 = some (3, 1, false)) rfl
@[simp] theorem Z6U (b i o : Nat) : Z2 PP Zu (.ptr b i o) 4 = some (.ptr b i (o + 4)) := fa_p (by kernel_rfl : fdO PP Zu 4 = some (4, 1, false)) rfl
@[simp] theorem Z3f : flO PP Zu = some [(0, 1), (1, 1), (2, 1), (3, 1), (4, 1)] := Zc (by kernel_rfl)
@[simp] theorem Z4d : szO PP Za = some 12 := Zc (by kernel_rfl)
@[simp] theorem Z6V : agO PP Za = some true := Zc (by kernel_rfl)
@[simp] theorem Z1D : zrO PP Za = some [.bool false, .bool false, .int .i64 0, .int .i64 0, .int .i64 0, .int .i64 0, .int .i64 0, .int .i64 0, .int .i64 0, .int .i64 0, .int .i64 0, .int .i64 0] := Zc (by kernel_rfl)
@[simp] theorem Z6W (b i o : Nat) : Z2 PP Za (.ptr b i o) 0 = some (.ptr b i (o + 0)) := fa_p (by kernel_rfl : fdO PP Za 0 = some (0, 1, false)) rfl
@[simp] theorem Z6X (b i o : Nat) : Z2 PP Za (.ptr b i o) 1 = some (.ptr b i (o + 1)) := fa_p (by kernel_rfl : fdO PP Za 1 = some (1, 1, false)) rfl
@[simp] theorem Z6Y (b i o : Nat) : Z2 PP Za (.ptr b i o) 2 = some (.ptr b i (o + 2)) := fa_p (by kernel_rfl : fdO PP Za 2 = some (2, 1, false)) rfl
@[simp] theorem Z6Z (cs : List IV) : Z2 PP Za (.fptr cs) 2 = some (.fptr (cs.drop 2)) := fa_f (by kernel_rfl : fdO PP Za 2 = some (2, 1, false)) rfl
@[simp] theorem Z70 (b i o : Nat) : Z2 PP Za (.ptr b i o) 3 = some (.ptr b i (o + 3)) := fa_p (by kernel_rfl : fdO PP Za 3 = some (3, 1, false)) rfl
@[simp] theorem Z71 (cs : List IV) : Z2 PP Za (.fptr cs) 3 = some (.fptr (cs.drop 3)) := fa_f (by kernel_rfl : fdO PP Za 3 = some (3, 1, false)) rfl
@[simp] theorem Z72 (b i o : Nat) : Z2 PP Za (.ptr b i o) 4 = some (.ptr b i (o + 4)) := fa_p (by kernel_rfl : fdO PP Za 4 = some (4, 1, false)) rfl
@[simp] theorem Z73 (cs : List IV) : Z2 PP Za (.fptr cs) 4 = some (.fptr (cs.drop 4)) := fa_f (by kernel_rfl : fdO PP Za 4 = some (4, 1, false)) rfl
@[simp] theorem Z74 (b i o : Nat) : Z2 PP Za (.ptr b i o) 5 = some (.ptr b i (o + 5)) := fa_p (by kernel_rfl : fdO PP Za 5 = some (5, 1, false)) rfl
@[simp] theorem Z75 (cs : List IV) : Z2 PP Za (.fptr cs) 5 = some (.fptr (cs.drop 5)) := fa_f (by kernel_rfl : fdO PP Za 5 = some (5, 1, false)) rfl
@[simp] theorem Z76 (b i o : Nat) : Z2 PP Za (.ptr b i o) 6 = some (.ptr b i (o + 6)) := fa_p (by kernel_rfl : fdO PP Za 6 = some (6, 1, false)) rfl
@[simp] theorem Z77 (b i o : Nat) : Z2 PP Za (.ptr b i o) 7 = some (.ptr b i (o + 7)) := fa_p (by kernel_rfl : fdO PP Za 7 = some (7, 5, true)) rfl
@[simp] theorem Z78 (cs : List IV) : Z2 PP Za (.fptr cs) 7 = some (.fptr (cs.drop 7)) := fa_f (by kernel_rfl : fdO PP Za 7 = some (7, 5, true)) rfl
@[simp] theorem Z4e : flO PP Za = some [(0, 1), (1, 1), (2, 1), (3, 1), (4, 1), (5, 1), (6, 1), (7, 5)] := Zc (by kernel_rfl)
@[simp] theorem Z4X : szO PP Zz = some 2 := Zc (by kernel_rfl)
@[simp] theorem ag_t_api_Cell : agO PP Zz = some true := Zc (by kernel_rfl)
@[simp] theorem Z2n : zrO PP Zz = some [.int .i64 0, .int .i64 0] := Zc (by kernel_rfl)
@[simp] theorem ff_t_api_Cell_0 (cs : List IV) : Z2 PP Zz (.fptr cs) 0 = some (.fptr (cs.drop 0)) := fa_f (by kernel_rfl : fdO PP Zz 0 = some (0, 1, false)) rfl
@[simp] theorem fp_t_api_Cell_1 (b i o : Nat) : Z2 PP Zz (.ptr b i o) 1 = some (.ptr b i (o + 1)) := fa_p (by kernel_rfl : fdO PP Zz 1 = some (1, 1, false)) rfl
@[simp] theorem ff_t_api_Cell_1 (cs : List IV) : Z2 PP Zz (.fptr cs) 1 = some (.fptr (cs.drop 1)) := fa_f (by kernel_rfl : fdO PP Zz 1 = some (1, 1, false)) rfl
@[simp] theorem Z4f : flO PP Zz = some [(0, 1), (1, 1)] := Zc (by kernel_rfl)
@[simp] theorem Z4Y : szO PP ZR = some 1 := Zc (by kernel_rfl)
@[simp] theorem Z2J : zrO PP ZR = some [.int .i64 0] := Zc (by kernel_rfl)
@[simp] theorem ff_t_api_Zone_0 (cs : List IV) : Z2 PP ZR (.fptr cs) 0 = some (.fptr (cs.drop 0)) := fa_f (by kernel_rfl : fdO PP ZR 0 = some (0, 1, false)) rfl
@[simp] theorem Z4g : flO PP ZR = some [(0, 1)] := Zc (by kernel_rfl)
@[simp] theorem Z5v : szO PP Zs = some 7 := Zc (by kernel_rfl)
@[simp] theorem ag_t_api_Tenant : agO PP Zs = some true := Zc (by kernel_rfl)
@[simp] theorem Z3g : zrO PP Zs = some [.int .i64 0, .int .i64 0, .int .i64 0, .int .i64 0, .int .i64 0, .int .i64 0, .bool false] := Zc (by kernel_rfl)
@[simp] theorem Z79 (b i o : Nat) : Z2 PP Zs (.ptr b i o) 0 = some (.ptr b i (o + 0)) := fa_p (by kernel_rfl : fdO PP Zs 0 = some (0, 1, false)) rfl
@[simp] theorem Z7a (cs : List IV) : Z2 PP Zs (.fptr cs) 0 = some (.fptr (cs.drop 0)) := fa_f (by kernel_rfl : fdO PP Zs 0 = some (0, 1, false)) rfl
@[simp] theorem Z7b (b i o : Nat) : Z2 PP Zs (.ptr b i o) 1 = some (.ptr b i (o + 1)) := fa_p (by kernel_rfl : fdO PP Zs 1 = some (1, 1, false)) rfl
@[simp] theorem Z7c (cs : List IV) : Z2 PP Zs (.fptr cs) 1 = some (.fptr (cs.drop 1)) := fa_f (by kernel_rfl : fdO PP Zs 1 = some (1, 1, false)) rfl
@[simp] theorem Z7d (b i o : Nat) : Z2 PP Zs (.ptr b i o) 4 = some (.ptr b i (o + 4)) := fa_p (by kernel_rfl : fdO PP Zs 4 = some (4, 1, false)) rfl
@[simp] theorem Z7e (cs : List IV) : Z2 PP Zs (.fptr cs) 4 = some (.fptr (cs.drop 4)) := fa_f (by kernel_rfl : fdO PP Zs 4 = some (4, 1, false)) rfl
@[simp] theorem Z4Z : flO PP Zs = some [(0, 1), (1, 1), (2, 1), (3, 1), (4, 1), (5, 1), (6, 1)] := Zc (by kernel_rfl)
@[simp] theorem Z4h : szO PP ZD = some 2 := Zc (by kernel_rfl)
@[simp] theorem Z7f : agO PP ZD = some true := Zc (by kernel_rfl)
@[simp] theorem Z2a : zrO PP ZD = some [.int .i64 0, .int .i64 0] := Zc (by kernel_rfl)
@[simp] theorem Z7g (b i o : Nat) : Z2 PP ZD (.ptr b i o) 0 = some (.ptr b i (o + 0)) := fa_p (by kernel_rfl : fdO PP ZD 0 = some (0, 1, false)) rfl
@[simp] theorem Z7h (b i o : Nat) : Z2 PP ZD (.ptr b i o) 1 = some (.ptr b i (o + 1)) := fa_p (by kernel_rfl : fdO PP ZD 1 = some (1, 1, false)) rfl
@[simp] theorem Z7i (cs : List IV) : Z2 PP ZD (.fptr cs) 1 = some (.fptr (cs.drop 1)) := fa_f (by kernel_rfl : fdO PP ZD 1 = some (1, 1, false)) rfl
@[simp] theorem Z4i : flO PP ZD = some [(0, 1), (1, 1)] := Zc (by kernel_rfl)
@[simp] theorem Z5w : szO PP Zj = some 4 := Zc (by kernel_rfl)
@[simp] theorem Z7j : agO PP Zj = some true := Zc (by kernel_rfl)
@[simp] theorem Z21 : zrO PP Zj = some [.int .i64 0, .int .i64 0, .int .i64 0, .int .i64 0] := Zc (by kernel_rfl)
@[simp] theorem Z7k (b i o : Nat) : Z2 PP Zj (.ptr b i o) 0 = some (.ptr b i (o + 0)) := fa_p (by kernel_rfl : fdO PP Zj 0 = some (0, 1, false)) rfl
@[simp] theorem Z7l (cs : List IV) : Z2 PP Zj (.fptr cs) 0 = some (.fptr (cs.drop 0)) := fa_f (by kernel_rfl : fdO PP Zj 0 = some (0, 1, false)) rfl
@[simp] theorem Z7m (b i o : Nat) : Z2 PP Zj (.ptr b i o) 1 = some (.ptr b i (o + 1)) := fa_p (by kernel_rfl : fdO PP Zj 1 = some (1, 1, false)) rfl
@[simp] theorem Z7n (cs : List IV) : Z2 PP Zj (.fptr cs) 1 = some (.fptr (cs.drop 1)) := fa_f (by kernel_rfl : fdO PP Zj 1 = some (1, 1, false)) rfl
@[simp] theorem Z7o (b i o : Nat) : Z2 PP Zj (.ptr b i o) 2 = some (.ptr b i (o + 2)) := fa_p (by kernel_rfl : fdO PP Zj 2 = some (2, 1, false)) rfl
@[simp] theorem Z7p (cs : List IV) : Z2 PP Zj (.fptr cs) 2 = some (.fptr (cs.drop 2)) := fa_f (by kernel_rfl : fdO PP Zj 2 = some (2, 1, false)) rfl
@[simp] theorem Z7q (b i o : Nat) : Z2 PP Zj (.ptr b i o) 3 = some (.ptr b i (o + 3)) := fa_p (by kernel_rfl : fdO PP Zj 3 = some (3, 1, false)) rfl
@[simp] theorem Z50 : flO PP Zj = some [(0, 1), (1, 1), (2, 1), (3, 1)] := Zc (by kernel_rfl)
@[simp] theorem sz_t_load_sums : szO PP ZF = some 1 := Zc (by kernel_rfl)
@[simp] theorem ag_t_load_sums : agO PP ZF = some false := Zc (by kernel_rfl)
@[simp] theorem Z4j : zrO PP ZF = some [.snil] := Zc (by kernel_rfl)
@[simp] theorem ls_t_load_sums (b lo len : Nat) : lenI PP ZF (.sl b lo len) = some (.int .i64 len) := len_s (by kernel_rfl : elO PP ZF = some Z0)
theorem Z5x {h : Heap} {k : IntKind} {i : Int} {b lo len T : Nat} {es : List (List IV)} (h0 : 0 ≤ i) (h1 : i < len) (hb : h[b]? = some (some ⟨1, T, es⟩)) : Zf PP ZF (.sl b lo len) (.int k i) h = some (.ptr b (lo + i.toNat) 0) := ix_s (by kernel_rfl : elO PP ZF = some Z0) (by kernel_rfl) h0 h1 hb
theorem Z4k {h0 h : Heap} {rs : List PT} {KH : KT} {m : Int} (S : Own h0 rs h) (hm0 : 0 ≤ m) (hm : m ≤ 65536) (k : ∀ s L h', Sl 1 Z0 s (List.replicate m.toNat [.int .i64 0]) L → Own h0 (L :: rs) h' → KH s h') : oA (Z12 PP ZF (.int .i64 m) (.int .i64 m) h) h KH := S.made (by kernel_rfl : elO PP ZF = some Z0) (by kernel_rfl) (by kernel_rfl) (by kernel_rfl : byO PP Z0 = some 8) hm0 hm rfl k
@[simp] theorem Z5y : elO PP ZF = some Z0 := Zc (by kernel_rfl)
@[simp] theorem in_t_uint : inO PP Z1B = some .u64 := Zc (by kernel_rfl)
@[simp] theorem Z7r (s : Nat) (es : List (List IV)) : lenI PP Z13 (.vs s es) = some (.int .i64 es.length) := len_v (by kernel_rfl : elO PP Z13 = some Z8)
theorem Z5z {h : Heap} {k : IntKind} {i : Int} {es : List (List IV)} {e : List IV} (h0 : 0 ≤ i) (he : es[i.toNat]? = some e) : Zf PP Z13 (.vs 9 es) (.int k i) h = some (.fptr e) := ix_v (by kernel_rfl : elO PP Z13 = some Z8) (by kernel_rfl) h0 he
theorem Z5A {h0 h : Heap} {rs : List PT} {s v : IV} {es : List (List IV)} {cs : List IV} {L : PT} {KH : KT} (l : Sl 9 Z8 s es L) (S : Own h0 (L :: rs) h) (hv : ZC v = some cs) (hn : cs.length = 9) (ho : cs.all oneI = true) (hlen : es.length + 1 ≤ 1073741824) (k : ∀ s' L' h', Sl 9 Z8 s' (es ++ [cs]) L' → Own h0 (L' :: rs) h' → KH s' h') : oA (ZA PP Z13 1 [(0, v)] h) h fun w h2 => oA (ZJ PP Z13 Z13 s w h2) h2 KH :=
  l.app1 S (by kernel_rfl : elO PP Z13 = some Z8) (by kernel_rfl : zrO PP Z8 = some [.int .i64 0, .int .i64 0, .int .i64 0, .int .i64 0, .int .i64 0, .int .i64 0, .int .i64 0, .int .i64 0, .int .i64 0]) (by kernel_rfl) (by kernel_rfl : byO PP Z8 = some 72) rfl hv hn ho hlen k
@[simp] theorem Z51 : elO PP Z13 = some Z8 := Zc (by kernel_rfl)
@[simp] theorem Z5B : zrO PP ZX = some [.snil, .int .i64 0] := Zc (by kernel_rfl)
@[simp] theorem Z7s (b i o : Nat) : Z2 PP ZX (.ptr b i o) 0 = some (.ptr b i (o + 0)) := fa_p (by kernel_rfl : fdO PP ZX 0 = some (0, 1, false)) rfl
@[simp] theorem Z7t (b i o : Nat) : Z2 PP ZX (.ptr b i o) 1 = some (.ptr b i (o + 1)) := fa_p (by kernel_rfl : fdO PP ZX 1 = some (1, 1, false)) rfl
@[simp] theorem Z5C : flO PP ZX = some [(0, 1), (1, 1)] := Zc (by kernel_rfl)
@[simp] theorem sz_t_api_Entry : szO PP Z8 = some 9 := Zc (by kernel_rfl)
@[simp] theorem ag_t_api_Entry : agO PP Z8 = some true := Zc (by kernel_rfl)
@[simp] theorem Z1L : zrO PP Z8 = some [.int .i64 0, .int .i64 0, .int .i64 0, .int .i64 0, .int .i64 0, .int .i64 0, .int .i64 0, .int .i64 0, .int .i64 0] := Zc (by kernel_rfl)
@[simp] theorem Z7u (b i o : Nat) : Z2 PP Z8 (.ptr b i o) 0 = some (.ptr b i (o + 0)) := fa_p (by kernel_rfl : fdO PP Z8 0 = some (0, 1, false)) rfl
@[simp] theorem Z7v (b i o : Nat) : Z2 PP Z8 (.ptr b i o) 1 = some (.ptr b i (o + 1)) := fa_p (by kernel_rfl : fdO PP Z8 1 = some (1, 1, false)) rfl
@[simp] theorem Z7w (b i o : Nat) : Z2 PP Z8 (.ptr b i o) 2 = some (.ptr b i (o + 2)) := fa_p (by kernel_rfl : fdO PP Z8 2 = some (2, 1, false)) rfl
@[simp] theorem Z7x (b i o : Nat) : Z2 PP Z8 (.ptr b i o) 3 = some (.ptr b i (o + 3)) := fa_p (by kernel_rfl : fdO PP Z8 3 = some (3, 1, false)) rfl
@[simp] theorem Z7y (b i o : Nat) : Z2 PP Z8 (.ptr b i o) 4 = some (.ptr b i (o + 4)) := fa_p (by kernel_rfl : fdO PP Z8 4 = some (4, 1, false)) rfl
@[simp] theorem Z7z (b i o : Nat) : Z2 PP Z8 (.ptr b i o) 5 = some (.ptr b i (o + 5)) := fa_p (by kernel_rfl : fdO PP Z8 5 = some (5, 1, false)) rfl
@[simp] theorem Z7A (b i o : Nat) : Z2 PP Z8 (.ptr b i o) 6 = some (.ptr b i (o + 6)) := fa_p (by kernel_rfl : fdO PP Z8 6 = some (6, 1, false)) rfl
@[simp] theorem Z7B (b i o : Nat) : Z2 PP Z8 (.ptr b i o) 7 = some (.ptr b i (o + 7)) := fa_p (by kernel_rfl : fdO PP Z8 7 = some (7, 1, false)) rfl
@[simp] theorem Z7C (b i o : Nat) : Z2 PP Z8 (.ptr b i o) 8 = some (.ptr b i (o + 8)) := fa_p (by kernel_rfl : fdO PP Z8 8 = some (8, 1, false)) rfl
@[simp] theorem Z5D : flO PP Z8 = some [(0, 1), (1, 1), (2, 1), (3, 1), (4, 1), (5, 1), (6, 1), (7, 1), (8, 1)] := Zc (by kernel_rfl)
@[simp] theorem ls_t_s_string (b lo len : Nat) : lenI PP Z1W (.sl b lo len) = some (.int .i64 len) := len_s (by kernel_rfl : elO PP Z1W = some Z1n)
theorem Z5E {h : Heap} {k : IntKind} {i : Int} {b lo len T : Nat} {es : List (List IV)} (h0 : 0 ≤ i) (h1 : i < len) (hb : h[b]? = some (some ⟨1, T, es⟩)) : Zf PP Z1W (.sl b lo len) (.int k i) h = some (.ptr b (lo + i.toNat) 0) := ix_s (by kernel_rfl : elO PP Z1W = some Z1n) (by kernel_rfl) h0 h1 hb
end Go.Ideal
namespace Go.Ideal
open Go.Proofs
set_option maxRecDepth 100000
theorem tmod_mod {v n : Int} (hn : 0 < n) : (v.tmod n + n).tmod n = v % n := by
  have h1 : -n < v.tmod n := by
    have := Int.lt_tmod_of_pos v hn
    omega
  rw [Int.tmod_eq_emod_of_nonneg (by omega), Int.add_emod_right]
  have h2 : v.tmod n = v + n * (-(v.tdiv n)) := by
    have := Int.tmod_add_mul_tdiv v n
    rw [Int.mul_neg]; omega
  rw [h2, Int.add_mul_emod_self_left]
theorem Z2b {v n : Int} (hn : 0 < n) (hn' : n ≤ 4611686018427387904) : Fun PP Z1I [.n v, .n n] (.n (v % n)) := by
  refine FunQ.intro fun h => Z40.call ?_
  have h1 : -n < v.tmod n := by
    have := Int.lt_tmod_of_pos v hn
    omega
  have h2 : v.tmod n < n := Int.tmod_lt_of_pos v hn
  simp +contextual [Z40.e, ar_rem (show n ≠ 0 by omega), w64 (x := v.tmod n + n) (by omega) (by omega), tmod_mod hn]
  exact Ret.val (Own.start h) (by simp [Bel]) rfl
theorem Z2o (l : List Int) : Fun PP Z1O [.vs 1 (ints l)] (.bool (decide (l.length ≤ 200))) := by
  refine FunQ.intro fun h => Z3X.call ?_
  simp +contextual [Z3X.e]
  exact Ret.val (Own.start h) (by simp [Bel]) (by simp; omega)
theorem Z2K {v low high : Int} (h0 : -1000000 ≤ low) (h1 : low ≤ high) (h2 : high ≤ 1000000) : Fun PP Z1v [.n v, .n low, .n high] (.n (low + v % (high - low + 1))) := by
  refine FunQ.intro fun h => Z3Z.call ?_
  have h3 := Int.emod_nonneg v (by omega : high - low + 1 ≠ 0)
  have h4 := Int.emod_lt_of_pos v (by omega : 0 < high - low + 1)
  simp +contextual (disch := omega) [Z3Z.e, w64]
  refine (Z2b (by omega) (by omega)).call ?_
  simp +contextual (disch := omega) [w64]
  exact Ret.val (Own.start h) (by simp [Bel]) rfl
def zoneOf (c : Config) (i : Int) : Int := ((gt c.cells i).map (·.zone)).getD (-1)
def regionOfZ (c : Config) (z : Int) : Int := ((gt c.zones z).map (·.region)).getD (-1)
def regionOf (c : Config) (i : Int) : Int := regionOfZ c (zoneOf c i)
def ZonesOk (c : Config) : Prop := ∀ x ∈ c.cells, 0 ≤ x.zone ∧ x.zone < c.zones.length
theorem Z5F (c : Config) (i : Int) : Fun PP Z3t [c.v, .n i] (.n (zoneOf c i)) := by
  refine FunQ.intro fun h => Z2l.call ?_
  refine (Own.start h).box fun b1 h1 S1 => ?_
  have g1 := S1.at0
  unfold zoneOf
  cases e : gt c.cells i with
  | none =>
    by_cases hi : i < 0
    · simp +contextual [Z2l.j1g, hi]
      exact Ret.val S1 (by simp [Bel]) rfl
    · have : (c.cells.length : Int) ≤ i := by rcases gt_none.1 e with h | h <;> omega
      simp +contextual [Z2l.j1g, hi, ld_b g1, this]
      exact Ret.val S1 (by simp [Bel]) rfl
  | some x =>
    obtain ⟨h0, hx⟩ := gt_some.1 e
    obtain ⟨_, hlt⟩ := gt_lt e
    simp +contextual [Z2l.j1g, ld_b g1, show ¬ i < 0 by omega, show ¬ (c.cells.length : Int) ≤ i by omega, Z2l.j2, Z1Z h0 (map_get CellC.c hx)]
    exact Ret.val S1 (by simp [Bel]) rfl
end Go.Ideal
namespace Go.Ideal
open Go.Proofs
set_option maxRecDepth 100000
theorem zoneOf_rng {c : Config} (hz : ZonesOk c) (i : Int) : zoneOf c i = -1 ∨ (0 ≤ zoneOf c i ∧ zoneOf c i < c.zones.length) := by
  unfold zoneOf
  cases e : gt c.cells i with
  | none => exact .inl rfl
  | some x => exact .inr (hz x (List.mem_of_getElem? (gt_some.1 e).2))
theorem Z1E {c : Config} (hz : ZonesOk c) (i : Int) : Fun PP Z1l [c.v, .n i] (.n (regionOf c i)) := by
  refine FunQ.intro fun h => Z2j.call ?_
  refine (Own.start h).box fun b1 h1 S1 => ?_
  have g1 := S1.at0
  simp +contextual (disch := omega) [Z2j.j1g, ld_b g1]
  refine (Z5F c i).call ?_
  unfold regionOf regionOfZ
  rcases zoneOf_rng hz i with e | ⟨e0, e1⟩
  · simp +contextual (disch := omega) [Z2j.j2g, e]
    exact Ret.val S1 (by simp [Bel, Bels]) (by first | rfl | simp)
  · obtain ⟨x, hx⟩ := gt_ex e0 e1
    simp +contextual (disch := omega) [Z2j.j2g, show ¬ zoneOf c i < 0 by omega, Z2j.j3, ld_b g1, Z4U e0 (map_get Zone.c (gt_some.1 hx).2), hx]
    exact Ret.val S1 (by simp [Bel, Bels]) (by first | rfl | simp)
theorem Z52 (n low high : Int) : Fun PP Z34 [.n n, .n low, .n high] (.bool (decide (low ≤ n) && decide (n ≤ high))) := by
  refine FunQ.intro fun h => Z47.call ?_
  simp +contextual (disch := omega) [Z47.e]
  exact Ret.val (Own.start h) (by simp [Bel, Bels]) (by first | rfl | simp)
def Len {α : Type} (l : List α) : Prop := (l.length : Int) ≤ 4611686018427387904
theorem Z5G {c : Config} (hl : Len c.cells) (i : Int) : Fun PP Z3z [c.v, .n i] (.n (zoneOf c i)) := by
  refine FunQ.intro fun h => Z39.call ?_
  refine (Own.start h).box fun b1 h1 S1 => ?_
  have g1 := S1.at0
  unfold Len at hl
  simp +contextual (disch := omega) [Z39.j1g, ld_b g1, w64]
  refine (Z52 _ _ _).call ?_
  unfold zoneOf
  cases e : gt c.cells i with
  | none =>
    have : (decide (0 ≤ i) && decide (i ≤ (c.cells.length : Int) - 1)) = false := by
      rcases gt_none.1 e with h | h <;> simp <;> omega
    simp +contextual (disch := omega) [this]
    exact Ret.val S1 (by simp [Bel, Bels]) (by first | rfl | simp)
  | some x =>
    obtain ⟨h0, hx⟩ := gt_some.1 e
    obtain ⟨_, hlt⟩ := gt_lt e
    have : (decide (0 ≤ i) && decide (i ≤ (c.cells.length : Int) - 1)) = true := by simp; omega
    simp +contextual (disch := omega) [this, Z39.j2, ld_b g1, Z1Z h0 (map_get CellC.c hx)]
    exact Ret.val S1 (by simp [Bel, Bels]) (by first | rfl | simp)
theorem Z5H {c : Config} (hl : Len c.zones) (i : Int) : Fun PP Z3y [c.v, .n i] (.n (regionOfZ c i)) := by
  refine FunQ.intro fun h => Z38.call ?_
  refine (Own.start h).box fun b1 h1 S1 => ?_
  have g1 := S1.at0
  unfold Len at hl
  simp +contextual (disch := omega) [Z38.j1g, ld_b g1, w64]
  refine (Z52 _ _ _).call ?_
  unfold regionOfZ
  cases e : gt c.zones i with
  | none =>
    have : (decide (0 ≤ i) && decide (i ≤ (c.zones.length : Int) - 1)) = false := by
      rcases gt_none.1 e with h | h <;> simp <;> omega
    simp +contextual (disch := omega) [this]
    exact Ret.val S1 (by simp [Bel, Bels]) (by first | rfl | simp)
  | some x =>
    obtain ⟨h0, hx⟩ := gt_some.1 e
    obtain ⟨_, hlt⟩ := gt_lt e
    have : (decide (0 ≤ i) && decide (i ≤ (c.zones.length : Int) - 1)) = true := by simp; omega
    simp +contextual (disch := omega) [this, Z38.j2, ld_b g1, Z4U h0 (map_get Zone.c hx)]
    exact Ret.val S1 (by simp [Bel, Bels]) (by first | rfl | simp)
theorem Z53 {c : Config} (hl : Len c.cells) (hm : Len c.zones) (i : Int) : Fun PP Z2Y [c.v, .n i] (.n (regionOf c i)) := by
  refine FunQ.intro fun h => Z4E.call ?_
  refine (Own.start h).box fun b1 h1 S1 => ?_
  have g1 := S1.at0
  simp +contextual (disch := omega) [ld_b g1]
  refine (Z5G hl i).call ?_
  simp +contextual (disch := omega) [ld_b g1]
  refine (Z5H hm _).call ?_
  try simp +contextual (disch := omega)
  exact Ret.val S1 (by simp [Bel, Bels]) (by first | rfl | simp)
def bit (a i : Int) : Bool := decide ((a / 2 ^ i.toNat) % 2 = 1)
def hasB (s i : Int) : Bool := decide (0 ≤ i) && decide (i < 62) && bit s i
theorem tmod2 (a : Int) : (a.tmod 2 = 0) ↔ ¬ (a % 2 = 1) := by
  have := Int.emod_two_eq a
  constructor
  · intro h
    have := Int.dvd_of_tmod_eq_zero h
    omega
  · intro h
    exact Int.tmod_eq_zero_of_dvd (by omega)
theorem Z2p (s i : Int) : Fun PP Z1S [.n s, .n i] (.bool (hasB s i)) := by
  refine FunQ.intro fun h => Z2F.call ?_
  unfold hasB bit
  by_cases h0 : 0 ≤ i
  · by_cases h1 : i < 62
    · simp +contextual (disch := omega) [Z2F.e, h0, h1, convI, wu64, ar_shr, ar_rem, tmod2]
      exact Ret.val (Own.start h) (by simp [Bel, Bels]) (by first | rfl | simp)
    · simp +contextual (disch := omega) [Z2F.e, h0, h1]
      exact Ret.val (Own.start h) (by simp [Bel, Bels]) (by first | rfl | simp)
  · simp +contextual (disch := omega) [Z2F.e, h0]
    exact Ret.val (Own.start h) (by simp [Bel, Bels]) (by first | rfl | simp)
def inside (c : Config) (cell r : Int) : Bool := decide (0 ≤ regionOf c cell) && decide (regionOf c cell = r)
theorem Z2L {c : Config} (hl : Len c.cells) (hm : Len c.zones) (i r : Int) : Fun PP Z25 [c.v, .n i, .n r] (.bool (inside c i r)) := by
  refine FunQ.intro fun h => Z4A.call ?_
  refine (Own.start h).box fun b1 h1 S1 => ?_
  have g1 := S1.at0
  simp +contextual (disch := omega) [ld_b g1]
  refine (Z53 hl hm i).call ?_
  try simp +contextual (disch := omega)
  exact Ret.val S1 (by simp [Bel, Bels]) (by first | rfl | simp)
def active (x : TState) : Bool := x.placed && !x.shed
theorem Z4l (x : TState) : Fun PP Z2y [x.v] (.bool (active x)) := by
  refine FunQ.intro fun h => Z4y.call ?_
  refine (Own.start h).box fun b1 h1 S1 => ?_
  have g1 := S1.at0
  simp +contextual (disch := omega) [ld_b g1]
  exact Ret.val S1 (by simp [Bel, Bels]) (by first | rfl | simp)
end Go.Ideal
namespace Go.Ideal
open Go.Proofs
set_option maxRecDepth 100000
def usesTab : List ByteArray := [⟨#[]⟩, ⟨#[116, 99, 111]⟩, ⟨#[116, 99, 101, 119, 118]⟩, ⟨#[116, 101]⟩, ⟨#[116, 67]⟩, ⟨#[116, 99]⟩, ⟨#[116, 99]⟩, ⟨#[116]⟩, ⟨#[116, 98]⟩, ⟨#[99, 109]⟩, ⟨#[99, 118]⟩, ⟨#[99, 118]⟩, ⟨#[118]⟩, ⟨#[114, 98]⟩, ⟨#[]⟩, ⟨#[]⟩, ⟨#[110]⟩]
def uses (k : Int) : ByteArray := if 1 ≤ k then (gt usesTab k).getD ⟨#[63]⟩ else ⟨#[63]⟩
theorem uses_build (h : Heap) : ZA PP Z1W 17 [(0, .str ⟨#[]⟩), (1, .str ⟨#[116, 99, 111]⟩), (2, .str ⟨#[116, 99, 101, 119, 118]⟩), (3, .str ⟨#[116, 101]⟩), (4, .str ⟨#[116, 67]⟩), (5, .str ⟨#[116, 99]⟩), (6, .str ⟨#[116, 99]⟩), (7, .str ⟨#[116]⟩), (8, .str ⟨#[116, 98]⟩), (9, .str ⟨#[99, 109]⟩), (10, .str ⟨#[99, 118]⟩), (11, .str ⟨#[99, 118]⟩), (12, .str ⟨#[118]⟩), (13, .str ⟨#[114, 98]⟩), (14, .str ⟨#[]⟩), (15, .str ⟨#[]⟩), (16, .str ⟨#[110]⟩)] h = some (.sl h.length 0 17, h ++ [some ⟨1, Z1n, usesTab.map fun s => [.str s]⟩]) := by kernel_rfl
theorem Z5I (k : Int) : Fun PP Z3V [.n k] (.str (uses k)) := by
  refine FunQ.intro fun h => Z1Y.call ?_
  have S1 := (Own.start h).push (some ⟨1, Z1n, usesTab.map fun s => [.str s]⟩)
  have g := S1.at0
  have ul : usesTab.length = 17 := rfl
  simp +contextual (disch := omega) [Z1Y.eg, Z1Y.j1g, uses_build]
  generalize h ++ [some ⟨1, Z1n, usesTab.map fun s => [.str s]⟩] = h1 at S1 g
  unfold uses
  cases e : gt usesTab k with
  | none =>
    have : (decide (k < 1) || decide (17 ≤ k)) = true := by
      rcases gt_none.1 e with h | h <;> simp <;> omega
    simp +contextual (disch := omega) [Z1Y.j2g, this]
    exact Ret.val S1 (by simp [Bel]) (by simp)
  | some s =>
    obtain ⟨i0, hx⟩ := gt_some.1 e
    obtain ⟨_, hlt⟩ := gt_lt e
    by_cases h1 : k < 1
    · simp +contextual (disch := omega) [Z1Y.j2g, h1]
      exact Ret.val S1 (by simp [Bel]) (by simp; omega)
    · have : (decide (k < 1) || decide (17 ≤ k)) = false := by simp; omega
      have e1 : (usesTab.map fun s => [IV.str s])[k.toNat]? = some [.str s] := by simp [hx]
      simp +contextual (disch := omega) [Z1Y.j2g, this, Z1Y.j3, Z5E i0 (show k < ((17 : Nat) : Int) by omega) g, ld_p (o := 0) Z1n g e1]
      exact Ret.val S1 (by simp [Bel]) (by simp; omega)
def bytesOf (s : ByteArray) : List Int := s.data.toList.map fun b => (b.toNat : Int)
theorem ba_get (s : ByteArray) (i : Nat) : s[i]? = s.data.toList[i]? := by
  by_cases h : i < s.size
  · rw [getElem?_pos s i h]
    have : i < s.data.toList.length := by simpa using h
    rw [List.getElem?_eq_getElem this]; rfl
  · rw [getElem?_neg s i h, List.getElem?_eq_none (by simpa using h)]
def hasU (k w : Int) : Bool := (bytesOf (uses k)).contains w
theorem Z1F (k w : Int) : Fun PP ZW [.n k, .int .u8 w] (.bool (hasU k w)) := by
  refine FunQ.intro fun h0 => Z1s.call ?_
  simp +contextual (disch := omega) [Z1s.eg, Z1s.j1g]
  refine (Z5I k).call ?_
  try simp +contextual (disch := omega) [Z1s.j2g]
  have hsz : ((uses k).size : Int) ≤ 1000 := by
    have h1 : ∀ s ∈ usesTab, s.size ≤ 1000 := by decide
    unfold uses
    split
    · cases e : gt usesTab k with
      | none => simp; decide
      | some s => have := h1 s (List.mem_of_getElem? (gt_some.1 e).2); simp; omega
    · decide
  generalize hR : hasU k w = R
  unfold hasU at hR
  generalize uses k = s at hsz hR
  have hl : (bytesOf s).length = s.size := by simp [bytesOf]
  have loop : ∀ (n i : Nat), n + i = s.size → w ∉ (bytesOf s).take i →
      Z1s.l1 (Ret (fun x => x = .bool R) h0) (.int .u8 w) (.str s) (.n i) h0 := by
    intro n
    induction n with
    | zero =>
      intro i hi ha
      refine Z1s.l1_round ?_
      have : i = s.size := by omega
      subst this
      rw [List.take_of_length_le (by omega)] at ha
      have : R = false := by rw [← hR]; simpa using ha
      simp +contextual (disch := omega) [Z1s.b1g, Z1s.j5, lenI, Z4Q, this]
      exact Ret.val (Own.start h0) (by simp [Bel]) rfl
    | succ n ih =>
      intro i hi ha
      refine Z1s.l1_round ?_
      have hlt : i < s.size := by omega
      obtain ⟨b, hb⟩ : ∃ b, s.data.toList[i]? = some b := ⟨_, List.getElem?_eq_getElem (by simpa using hlt)⟩
      have hb2 : (bytesOf s)[i]? = some (b.toNat : Int) := by simp only [bytesOf, List.getElem?_map, hb]; rfl
      have ix : indexI PP Z1n (.str s) (.n i) = some (.int .u8 b.toNat) := by
        simp [indexI, ba_get, hb]
      simp +contextual (disch := omega) [Z1s.b1g, lenI, Z4Q, hlt, Z1s.j3g, ix]
      refine bK'_dec (fun hc => ?_) (fun hc => ?_)
      · refine Ret.val (Own.start h0) (by simp [Bel]) ?_
        have : R = true := by
          rw [← hR, List.contains_iff_mem, ← hc]; exact List.mem_of_getElem? hb2
        rw [this]
      · simp +contextual (disch := omega) [Z1s.j4g, w64]
        refine ih (i + 1) (by omega) ?_
        rw [List.take_add_one, hb2]
        simp only [Option.toList_some, List.mem_append, List.mem_singleton, not_or]
        exact ⟨ha, fun h => hc h.symm⟩
  have := loop s.size 0 (by omega) (by simp)
  simpa using this
end Go.Ideal
namespace Go.Ideal
open Go.Proofs
set_option maxRecDepth 100000
def inB (n low high : Int) : Bool := decide (low ≤ n) && decide (n ≤ high)
theorem Z1M (n low high : Int) : Fun PP Z18 [.n n, .n low, .n high] (.bool (inB n low high)) := by
  refine FunQ.intro fun h => Z48.call ?_
  simp +contextual (disch := omega) [Z48.e]
  exact Ret.val (Own.start h) (by simp [Bel, Bels]) (by first | rfl | simp)
def placesB (e : Entry) (T C R : Int) : Bool :=
  let k := e.kind
  !((hasU k 116 != !decide (e.tenant = -1)) || (hasU k 116 && !inB e.tenant 0 (T - 1)))
  && !((hasU k 99 && !inB e.cell 0 (C - 1)) || (hasU k 67 && !inB e.cell (-1) (C - 1)) || (!hasU k 99 && !hasU k 67 && !decide (e.cell = -1)))
  && !((hasU k 111 && (!inB e.other (-1) (C - 1) || decide (e.other = e.cell))) || (hasU k 114 && !inB e.other 0 (R - 1)) || (!hasU k 111 && !hasU k 114 && !decide (e.other = -1)))
theorem Z5J (e : Entry) {T C R : Int} (hT : 0 ≤ T ∧ T ≤ 1000) (hC : 0 ≤ C ∧ C ≤ 1000) (hR : 0 ≤ R ∧ R ≤ 1000) : Fun PP Z3T [e.v, .n T, .n C, .n R] (.bool (placesB e T C R)) := by
  refine FunQ.intro fun h => Z1j.call ?_
  refine (Own.start h).box fun b1 h1 S1 => ?_
  have g1 := S1.at0
  have kb : ∀ a b : Bool, Z7 PP .neq Zy (.bool a) (.bool b) = some (.bool !(a == b)) := fun a b => bin_bb Z4b
  generalize hQ : placesB e T C R = Q
  unfold placesB at hQ
  simp only at hQ
  have p3 : Q = !((hasU e.kind 111 && (!inB e.other (-1) (C - 1) || decide (e.other = e.cell))) || (hasU e.kind 114 && !inB e.other 0 (R - 1)) || (!hasU e.kind 111 && !hasU e.kind 114 && !decide (e.other = -1))) →
      Z1j.j6 (Ret (fun x => x = .bool Q) h) (.n C) (.n R) (.ptr b1 0 0) (.n e.kind) h1 := by
    intro hq
    cases hu : hasU e.kind 111 <;> cases hv : hasU e.kind 114 <;> rw [hu, hv] at hq <;> unfold Z1j.j6 Z1j.j6g
    all_goals repeat' (first | refine (Z1F _ _).call ?_ | refine (Z1M _ _ _).call ?_ | refine bK'_b (fun hc => ?_) (fun hc => ?_) | simp +contextual (disch := omega) [hu, hv, ld_b g1, w64, Z1j.j7g, Z1j.j8])
    all_goals exact Ret.val S1 (by simp [Bel]) (by clear kb; rw [hq]; first | (simp_all; done) | grind)
  have p2 : Q = (!((hasU e.kind 99 && !inB e.cell 0 (C - 1)) || (hasU e.kind 67 && !inB e.cell (-1) (C - 1)) || (!hasU e.kind 99 && !hasU e.kind 67 && !decide (e.cell = -1))) && !((hasU e.kind 111 && (!inB e.other (-1) (C - 1) || decide (e.other = e.cell))) || (hasU e.kind 114 && !inB e.other 0 (R - 1)) || (!hasU e.kind 111 && !hasU e.kind 114 && !decide (e.other = -1)))) →
      Z1j.j3 (Ret (fun x => x = .bool Q) h) (.n C) (.n R) (.ptr b1 0 0) (.n e.kind) h1 := by
    intro hq
    generalize hP : (!((hasU e.kind 111 && (!inB e.other (-1) (C - 1) || decide (e.other = e.cell))) || (hasU e.kind 114 && !inB e.other 0 (R - 1)) || (!hasU e.kind 111 && !hasU e.kind 114 && !decide (e.other = -1)))) = P at hq p3
    cases hu : hasU e.kind 99 <;> cases hv : hasU e.kind 67 <;> rw [hu, hv] at hq <;> unfold Z1j.j3 Z1j.j3g
    all_goals repeat' (first | (refine p3 ?_; clear kb; rw [hq]; first | (simp_all; done) | grind) | refine (Z1F _ _).call ?_ | refine (Z1M _ _ _).call ?_ | refine bK'_b (fun hc => ?_) (fun hc => ?_) | simp +contextual (disch := omega) [hu, hv, ld_b g1, w64, Z1j.j4, Z1j.j5g])
    all_goals exact Ret.val S1 (by simp [Bel]) (by clear kb; rw [hq]; first | (simp_all; done) | grind)
  try simp +contextual (disch := omega) [Z1j.j1g, Z1j.j2g, ld_b g1]
  refine (Z1F e.kind 116).call ?_
  cases hu : hasU e.kind 116 <;> cases ht : decide (e.tenant = -1) <;> rw [hu, ht] at hQ
  all_goals try simp +contextual (disch := omega) [ld_b g1, kb, w64, ht]
  all_goals try (refine (Z1F e.kind 116).call ?_)
  all_goals try simp +contextual (disch := omega) [ld_b g1, w64, hu]
  all_goals repeat' (first | (refine p2 ?_; clear kb; rw [← hQ]; first | (simp_all; done) | grind) | refine (Z1M _ _ _).call ?_ | refine bK'_b (fun hc => ?_) (fun hc => ?_) | simp +contextual (disch := omega))
  all_goals exact Ret.val S1 (by simp [Bel]) (by clear kb; rw [← hQ]; first | (simp_all; done) | grind)
end Go.Ideal
namespace Go.Ideal
open Go.Proofs
set_option maxRecDepth 100000
def nB (e : Entry) (V : Int) : Bool :=
  if hasU e.kind 118 then inB e.num 0 (V - 1) else if hasU e.kind 98 then inB e.num 0 1 else if hasU e.kind 109 then inB e.num 1 3 else if hasU e.kind 110 then inB e.num 0 1073741824 else decide (e.num = 0)
def numbersB (e : Entry) (V : Int) : Bool :=
  !((hasU e.kind 101 && !inB e.epoch 1 1048576) || (!hasU e.kind 101 && !decide (e.epoch = 0)))
  && !((hasU e.kind 119 && (!inB e.start 0 1073741824 || !inB e.till 0 1073741824)) || (!hasU e.kind 119 && (!decide (e.start = 0) || !decide (e.till = 0))))
  && nB e V
theorem Z5K (e : Entry) {V : Int} (hV : 0 ≤ V ∧ V ≤ 1000) : Fun PP Z3U [e.v, .n V] (.bool (numbersB e V)) := by
  refine FunQ.intro fun h => Z10.call ?_
  refine (Own.start h).box fun b1 h1 S1 => ?_
  have g1 := S1.at0
  generalize hQ : numbersB e V = Q
  unfold numbersB at hQ
  have p7 : Q = nB e V → Z10.j6 (Ret (fun x => x = .bool Q) h) (.n V) (.ptr b1 0 0) (.n e.kind) (.bool false) h1 := by
    intro hq
    unfold nB at hq
    unfold Z10.j6 Z10.j6g
    cases hu : hasU e.kind 118 <;> cases hv : hasU e.kind 98 <;> cases hw : hasU e.kind 109 <;> cases hx : hasU e.kind 110 <;> rw [hu, hv, hw, hx] at hq
    all_goals repeat' (first | refine (Z1F _ _).call ?_ | refine (Z1M _ _ _).call ?_ | simp +contextual (disch := omega) [hu, hv, hw, hx, ld_b g1, w64, Z10.j7])
    all_goals exact Ret.val S1 (by simp [Bel]) (by rw [hq]; simp)
  have p6 : Q = false → Z10.j6 (Ret (fun x => x = .bool Q) h) (.n V) (.ptr b1 0 0) (.n e.kind) (.bool true) h1 := by
    intro hq
    try simp +contextual (disch := omega) [Z10.j6g]
    exact Ret.val S1 (by simp [Bel]) (by rw [hq])
  have p5 : Q = (!((hasU e.kind 119 && (!inB e.start 0 1073741824 || !inB e.till 0 1073741824)) || (!hasU e.kind 119 && (!decide (e.start = 0) || !decide (e.till = 0)))) && nB e V) →
      Z10.j5 (Ret (fun x => x = .bool Q) h) (.n V) (.ptr b1 0 0) (.n e.kind) h1 := by
    intro hq
    generalize nB e V = P at hq p7
    have p : ∀ b : Bool, Q = (!b && P) → Z10.j6 (Ret (fun x => x = .bool Q) h) (.n V) (.ptr b1 0 0) (.n e.kind) (.bool b) h1 := by
      intro b hb
      cases b
      · exact p7 (by simpa using hb)
      · exact p6 (by simpa using hb)
    unfold Z10.j5 Z10.j5g
    refine (Z1F _ _).call ?_
    cases hu : hasU e.kind 119
    · rw [hu] at hq
      try simp +contextual (disch := omega) [ld_b g1]
      refine (Z1F _ _).call ?_
      try simp +contextual (disch := omega) [hu, ld_b g1]
      exact p _ (by rw [hq]; simp)
    · rw [hu] at hq
      try simp +contextual (disch := omega) [ld_b g1]
      refine (Z1M _ _ _).call ?_
      try simp +contextual (disch := omega) [ld_b g1]
      refine callB_fun (fun _ => Z1M _ _ _) ?_
      try simp +contextual (disch := omega) [ld_b g1]
      refine bK'_b (fun hc => ?_) (fun hc => ?_)
      · exact p _ (by rw [hq]; simp)
      · try simp +contextual (disch := omega) [ld_b g1]
        refine (Z1F _ _).call ?_
        try simp +contextual (disch := omega) [hu, ld_b g1]
        exact p false (by rw [hq, hc]; simp)
  generalize hP : (!((hasU e.kind 119 && (!inB e.start 0 1073741824 || !inB e.till 0 1073741824)) || (!hasU e.kind 119 && (!decide (e.start = 0) || !decide (e.till = 0))))) = P at hQ p5
  try simp +contextual (disch := omega) [Z10.j1g, Z10.j2g, ld_b g1]
  refine (Z1F e.kind 101).call ?_
  cases hu : hasU e.kind 101 <;> rw [hu] at hQ
  · try simp +contextual (disch := omega) [ld_b g1]
    refine (Z1F e.kind 101).call ?_
    try simp +contextual (disch := omega) [ld_b g1, hu, Z10.j3]
    refine bK'_b (fun hc => ?_) (fun hc => ?_)
    · try simp +contextual (disch := omega) [Z10.j4g]
      exact Ret.val S1 (by simp [Bel]) (by rw [← hQ]; simp at hc; simp [hc])
    · exact p5 (by rw [← hQ]; simp at hc; simp [hc])
  · try simp +contextual (disch := omega) [ld_b g1]
    refine (Z1M _ _ _).call ?_
    cases hc : inB e.epoch 1 1048576
    · try simp +contextual (disch := omega) [Z10.j3, Z10.j4g]
      exact Ret.val S1 (by simp [Bel]) (by rw [← hQ]; simp [hc])
    · try simp +contextual (disch := omega)
      refine (Z1F e.kind 101).call ?_
      try simp +contextual (disch := omega) [ld_b g1, hu, Z10.j3]
      exact p5 (by rw [← hQ]; simp [hc])
def rightB (e : Entry) (T C R V : Int) : Bool := inB e.kind 1 16 && inB e.tick 0 1073741824 && placesB e T C R && numbersB e V
theorem Z5L (e : Entry) {T C R V : Int} (hT : 0 ≤ T ∧ T ≤ 1000) (hC : 0 ≤ C ∧ C ≤ 1000) (hR : 0 ≤ R ∧ R ≤ 1000) (hV : 0 ≤ V ∧ V ≤ 1000) : Fun PP Z3P [e.v, .n T, .n C, .n R, .n V] (.bool (rightB e T C R V)) := by
  refine FunQ.intro fun h => Z4I.call ?_
  refine (Own.start h).box fun b1 h1 S1 => ?_
  have g1 := S1.at0
  unfold rightB
  try simp +contextual (disch := omega) [ld_b g1]
  refine (Z1M _ _ _).call ?_
  try simp +contextual (disch := omega) [ld_b g1]
  refine callB_fun (fun _ => Z1M _ _ _) ?_
  try simp +contextual (disch := omega) [ld_b g1]
  refine callB_fun (fun _ => Z5J e hT hC hR) ?_
  try simp +contextual (disch := omega) [ld_b g1]
  refine callB_fun (fun _ => Z5K e hV) ?_
  try simp +contextual (disch := omega) [ld_b g1]
  exact Ret.val S1 (by simp [Bel, Bels]) (by first | rfl | simp)
def validR (c : Config) (e : Entry) : Bool := rightB e (min c.tenants.length 32) (min c.cells.length 16) (min c.regions 4) (min c.versions.length 30)
theorem Z5M (c : Config) (e : Entry) (hr : 0 ≤ c.regions) : Fun PP Z3A [c.v, e.v] (.bool (validR c e)) := by
  refine FunQ.intro fun h => Z4F.call ?_
  refine (Own.start h).box fun b1 h1 S1 => ?_
  refine S1.box fun b2 h2 S2 => ?_
  have g1 := S2.at1; have g2 := S2.at0
  try simp +contextual (disch := omega) [ld_b g1, ld_b g2]
  refine (Z5L e (by omega) (by omega) (by omega) (by omega)).call ?_
  try simp +contextual (disch := omega)
  exact Ret.val S2 (by simp [Bel, Bels]) (by first | rfl | simp)
end Go.Ideal
namespace Go.Ideal
mutual
/-- No reference to frozen memory. -/
def Nof : IV → Bool
  | .fptr _ => false
  | .vs _ _ => false
  | .fn _ cs => Nofs cs
  | .agg cs => Nofs cs
  | .tup cs => Nofs cs
  | _ => true
def Nofs : List IV → Bool
  | [] => true
  | c :: cs => Nof c && Nofs cs
end
def Nofss (es : List (List IV)) : Bool := es.all Nofs
mutual
theorem Nof.vr {F F' : Frz} {ρ : Lay} : ∀ (r : IV) (u : Value), Nof r = true → VR F ρ r u → VR F' ρ r u
  | .any, _, _, _ => by simp [VR]
  | .bool _, _, _, h => by simpa [VR] using h
  | .int _ _, _, _, h => by simpa [VR] using h
  | .str _, _, _, h => by simpa [VR] using h
  | .nil, _, _, h => by simpa [VR] using h
  | .snil, _, _, h => by simpa [VR] using h
  | .ptr _ _ _, _, _, h => by simpa [VR] using h
  | .sl _ _ _, _, _, h => by simpa [VR] using h
  | .fptr _, _, k, _ => by simp [Nof] at k
  | .vs _ _, _, k, _ => by simp [Nof] at k
  | .fn f cs, u, k, h => by
    simp only [VR] at h ⊢
    obtain ⟨us, rfl, hc⟩ := h
    exact ⟨us, rfl, Nofs.vrs cs _ (by simpa [Nof] using k) hc⟩
  | .agg cs, u, k, h => by
    simp only [VR] at h ⊢
    obtain ⟨us, rfl, hc⟩ := h
    exact ⟨us, rfl, Nofs.vrs cs _ (by simpa [Nof] using k) hc⟩
  | .tup cs, u, k, h => by
    simp only [VR] at h ⊢
    obtain ⟨us, rfl, hc⟩ := h
    exact ⟨us, rfl, Nofs.vrs cs _ (by simpa [Nof] using k) hc⟩
theorem Nofs.vrs {F F' : Frz} {ρ : Lay} : ∀ (rs : List IV) (us : List Value), Nofs rs = true → VRs F ρ rs us → VRs F' ρ rs us
  | [], _, _, h => by simpa [VRs] using h
  | r :: rs, us, k, h => by
    simp only [Nofs, Bool.and_eq_true] at k
    simp only [VRs] at h ⊢
    obtain ⟨u, us', rfl, h1, h2⟩ := h
    exact ⟨u, us', rfl, Nof.vr r u k.1 h1, Nofs.vrs rs us' k.2 h2⟩
end
theorem Nofs.cells {F F' : Frz} {ρ : Lay} : ∀ (rs : List IV) (g : Nat → Option Value) (off : Nat), Nofs rs = true → CellsAt F ρ rs g off → CellsAt F' ρ rs g off
  | [], _, _, _, _ => by simp [CellsAt]
  | r :: rs, g, off, k, h => by
    simp only [Nofs, Bool.and_eq_true] at k
    simp only [CellsAt] at h ⊢
    obtain ⟨⟨u, hu, h1⟩, h2⟩ := h
    exact ⟨⟨u, hu, Nof.vr r u k.1 h1⟩, Nofs.cells rs g _ k.2 h2⟩
theorem Nofss.rows {F F' : Frz} {ρ : Lay} {s : Nat} : ∀ {es : List (List IV)} {g : Nat → Option Value} {off : Nat}, Nofss es = true → RowsAt F ρ s es g off → RowsAt F' ρ s es g off
  | [], _, _, _, _ => by simp [RowsAt]
  | e :: es, g, off, k, h => by
    simp only [Nofss, List.all_cons, Bool.and_eq_true] at k
    simp only [RowsAt] at h ⊢
    exact ⟨h.1, Nofs.cells e g off k.1 h.2.1, Nofss.rows (by simpa [Nofss] using k.2) h.2.2⟩
def FunP (P : Program) (f : FuncId) (args : List IV) (R : IV → List PT → Prop) : Prop :=
  ∀ (h : Heap) (K : KT), (∀ r Ls h', R r Ls → Own h Ls h' → K r h') → Z5 P f args h K
def look : PT → Nat → Option Blk
  | [], _ => none
  | p :: l, b => if p.1 = b then p.2 else look l b
theorem look_mem : ∀ {l : PT} {b : Nat} {k : Blk}, look l b = some k → (b, some k) ∈ l
  | p :: l, b, k, h => by
    simp only [look] at h
    split at h
    · rename_i e
      obtain ⟨p1, p2⟩ := p
      simp only at e h
      subst e h
      simp
    · exact List.mem_cons_of_mem _ (look_mem h)
theorem look_get : ∀ {l : PT} (_ : (l.map (·.1)).Nodup) {p : Nat × Option Blk} (_ : p ∈ l), look l p.1 = p.2
  | q :: l, nd, p, hp => by
    simp only [List.map_cons, List.nodup_cons] at nd
    simp only [look]
    rcases List.mem_cons.1 hp with rfl | hp
    · simp
    · have : q.1 ≠ p.1 := fun e => nd.1 (e ▸ List.mem_map_of_mem hp)
      rw [if_neg this]
      exact look_get nd.2 hp
theorem FunP.lend {P : Program} {f : FuncId} {args args2 : List IV} {R : IV → List PT → Prop} {h0 h : Heap} {rs : List PT} {K : KT} (hf : FunP P f args2 R)
    (hn : ∀ r Ls, R r Ls → Nof r = true ∧ ∀ p ∈ Ls.flatten, ∀ k, p.2 = some k → Nofss k.es = true) (B : Nat → Bool) (hz : Fzs h B args2 args) (S : Own h0 rs h)
    (k : ∀ r Ls h', R r Ls → Own h0 (Ls ++ rs) h' → K r h') : Z5 P f args h K := by
  intro F ρ w us hr hv
  have s1 := Rel.freezeSet hr B
  have hv2 := VRsZ hr B args2 args us.toList hz hv
  have hH := s1.rel.toHidden
  have hlen : (hidden (killB B h)).length = h.length := by simp [hidden]
  refine ((hf (hidden (killB B h)) (fun r h' => ∃ Ls, R r Ls ∧ Own (hidden (killB B h)) Ls h') fun s Ls h' l S => ⟨Ls, l, S⟩) _ ρ w us hH hv2).mono ?_
  rintro x w' ⟨r, h', v, F1, ρ1, ⟨Ls, l, SL⟩, rfl, st, hv'⟩
  have hlt : ∀ i o, w.heap[i]? = some o → i < w.heap.size := fun i o e => (Array.getElem?_eq_some_iff.1 e).1
  have hfr : ∀ i, i < w.heap.size → w'.heap[i]? = w.heap[i]? := fun i hi => st.frame i hi hidden_img
  have hF1 : FLe F F1 := (frzB_le hr B).trans st.fF
  have hn' : h.length ≤ h'.length := by rw [← hlen]; exact st.len
  have hold : ∀ b l, b < h.length → ρ1 b = some l → ρ b = some l := fun b l hb e => st.old b l (by rw [hlen]; exact hb) e
  have hnew : ∀ b k l, h.length ≤ b → h'[b]? = some (some k) → ρ1 b = some l → w.heap.size ≤ l.R := by
    intro b k l hb e1 e2
    rcases Nat.lt_or_ge l.R w.heap.size with hx | hx
    · exact absurd (st.img l.R ⟨b, k, l, e1, e2, rfl⟩ hx) hidden_img
    · exact hx
  have main : ∀ (h2 : Heap), h2.length = h'.length → (∀ b k, h2[b]? = some (some k) → (b < h.length ∧ h[b]? = some (some k)) ∨ (h.length ≤ b ∧ h'[b]? = some (some k) ∧ Nofss k.es = true)) → Step F ρ h w F ρ1 h2 w' := by
    intro h2 hl2 hb2
    refine ⟨FLe.refl F, st.fρ, ⟨fun R o e => ?_, ?_, ?_, fun b l e => by rw [hl2]; exact st.rel.low b l e⟩, fun i hi _ => hfr i hi, ?_, fun R o e => .inl e, by rw [hl2]; exact hn', hold, st.size, st.os, st.tape, st.output⟩
    · have := hr.frz R o e; rw [hfr _ (hlt _ _ this)]; exact this
    · intro b k e
      rcases hb2 b k e with ⟨hb, e⟩ | ⟨hb, e, hnf⟩
      · obtain ⟨l, hl, hF, cs, g1, g2, g3, g4, g5⟩ := hr.liv b k e
        exact ⟨l, st.fρ b l hl, hF, cs, by rw [hfr _ (hlt _ _ g1)]; exact g1, g2, g3, g4, RowsAt.move (n := h.length) (FLe.refl F) (fun b l _ e => st.fρ b l e) _ _ _ _ _ (RowsAt.bel hr.low _ _ _ _ g5) (fun _ _ e => e) g5⟩
      · obtain ⟨l, hl, hF, cs, g1, g2, g3, g4, g5⟩ := st.rel.liv b k e
        refine ⟨l, hl, ?_, cs, g1, g2, g3, g4, Nofss.rows hnf g5⟩
        cases hx : F l.R with
        | none => rfl
        | some o => rw [hF1 _ _ hx] at hF; cases hF
    · intro b b' k1 k2 l1 l2 e e' hl1 hl2' hR
      rcases hb2 b k1 e with ⟨hb, e⟩ | ⟨hb, e, _⟩ <;> rcases hb2 b' k2 e' with ⟨hb', e'⟩ | ⟨hb', e', _⟩
      · exact hr.inj b b' k1 k2 l1 l2 e e' (hold _ _ hb hl1) (hold _ _ hb' hl2') hR
      · have := hnew b' k2 l2 hb' e' hl2'
        obtain ⟨l, hl, _, cs, g1, _⟩ := hr.liv b k1 e
        rw [hold _ _ hb hl1] at hl; cases hl
        have := hlt _ _ g1; omega
      · have := hnew b k1 l1 hb e hl1
        obtain ⟨l, hl, _, cs, g1, _⟩ := hr.liv b' k2 e'
        rw [hold _ _ hb' hl2'] at hl; cases hl
        have := hlt _ _ g1; omega
      · exact st.rel.inj b b' k1 k2 l1 l2 e e' hl1 hl2' hR
    · rintro i ⟨b, k, l, e, hl, hR⟩ hi
      rcases hb2 b k e with ⟨hb, e⟩ | ⟨hb, e, _⟩
      · exact ⟨b, k, l, e, hold _ _ hb hl, hR⟩
      · have := hnew b k l hb e hl; omega
  have hvr : VR F ρ1 r v := Nof.vr r v (hn r Ls l).1 hv'
  let h2 : Heap := h ++ (List.range (h'.length - h.length)).map fun i => look Ls.flatten (h.length + i)
  have l2 : h2.length = h'.length := by simp [h2]; omega
  have hge : ∀ b, h.length ≤ b → b < h'.length → h2[b]? = some (look Ls.flatten b) := fun b h1 h3 => by
    simp only [h2]
    rw [List.getElem?_append_right h1, List.getElem?_map, List.getElem?_range (by omega)]
    simp; congr 1; omega
  refine ⟨r, h2, v, F, ρ1, ?_, rfl, main h2 l2 ?_, hvr⟩
  · refine k _ _ _ l ⟨S.pre.trans (List.prefix_append _ _), ?_, fun p hp => ?_⟩
    · simp only [List.flatten_append, List.map_append]
      refine List.nodup_append.2 ⟨SL.nd, S.nd, fun a ha b hb e => ?_⟩
      subst e
      obtain ⟨p, hp, e1⟩ := List.mem_map.1 ha
      obtain ⟨q, hq, e2⟩ := List.mem_map.1 hb
      have := (SL.get p hp).1
      have := S.lt hq
      have e1 : p.1 = a := e1
      have e2 : q.1 = a := e2
      omega
    · simp only [List.flatten_append, List.mem_append] at hp
      rcases hp with hp | hp
      · have g := SL.get p hp
        have hlt' := SL.lt hp
        rw [hlen] at g
        exact ⟨Nat.le_trans S.len g.1, by rw [hge _ g.1 hlt', look_get SL.nd hp]⟩
      · exact ⟨(S.get p hp).1, by simp only [h2]; rw [List.getElem?_append_left (S.lt hp)]; exact (S.get p hp).2⟩
  · intro b k e
    rcases Nat.lt_or_ge b h.length with hb | hb
    · simp only [h2] at e
      rw [List.getElem?_append_left hb] at e
      exact .inl ⟨hb, e⟩
    · have hb' : b < h'.length := by rw [← l2]; exact (List.getElem?_eq_some_iff.1 e).1
      rw [hge b hb hb'] at e
      have hm := look_mem (Option.some.inj e)
      exact .inr ⟨hb, (SL.get _ hm).2, (hn r Ls l).2 _ hm k rfl⟩
end Go.Ideal
namespace Go.Ideal
def FunSl (P : Program) (f : FuncId) (args : List IV) (n : Nat) (e : TypeId) (es : List (List IV)) : Prop :=
  ∀ (h0 : Heap) (K : KT), (∀ s L h', Sl n e s es L → Own h0 [L] h' → K s h') → Z5 P f args h0 K
theorem FunSl.fn {P : Program} {f : FuncId} {args : List IV} {n : Nat} {e : TypeId} {es : List (List IV)} (hf : FunSl P f args n e es) (hb : Belss 0 es) : Fun P f args (.vs n es) :=
  FunQ.intro fun h => hf h _ fun _ _ _ l S => Ret.sl l S hb rfl
theorem FunSl.toP {P : Program} {f : FuncId} {args : List IV} {n : Nat} {e : TypeId} {es : List (List IV)} (hf : FunSl P f args n e es) : FunP P f args fun r Ls => ∃ L, Ls = [L] ∧ Sl n e r es L :=
  fun h K k => hf h K fun s L h' l S => k s [L] h' ⟨L, rfl, l⟩ S
theorem FunSl.lend {P : Program} {f : FuncId} {args args2 : List IV} {n : Nat} {e : TypeId} {es : List (List IV)} {h0 h : Heap} {rs : List PT} {K : KT} (hf : FunSl P f args2 n e es) (hn : Nofss es = true) (B : Nat → Bool) (hz : Fzs h B args2 args) (S : Own h0 rs h)
    (k : ∀ s L h', Sl n e s es L → Own h0 (L :: rs) h' → K s h') : Z5 P f args h K := by
  refine FunP.lend hf.toP ?_ B hz S ?_
  · rintro r Ls ⟨L, rfl, l⟩
    rcases l with ⟨rfl, rfl, rfl⟩ | ⟨b, rfl, rfl⟩
    · exact ⟨rfl, by simp⟩
    · refine ⟨rfl, ?_⟩
      intro p hp k hk
      simp at hp
      subst hp
      cases hk
      exact hn
  · rintro r Ls h' ⟨L, rfl, l⟩ S'
    exact k r L h' l S'
end Go.Ideal
namespace Go.Ideal
def emptyS : State := ⟨0, 0, [], [], 0, 0, 0, 0⟩
def svc (s : State) (a b : IV) : List IV := [.n s.tick, .n s.count, a, b, .n s.proven, .n s.evacuating, .n s.low, .n s.high]
abbrev SV (s : State) (a b : IV) : IV := .agg (svc s a b)
section
variable (s : State) (a b x : IV) (y : Int)
@[simp] theorem svc_len : (svc s a b).length = 8 := rfl
@[simp] theorem svc_cv : ZC (.agg (svc s a b)) = some (svc s a b) := Zc rfl
@[simp] theorem svc_ld : ldI (some true) (some 8) (svc s a b) = some (.agg (svc s a b)) := Zc rfl
@[simp] theorem svc_ld0 : ldI (some false) (some 1) (svc s a b) = some (.n s.tick) := Zc rfl
@[simp] theorem svc_ld1 : ldI (some false) (some 1) (svc s a b).tail = some (.n s.count) := Zc rfl
@[simp] theorem svc_ld2 : ldI (some false) (some 1) ((svc s a b).drop 2) = some a := Zc rfl
@[simp] theorem svc_ld3 : ldI (some false) (some 1) ((svc s a b).drop 3) = some b := Zc rfl
@[simp] theorem svc_ld4 : ldI (some false) (some 1) ((svc s a b).drop 4) = some (.n s.proven) := Zc rfl
@[simp] theorem svc_ld5 : ldI (some false) (some 1) ((svc s a b).drop 5) = some (.n s.evacuating) := Zc rfl
@[simp] theorem svc_ld6 : ldI (some false) (some 1) ((svc s a b).drop 6) = some (.n s.low) := Zc rfl
@[simp] theorem svc_ld7 : ldI (some false) (some 1) ((svc s a b).drop 7) = some (.n s.high) := Zc rfl
@[simp] theorem svc_st0 : splice 0 [.n y] (svc s a b) = svc { s with tick := y } a b := Zc rfl
@[simp] theorem svc_st2 : splice 2 [x] (svc s a b) = svc s x b := Zc rfl
@[simp] theorem svc_st3 : splice 3 [x] (svc s a b) = svc s a x := Zc rfl
@[simp] theorem svc_st4 : splice 4 [.n y] (svc s a b) = svc { s with proven := y } a b := Zc rfl
@[simp] theorem svc_st7 : splice 7 [.n y] (svc s a b) = svc { s with high := y } a b := Zc rfl
theorem svc_ones (ha : oneI a = true) (hb : oneI b = true) : (svc s a b).all oneI = true := by
  simp only [svc, List.all_cons, List.all_nil, ha, hb]; rfl
end
def RepS (T1 T2 : TypeId) (s : State) (v : IV) (L1 L2 : PT) : Prop := ∃ a b, v = SV s a b ∧ Sl 12 T1 a (s.tenants.map TState.c) L1 ∧ Sl 4 T2 b (s.cells.map CState.c) L2
theorem RepS.ex {T1 T2 : TypeId} {s : State} {v : IV} {L1 L2 : PT} (r : RepS T1 T2 s v L1 L2) : ∃ a b, v = SV s a b ∧ Sl 12 T1 a (s.tenants.map TState.c) L1 ∧ Sl 4 T2 b (s.cells.map CState.c) L2 := r
theorem RepS.fz {T1 T2 : TypeId} {s : State} {v : IV} {L1 L2 : PT} {h0 h : Heap} {rs : List PT} (r : RepS T1 T2 s v L1 L2) (S : Own h0 (L1 :: L2 :: rs) h) : Fz h (geB h0.length) s.v v := by
  obtain ⟨a, b, rfl, l1, l2⟩ := r
  have z1 := l1.fz S (l1.geB S) (Fzss.refl h _ _ (TState.bels 0 _))
  have z2 := l2.fz S.swap (l2.geB S.swap) (Fzss.refl h _ _ (CState.bels 0 _))
  simp only [Fz]
  refine ⟨_, rfl, ?_⟩
  simp only [State.c, svc, Fzs, Fz]
  simp only [Fz] at z1 z2
  exact ⟨_, _, rfl, rfl, _, _, rfl, rfl, _, _, rfl, z1, _, _, rfl, z2, _, _, rfl, rfl, _, _, rfl, rfl, _, _, rfl, rfl, _, _, rfl, rfl, rfl⟩
end Go.Ideal
namespace Go.Ideal
open Go.Proofs
set_option maxRecDepth 100000
def addAt (l : List Int) (i n : Int) : List Int := match gt l i with
  | some x => l.set i.toNat (IntKind.i64.wrap (x + n))
  | none => l
@[simp] theorem addAt_length (l : List Int) (i n : Int) : (addAt l i n).length = l.length := by
  unfold addAt; split <;> simp
theorem sl_set {b : Nat} {xs : List Int} {i : Nat} {x y : Int} : Sl 1 Z0 (.sl b 0 (ints xs).length) (ints (xs.set i y)) [(b, some ⟨1, Z0, (ints xs).set i (splice 0 [.n y] [.n x])⟩)] := by
  have e1 : splice 0 [.n y] [.n x] = [.n y] := rfl
  rw [e1, ints_set]
  have : (ints xs).length = (ints (xs.set i y)).length := by simp
  rw [this]
  exact Sl.mk 1 Z0 b _
theorem Z2q {h0 h : Heap} {rs : List PT} {L : PT} {K : KT} {s : IV} {xs : List Int} {i n : Int} (l : Sl 1 Z0 s (ints xs) L) (S : Own h0 (L :: rs) h)
    (k : ∀ L' h', Sl 1 Z0 s (ints (addAt xs i n)) L' → Own h0 (L' :: rs) h' → K (.tup []) h') : Z5 PP Z1R [s, .n i, .n n] h K := by
  refine Z37.call ?_
  unfold addAt at k
  cases e : gt xs i with
  | none =>
    rw [e] at k
    have : (decide (0 ≤ i) && decide (i < (xs.length : Int))) = false := by
      rcases gt_none.1 e with h | h <;> simp <;> omega
    simp +contextual (disch := omega) [Z37.e, l.len Z1K, this]
    exact k _ _ l S
  | some x =>
    rw [e] at k
    obtain ⟨i0, hx⟩ := gt_some.1 e
    obtain ⟨_, hlt⟩ := gt_lt e
    have : (decide (0 ≤ i) && decide (i < (xs.length : Int))) = true := by simp; omega
    obtain ⟨b, rfl, rfl, hi⟩ := l.at_ (ints_get hx)
    have g := S.at0
    simp +contextual (disch := omega) [Z37.e, this, Z5h i0 hlt g, ld_p (o := 0) Z0 g (ints_get hx)]
    refine S.storeE (ints_get hx) rfl (by simp) (by simp) rfl fun h' S' => ?_
    exact k _ _ sl_set S'
theorem Z2r {h0 h : Heap} {rs : List PT} {L : PT} {K : KT} {s : IV} {xs : List Int} {i n : Int} (l : Sl 1 Z0 s (ints xs) L) (S : Own h0 (L :: rs) h)
    (k : ∀ L' h', Sl 1 Z0 s (ints (addAt xs i n)) L' → Own h0 (L' :: rs) h' → K (.tup []) h') : Z5 PP Z1Q [s, .n i, .n n] h K := by
  refine Z36.call ?_
  unfold addAt at k
  cases e : gt xs i with
  | none =>
    rw [e] at k
    have : (decide (0 ≤ i) && decide (i < (xs.length : Int))) = false := by
      rcases gt_none.1 e with h | h <;> simp <;> omega
    simp +contextual (disch := omega) [Z36.e, l.len Z5y, this]
    exact k _ _ l S
  | some x =>
    rw [e] at k
    obtain ⟨i0, hx⟩ := gt_some.1 e
    obtain ⟨_, hlt⟩ := gt_lt e
    have : (decide (0 ≤ i) && decide (i < (xs.length : Int))) = true := by simp; omega
    obtain ⟨b, rfl, rfl, hi⟩ := l.at_ (ints_get hx)
    have g := S.at0
    simp +contextual (disch := omega) [Z36.e, this, Z5x i0 hlt g, ld_p (o := 0) Z0 g (ints_get hx)]
    refine S.storeE (ints_get hx) rfl (by simp) (by simp) rfl fun h' S' => ?_
    exact k _ _ sl_set S'
def bookT (acc : List Int) (p : TState × Tenant) : List Int :=
  let a := if active p.1 then addAt (addAt acc p.1.home p.2.load) p.1.target p.2.load else acc
  if p.1.placed then addAt (addAt a p.1.standby p.2.shadow) p.1.next p.2.shadow else a
def zeros (c : Config) : List Int := List.replicate c.cells.length 0
def booked (c : Config) (s : State) : List Int := (s.tenants.zip c.tenants).foldl bookT (zeros c)
@[simp] theorem bookT_length (acc : List Int) (p : TState × Tenant) : (bookT acc p).length = acc.length := by
  unfold bookT; split <;> split <;> simp
theorem foldl_length {α : Type} (f : List Int → α → List Int) (hf : ∀ a p, (f a p).length = a.length) : ∀ (l : List α) (a : List Int), (l.foldl f a).length = a.length
  | [], a => rfl
  | p :: l, a => by simp [List.foldl_cons, foldl_length f hf l, hf]
@[simp] theorem booked_length (c : Config) (s : State) : (booked c s).length = c.cells.length := by
  unfold booked; rw [foldl_length _ (fun a p => by simp)]; simp [zeros]
def SumVar (b : Nat) (xs : List Int) (L : PT) : Prop := ∃ s Ls, L = (b, some ⟨1, ZF, [[s]]⟩) :: Ls ∧ Sl 1 Z0 s (ints xs) Ls
theorem Z5N {h0 h : Heap} {rs : List PT} {L : PT} {K : KT} {b : Nat} {xs : List Int} {x : TState} {t : Tenant} (l : SumVar b xs L) (S : Own h0 (L :: rs) h)
    (k : ∀ L' h', SumVar b (bookT xs (x, t)) L' → Own h0 (L' :: rs) h' → K (.tup []) h') : Z5 PP Z3o [x.v, t.v, .ptr b 0 0] h K := by
  obtain ⟨s, Ls, rfl, ls⟩ := l
  refine Z2k.call ?_
  refine S.box fun b1 h1 S1 => ?_
  refine S1.box fun b2 h2 S2 => ?_
  have g2 := S2.at0
  have g1 := S2.at1
  have gb := S2.at2
  unfold bookT at k
  simp +contextual (disch := omega) [Z2k.j1g, ld_b g1]
  refine (Z4l x).call ?_
  have part2 : ∀ (ys : List Int) (M : PT) (h3 : Heap), Sl 1 Z0 s (ints ys) M → Own h0 (M :: [(b, some ⟨1, ZF, [[s]]⟩)] :: [(b2, some ⟨t.c.length, Zs, [t.c]⟩)] :: [(b1, some ⟨x.c.length, Za, [x.c]⟩)] :: rs) h3 →
      (∀ L' h', SumVar b (if x.placed then addAt (addAt ys x.standby t.shadow) x.next t.shadow else ys) L' → Own h0 (L' :: rs) h' → K (.tup []) h') → Z2k.j2 K (.ptr b 0 0) (.ptr b1 0 0) (.ptr b2 0 0) h3 := by
    intro ys M h3 lM S3 k2
    have e2 := S3.at2; have e1 := S3.at3; have eb := S3.at1
    cases hp : x.placed with
    | false =>
      simp +contextual (disch := omega) [Z2k.j2, ld_b e1, hp]
      rw [hp] at k2
      exact k2 _ _ ⟨s, M, rfl, lM⟩ ((S3.swap.del 2).del 2).uncons
    | true =>
      rw [hp] at k2
      simp +contextual (disch := omega) [Z2k.j2, ld_b e1, ld_b e2, ld_b eb, hp]
      refine Z2r lM S3 fun M4 h4 l4 S4 => ?_
      have f2 := S4.at2; have f1 := S4.at3; have fb := S4.at1
      simp +contextual (disch := omega) [ld_b f1, ld_b f2, ld_b fb]
      refine Z2r l4 S4 fun M5 h5 l5 S5 => ?_
      exact k2 _ _ ⟨s, M5, rfl, l5⟩ ((S5.swap.del 2).del 2).uncons
  have S2' := S2.up2.cons1.swap
  cases ha : active x with
  | false =>
    rw [ha] at k
    simp +contextual (disch := omega)
    exact part2 xs Ls h2 ls S2' k
  | true =>
    rw [ha] at k
    simp +contextual (disch := omega) [ld_b g1, ld_b g2, ld_b gb]
    refine Z2r ls S2' fun M3 h3 l3 S3 => ?_
    have f2 := S3.at2; have f1 := S3.at3; have fb := S3.at1
    simp +contextual (disch := omega) [ld_b f1, ld_b f2, ld_b fb]
    refine Z2r l3 S3 fun M4 h4 l4 S4 => ?_
    exact part2 _ M4 h4 l4 S4 k
theorem Z3h {c : Config} {s : State} {g : FuncId} {caps : List IV} (hc : Len c.tenants) (hs : Len s.tenants) (hgo : goO PP g = true) (I : Nat → PT → Prop)
    (hstep : ∀ (i : Nat) (x : TState) (t : Tenant) {h0 h : Heap} {rs : List PT} {L : PT} {K : KT}, s.tenants[i]? = some x → c.tenants[i]? = some t → I i L → Own h0 (L :: rs) h →
      (∀ L' h', I (i + 1) L' → Own h0 (L' :: rs) h' → K (.tup []) h') → Z5 PP g ([x.v, t.v] ++ caps) h K)
    {h0 h : Heap} {rs : List PT} {L : PT} {K : KT} (l : I 0 L) (S : Own h0 (L :: rs) h) (k : ∀ L' h', I (min s.tenants.length c.tenants.length) L' → Own h0 (L' :: rs) h' → K (.tup []) h') :
    Z5 PP Z2g [c.v, s.v, .fn g caps] h K := by
  refine Z1w.call ?_
  refine S.box fun b1 h1 S1 => ?_
  refine S1.box fun b2 h2 S2 => ?_
  have g2 := S2.at0
  have g1 := S2.at1
  generalize hN : min s.tenants.length c.tenants.length = N at k
  have hNs : N ≤ s.tenants.length := by omega
  have hNc : N ≤ c.tenants.length := by omega
  have hN' : min (s.tenants.length : Int) (c.tenants.length : Int) = N := by omega
  unfold Len at hc hs
  have loop : ∀ (E : List (List IV)) (hE : ∀ (i : Nat) (x : TState), i < N → s.tenants[i]? = some x → E[i]? = some x.c) (n i : Nat) (L : PT) (h : Heap), n + i = N → I i L →
      Own h0 (L :: [(b2, some ⟨s.c.length, Z3, [s.c]⟩)] :: [(b1, some ⟨c.c.length, Z6, [c.c]⟩)] :: rs) h →
      Z1w.l1 K (.fn g caps) (.ptr b1 0 0) (.vs 12 E) (.n N) (.n i) h := by
    intro E hE n
    induction n with
    | zero =>
      intro i L h hi l S
      refine Z1w.l1_round ?_
      have : i = N := by omega
      subst this
      simp +contextual (disch := omega) [Z1w.b1g, Z1w.j2g]
      exact k _ _ l ((S.del 1).del 1)
    | succ n ih =>
      intro i L h hi l S
      refine Z1w.l1_round ?_
      have hlt : i < N := by omega
      obtain ⟨x, hx⟩ : ∃ x, s.tenants[i]? = some x := ⟨_, List.getElem?_eq_getElem (by omega)⟩
      obtain ⟨t, ht⟩ : ∃ t, c.tenants[i]? = some t := ⟨_, List.getElem?_eq_getElem (by omega)⟩
      have q1 := S.at2
      have hx' := hE i x hlt hx
      simp +contextual (disch := omega) [Z1w.b1g, Z1w.j2g, hlt, Z1w.j3g, Z2m (show (0 : Int) ≤ (i : Int) by omega) (show E[((i : Int)).toNat]? = some x.c by simpa using hx')]
      refine S.alloc Z1D fun b4 h4 S4 => ?_
      try simp +contextual (disch := omega)
      refine S4.put (new := x.c) rfl (by simp) rfl (by simp) fun h5 S5 => ?_
      have q1 := S5.at3
      have q4 := S5.at0
      simp +contextual (disch := omega) [ld_b q1, ld_b q4, Z2I (show (0 : Int) ≤ (i : Int) by omega) (show (c.tenants.map Tenant.c)[((i : Int)).toNat]? = some t.c by simp [ht]), hgo]
      refine hstep i x t hx ht l S5.swap fun L' h6 l' S6 => ?_
      simp +contextual (disch := omega) [Z1w.j4g, w64]
      exact ih (i + 1) L' h6 (by omega) l' (S6.del 1)
  simp +contextual (disch := omega) [Z1w.j1g, ld_b g2, ld_b g1, hN']
  have e := sl_v (P := PP) (h := h2) (t := Zh) (lo := none) (hi := some (.n N)) (es := s.tenants.map TState.c) (l := 0) (m := N) Z29 Z4d rfl rfl (by omega) (by omega) (by simp; omega)
  have e2 : (((s.tenants.map TState.c).take (N : Int).toNat).drop (0 : Int).toNat).length = N := by simp; omega
  simp only [e, oD_some, Z5i, e2]
  refine loop _ (fun i x hi hx => ?_) N 0 L h2 (by omega) l S2.up2
  rw [show (N : Int).toNat = N by omega, show (0 : Int).toNat = 0 from rfl, List.drop_zero, List.getElem?_take_of_lt hi]
  simp [hx]
def partB (c : Config) (s : State) (f : List Int → TState × Tenant → List Int) (i : Nat) : List Int := ((s.tenants.zip c.tenants).take i).foldl f (zeros c)
theorem partB_succ {c : Config} {s : State} {f : List Int → TState × Tenant → List Int} {i : Nat} {x : TState} {t : Tenant} (hx : s.tenants[i]? = some x) (ht : c.tenants[i]? = some t) : partB c s f (i + 1) = f (partB c s f i) (x, t) := by
  unfold partB
  have : (s.tenants.zip c.tenants)[i]? = some (x, t) := by simp [List.getElem?_zip_eq_some, hx, ht]
  rw [List.take_add_one, this]; simp
theorem partB_all {c : Config} {s : State} {f : List Int → TState × Tenant → List Int} : partB c s f (min s.tenants.length c.tenants.length) = (s.tenants.zip c.tenants).foldl f (zeros c) := by
  unfold partB; rw [List.take_of_length_le (by simp)]
structure Small (c : Config) (s : State) : Prop where
  cells : (c.cells.length : Int) ≤ 1000
  zones : (c.zones.length : Int) ≤ 1000
  tenants : (c.tenants.length : Int) ≤ 1000
  stenants : (s.tenants.length : Int) ≤ 1000
  scells : (s.cells.length : Int) ≤ 1000
theorem zeros_eq (c : Config) : List.replicate ((c.cells.length : Int)).toNat [IV.int .i64 0] = ints (zeros c) := by simp [zeros, ints]
theorem Own.only {h0 h : Heap} {L : PT} {rs : List PT} (S : Own h0 (L :: rs) h) : Own h0 [L] h := S.sub (by simp)
theorem Z4m {c : Config} {s : State} (hm : Small c s) : FunSl PP Z1z [c.v, s.v] 1 Z0 (ints (booked c s)) := by
  intro h K k
  refine Z4v.call ?_
  refine (Own.start h).box fun b1 h1 S1 => ?_
  refine S1.box fun b2 h2 S2 => ?_
  have g2 := S2.at0
  have g1 := S2.at1
  have q := hm.cells
  simp +contextual (disch := omega) [ld_b g1]
  refine Z4k S2 (by omega) (by omega) fun sv Ls h3 ls S3 => ?_
  rw [zeros_eq] at ls
  refine S3.alloc Z4j fun b4 h4 S4 => ?_
  refine S4.put (new := [sv]) ls.one.1 (by simp) rfl (by simp [ls.one.2]) fun h5 S5 => ?_
  have g1 := S5.at3
  have g2 := S5.at2
  simp +contextual (disch := omega) [ld_b g1, ld_b g2]
  refine Z3h (by unfold Len; have := hm.tenants; omega) (by unfold Len; have := hm.stenants; omega) (by kernel_rfl) (fun i L => SumVar b4 (partB c s bookT i) L) ?_ (L := (b4, some ⟨1, ZF, [[sv]]⟩) :: Ls) ⟨sv, Ls, rfl, ls⟩ S5.uncons ?_
  · intro i x t h0 h rs L K hx ht l S k
    rw [partB_succ hx ht] at k
    exact Z5N l S k
  · rintro L' h6 ⟨s2, L2, rfl, l2⟩ S6
    have q := S6.at0
    simp +contextual (disch := omega) [ld_b q]
    rw [partB_all] at l2
    exact k _ _ _ l2 S6.cons1.drop.only
theorem Z22 {c : Config} {s : State} (hm : Small c s) : Fun PP Z1z [c.v, s.v] (.vs 1 (ints (booked c s))) := (Z4m hm).fn (by simp)
end Go.Ideal
namespace Go.Ideal
open Go.Proofs
set_option maxRecDepth 100000
theorem Z2M {c : Config} {s : State} (hm : Small c s) (hl : s.tenants.length = c.tenants.length) : Fun PP Z2e [c.v, s.v] (.vs 1 (ints (booked c s))) := by
  refine FunQ.intro fun h0 => ZY.call ?_
  refine (Own.start h0).box fun b1 h1 S1 => ?_
  refine S1.box fun b2 h2 S2 => ?_
  have g1 := S2.at1
  have q := hm.cells
  have q2 := hm.tenants
  have loop : ∀ (n i : Nat) (sv : IV) (L : PT) (h : Heap), n + i = s.tenants.length → Sl 1 Z0 sv (ints (partB c s bookT i)) L →
      Own h0 (L :: [(b2, some ⟨s.c.length, Z3, [s.c]⟩)] :: [(b1, some ⟨c.c.length, Z6, [c.c]⟩)] :: []) h →
      ZY.l1 (Ret (fun x => x = .vs 1 (ints (booked c s))) h0) (.ptr b1 0 0) (.ptr b2 0 0) sv (.n i) h := by
    intro n
    induction n with
    | zero =>
      intro i sv L h hi l S
      refine ZY.l1_round ?_
      have e2 := S.at1
      have : i = s.tenants.length := by omega
      subst this
      simp +contextual (disch := omega) [ZY.b1g, ld_b e2, ZY.j8]
      have : partB c s bookT s.tenants.length = booked c s := by
        have := partB_all (c := c) (s := s) (f := bookT)
        rw [hl, Nat.min_self] at this
        rw [hl]; exact this
      rw [this] at l
      exact Ret.sl l S (by simp) rfl
    | succ n ih =>
      intro i sv L h hi l S
      refine ZY.l1_round ?_
      have hlt : i < s.tenants.length := by omega
      obtain ⟨x, hx⟩ : ∃ x, s.tenants[i]? = some x := ⟨_, List.getElem?_eq_getElem hlt⟩
      obtain ⟨t, ht⟩ : ∃ t, c.tenants[i]? = some t := ⟨_, List.getElem?_eq_getElem (by omega)⟩
      have e2 := S.at1; have e1 := S.at2
      have d2 := S.slot2.at3; have d1 := S.slot2.at4
      have ix1 : ∀ h, Zf PP Zh (.vs 12 (s.tenants.map TState.c)) (.n i) h = some (.fptr x.c) := fun h => Z2m (by omega) (by simp [hx])
      have ix2 : ∀ h, Zf PP Zw (.vs 7 (c.tenants.map Tenant.c)) (.n i) h = some (.fptr t.c) := fun h => Z2I (by omega) (by simp [ht])
      simp +contextual (disch := omega) [ZY.b1g, ld_b e2, hlt, ZY.j3g, ld_b d1, ld_b d2, ix1, ix2, newA]
      refine (S.push2 _ _).put (new := x.c) rfl (by simp) rfl (by simp) fun h5 S5 => ?_
      have d1 := S5.at4
      try simp +contextual (disch := omega) [ld_b d1]
      refine S5.swap.put (new := t.c) rfl (by simp) rfl (by simp) fun h6 S6 => ?_
      have S7 := S6.up2
      have next : ∀ (sv : IV) (M : PT) (h7 : Heap), Sl 1 Z0 sv (ints (bookT (partB c s bookT i) (x, t))) M → Own h0 (M :: [(h.length + 1, some ⟨7, Zs, [t.c]⟩)] :: [(h.length, some ⟨12, Za, [x.c]⟩)] :: [(b2, some ⟨s.c.length, Z3, [s.c]⟩)] :: [(b1, some ⟨c.c.length, Z6, [c.c]⟩)] :: []) h7 →
          ZY.j7 (Ret (fun x => x = .vs 1 (ints (booked c s))) h0) (.ptr b1 0 0) (.ptr b2 0 0) sv (.n i) h7 := by
        intro sv M h7 l7 S7
        simp +contextual (disch := omega) [ZY.j7g, w64]
        rw [← partB_succ (f := bookT) hx ht] at l7
        exact ih (i + 1) sv M h7 (by omega) l7 ((S7.del 1).del 1)
      have part2 : ∀ (ys : List Int) (M : PT) (h7 : Heap), bookT (partB c s bookT i) (x, t) = addAt (addAt ys x.standby t.shadow) x.next t.shadow → Sl 1 Z0 sv (ints ys) M → Own h0 (M :: [(h.length + 1, some ⟨7, Zs, [t.c]⟩)] :: [(h.length, some ⟨12, Za, [x.c]⟩)] :: [(b2, some ⟨s.c.length, Z3, [s.c]⟩)] :: [(b1, some ⟨c.c.length, Z6, [c.c]⟩)] :: []) h7 →
          ZY.j6 (Ret (fun x => x = .vs 1 (ints (booked c s))) h0) (.ptr b1 0 0) (.ptr b2 0 0) sv (.n i) (.ptr h.length 0 0) (.ptr (h.length + 1) 0 0) h7 := by
        intro ys M h7 he l7 S7
        have fx := S7.at2; have ft := S7.at1
        simp +contextual (disch := omega) [ZY.j6g, ld_b fx, ld_b ft]
        refine Z2q l7 S7 fun M8 h8 l8 S8 => ?_
        have fx := S8.at2; have ft := S8.at1
        try simp +contextual (disch := omega) [ld_b fx, ld_b ft]
        refine Z2q l8 S8 fun M9 h9 l9 S9 => ?_
        rw [← he] at l9
        exact next sv M9 h9 l9 S9
      have fx := S7.at2; have ft := S7.at1
      cases hp : x.placed with
      | false =>
        simp +contextual (disch := omega) [ZY.j4g, ld_b fx, hp]
        exact next sv L h6 (by simpa [bookT, active, hp] using l) S7
      | true =>
        cases hs : x.shed with
        | true =>
          simp +contextual (disch := omega) [ZY.j4g, ld_b fx, hp, ZY.j5g, hs]
          exact part2 _ L h6 (by simp [bookT, active, hp, hs]) l S7
        | false =>
          simp +contextual (disch := omega) [ZY.j4g, ld_b fx, ld_b ft, hp, ZY.j5g, hs]
          refine Z2q l S7 fun M8 h8 l8 S8 => ?_
          have fx := S8.at2; have ft := S8.at1
          try simp +contextual (disch := omega) [ld_b fx, ld_b ft]
          refine Z2q l8 S8 fun M9 h9 l9 S9 => ?_
          exact part2 _ M9 h9 (by simp [bookT, active, hp, hs]) l9 S9
  simp +contextual (disch := omega) [ZY.j1g, ld_b g1]
  refine Z3c S2 (by omega) (by omega) fun sv Ls h3 ls S3 => ?_
  rw [zeros_eq] at ls
  try simp +contextual (disch := omega) [ZY.j2g]
  exact loop s.tenants.length 0 sv Ls h3 (by omega) (by simpa [partB] using ls) S3
end Go.Ideal
namespace Go.Ideal
open Go.Proofs
set_option maxRecDepth 100000
def filt (n : Nat) (p : Nat → Bool) : List Int := ((List.range n).filter p).map fun i : Nat => (i : Int)
theorem filt_succ (n : Nat) (p : Nat → Bool) : filt (n + 1) p = filt n p ++ (if p n then [(n : Int)] else []) := by
  unfold filt
  rw [List.range_succ, List.filter_append, List.map_append]
  congr 1
  by_cases h : p n <;> simp [h]
theorem filt_length (n : Nat) (p : Nat → Bool) : (filt n p).length ≤ n := by
  unfold filt
  rw [List.length_map]
  exact Nat.le_trans (List.length_filter_le _ _) (by simp)
def overP (c : Config) (s : State) (i : Nat) : Bool := match c.cells[i]?, (booked c s)[i]? with
  | some x, some n => decide (x.capacity < n)
  | _, _ => false
def over (c : Config) (s : State) : List Int := filt c.cells.length (overP c s)
theorem Z4n {c : Config} {s : State} (hm : Small c s) : FunSl PP Z2f [c.v, s.v] 1 Z0 (ints (over c s)) := by
  intro h0 K k
  refine Z1d.call ?_
  refine (Own.start h0).box fun b1 h1 S1 => ?_
  refine S1.box fun b2 h2 S2 => ?_
  have g2 := S2.at0
  have g1 := S2.at1
  have q := hm.cells
  have loop : ∀ (n i : Nat) (sv : IV) (L : PT) (h : Heap), n + i = c.cells.length → Sl 1 Z0 sv (ints (filt i (overP c s))) L →
      Own h0 (L :: [(b2, some ⟨s.c.length, Z3, [s.c]⟩)] :: [(b1, some ⟨c.c.length, Z6, [c.c]⟩)] :: []) h →
      Z1d.l1 K (.ptr b1 0 0) sv (.vs 1 (ints (booked c s))) (.n c.cells.length) (.n i) h := by
    intro n
    induction n with
    | zero =>
      intro i sv L h hi l S
      refine Z1d.l1_round ?_
      have : i = c.cells.length := by omega
      subst this
      simp +contextual (disch := omega) [Z1d.b1g, Z1d.j3g, Z1d.j6]
      exact k _ _ _ l ((S.del 1).del 1)
    | succ n ih =>
      intro i sv L h hi l S
      refine Z1d.l1_round ?_
      have hlt : i < c.cells.length := by omega
      obtain ⟨x, hx⟩ : ∃ x, c.cells[i]? = some x := ⟨_, List.getElem?_eq_getElem hlt⟩
      obtain ⟨m, hb⟩ : ∃ m, (booked c s)[i]? = some m := ⟨_, List.getElem?_eq_getElem (by simpa using hlt)⟩
      have e1 := S.at2
      have ix1 : ∀ h, Zf PP Zk (.vs 1 (ints (booked c s))) (.n i) h = some (.fptr [.n m]) := fun h => Z1y (by omega) (ints_get (by simpa using hb))
      have ix2 : ∀ h, Zf PP Zn (.vs 2 (c.cells.map CellC.c)) (.n i) h = some (.fptr x.c) := fun h => Z1Z (by omega) (by simp [hx])
      have hp : overP c s i = decide (x.capacity < m) := by simp [overP, hx, hb]
      have next : ∀ (sv : IV) (M : PT) (h7 : Heap), Sl 1 Z0 sv (ints (filt (i + 1) (overP c s))) M → Own h0 (M :: [(b2, some ⟨s.c.length, Z3, [s.c]⟩)] :: [(b1, some ⟨c.c.length, Z6, [c.c]⟩)] :: []) h7 →
          Z1d.j5 K (.ptr b1 0 0) sv (.vs 1 (ints (booked c s))) (.n c.cells.length) (.n i) h7 := by
        intro sv M h7 l7 S7
        simp +contextual (disch := omega) [Z1d.j5g, w64]
        exact ih (i + 1) sv M h7 (by omega) l7 S7
      simp +contextual (disch := omega) [Z1d.b1g, hlt, Z1d.j3g, Z1d.j4g, ld_b e1, ix1, ix2]
      refine bK'_dec (fun hc => ?_) (fun hc => ?_)
      · refine Z3b l S rfl rfl rfl (by have := filt_length i (overP c s); simp; omega) fun s' L' h' l' S' => ?_
        refine next s' L' h' ?_ S'
        rw [filt_succ, hp, ints_append]
        simpa [hc] using l'
      · refine next sv L h ?_ S
        rw [filt_succ, hp]
        simpa [hc] using l
  simp +contextual (disch := omega) [Z1d.j1g, Z1d.j2g, ld_b g1, ld_b g2]
  refine (Z22 hm).call ?_
  try simp +contextual (disch := omega)
  exact loop c.cells.length 0 .snil [] h2 (by omega) (Sl.nil 1 Z0) (S2.perm (by simp))
theorem Z54 {c : Config} {s : State} (hm : Small c s) : Fun PP Z2f [c.v, s.v] (.vs 1 (ints (over c s))) := (Z4n hm).fn (by simp)
theorem Z55 {c : Config} {s : State} (hm : Small c s) (hl : s.tenants.length = c.tenants.length) : FunSl PP Z2u [c.v, s.v] 1 Z0 (ints (over c s)) := by
  intro h0 K k
  refine Z1g.call ?_
  refine (Own.start h0).box fun b1 h1 S1 => ?_
  refine S1.box fun b2 h2 S2 => ?_
  have g2 := S2.at0
  have g1 := S2.at1
  have q := hm.cells
  have loop : ∀ (n i : Nat) (sv : IV) (L : PT) (h : Heap), n + i = c.cells.length → Sl 1 Z0 sv (ints (filt i (overP c s))) L →
      Own h0 (L :: [(b2, some ⟨s.c.length, Z3, [s.c]⟩)] :: [(b1, some ⟨c.c.length, Z6, [c.c]⟩)] :: []) h →
      Z1g.l1 K (.ptr b1 0 0) sv (.vs 1 (ints (booked c s))) (.n i) h := by
    intro n
    induction n with
    | zero =>
      intro i sv L h hi l S
      refine Z1g.l1_round ?_
      have : i = c.cells.length := by omega
      subst this
      simp +contextual (disch := omega) [Z1g.b1g, Z1g.j6]
      exact k _ _ _ l ((S.del 1).del 1)
    | succ n ih =>
      intro i sv L h hi l S
      refine Z1g.l1_round ?_
      have hlt : i < c.cells.length := by omega
      obtain ⟨x, hx⟩ : ∃ x, c.cells[i]? = some x := ⟨_, List.getElem?_eq_getElem hlt⟩
      obtain ⟨m, hb⟩ : ∃ m, (booked c s)[i]? = some m := ⟨_, List.getElem?_eq_getElem (by simpa using hlt)⟩
      have e1 := S.at2
      have ix1 : ∀ h, Zf PP Zk (.vs 1 (ints (booked c s))) (.n i) h = some (.fptr [.n m]) := fun h => Z1y (by omega) (ints_get (by simpa using hb))
      have ix2 : ∀ h, Zf PP Zn (.vs 2 (c.cells.map CellC.c)) (.n i) h = some (.fptr x.c) := fun h => Z1Z (by omega) (by simp [hx])
      have hp : overP c s i = decide (x.capacity < m) := by simp [overP, hx, hb]
      have next : ∀ (sv : IV) (M : PT) (h7 : Heap), Sl 1 Z0 sv (ints (filt (i + 1) (overP c s))) M → Own h0 (M :: [(b2, some ⟨s.c.length, Z3, [s.c]⟩)] :: [(b1, some ⟨c.c.length, Z6, [c.c]⟩)] :: []) h7 →
          Z1g.j5 K (.ptr b1 0 0) sv (.vs 1 (ints (booked c s))) (.n i) h7 := by
        intro sv M h7 l7 S7
        simp +contextual (disch := omega) [Z1g.j5g, w64]
        exact ih (i + 1) sv M h7 (by omega) l7 S7
      simp +contextual (disch := omega) [Z1g.b1g, hlt, Z1g.j4g, ld_b e1, ix1, ix2]
      refine bK'_dec (fun hc => ?_) (fun hc => ?_)
      · refine Z3b l S rfl rfl rfl (by have := filt_length i (overP c s); simp; omega) fun s' L' h' l' S' => ?_
        refine next s' L' h' ?_ S'
        rw [filt_succ, hp, ints_append]
        simpa [hc] using l'
      · refine next sv L h ?_ S
        rw [filt_succ, hp]
        simpa [hc] using l
  simp +contextual (disch := omega) [Z1g.j1g, Z1g.j2g, ld_b g1, ld_b g2]
  refine (Z2M hm hl).call ?_
  try simp +contextual (disch := omega) [Z1g.j3g]
  exact loop c.cells.length 0 .snil [] h2 (by omega) (Sl.nil 1 Z0) (S2.perm (by simp))
theorem Z56 {c : Config} {s : State} (hm : Small c s) (hl : s.tenants.length = c.tenants.length) : Fun PP Z2u [c.v, s.v] (.vs 1 (ints (over c s))) := (Z55 hm hl).fn (by simp)
def free (c : Config) (s : State) (cell : Int) : Int := match gt c.cells cell, gt (booked c s) cell with
  | some x, some n => IntKind.i64.wrap (x.capacity - n)
  | _, _ => 0
theorem Z2N {c : Config} {s : State} (hm : Small c s) (cell : Int) : Fun PP Z2v [c.v, s.v, .n cell] (.n (free c s cell)) := by
  refine FunQ.intro fun h0 => Z2C.call ?_
  refine (Own.start h0).box fun b1 h1 S1 => ?_
  refine S1.box fun b2 h2 S2 => ?_
  have g2 := S2.at0
  have g1 := S2.at1
  unfold free
  cases e : gt c.cells cell with
  | none =>
    have : (decide (cell < 0) || decide ((c.cells.length : Int) ≤ cell)) = true := by
      rcases gt_none.1 e with h | h <;> simp <;> omega
    simp +contextual (disch := omega) [Z2C.j1g, ld_b g1, this]
    exact Ret.val S2 (by simp [Bel, Bels]) (by first | rfl | simp)
  | some x =>
    obtain ⟨i0, hx⟩ := gt_some.1 e
    obtain ⟨_, hlt⟩ := gt_lt e
    have : (decide (cell < 0) || decide ((c.cells.length : Int) ≤ cell)) = false := by simp; omega
    obtain ⟨m, hb⟩ := gt_ex (l := booked c s) i0 (by simpa using hlt)
    have ix1 : ∀ h, Zf PP Zk (.vs 1 (ints (booked c s))) (.n cell) h = some (.fptr [.n m]) := fun h => Z1y i0 (ints_get (gt_some.1 hb).2)
    have ix2 : ∀ h, Zf PP Zn (.vs 2 (c.cells.map CellC.c)) (.n cell) h = some (.fptr x.c) := fun h => Z1Z i0 (by simp [hx])
    simp +contextual (disch := omega) [Z2C.j1g, ld_b g1, ld_b g2, this, Z2C.j2, ix2]
    refine (Z22 hm).call ?_
    try simp +contextual (disch := omega) [ld_b g1, ix1, ix2]
    rw [hb]
    exact Ret.val S2 (by simp [Bel, Bels]) (by first | rfl | simp)
theorem Z3i {c : Config} {s : State} (hm : Small c s) (hl : s.tenants.length = c.tenants.length) (cell : Int) : Fun PP Z2T [c.v, s.v, .n cell] (.n (free c s cell)) := by
  refine FunQ.intro fun h0 => Z2D.call ?_
  refine (Own.start h0).box fun b1 h1 S1 => ?_
  refine S1.box fun b2 h2 S2 => ?_
  have g2 := S2.at0
  have g1 := S2.at1
  unfold free
  cases e : gt c.cells cell with
  | none =>
    have : (decide (cell < 0) || decide ((c.cells.length : Int) ≤ cell)) = true := by
      rcases gt_none.1 e with h | h <;> simp <;> omega
    simp +contextual (disch := omega) [Z2D.j1g, ld_b g1, this]
    exact Ret.val S2 (by simp [Bel, Bels]) (by first | rfl | simp)
  | some x =>
    obtain ⟨i0, hx⟩ := gt_some.1 e
    obtain ⟨_, hlt⟩ := gt_lt e
    have : (decide (cell < 0) || decide ((c.cells.length : Int) ≤ cell)) = false := by simp; omega
    obtain ⟨m, hb⟩ := gt_ex (l := booked c s) i0 (by simpa using hlt)
    have ix1 : ∀ h, Zf PP Zk (.vs 1 (ints (booked c s))) (.n cell) h = some (.fptr [.n m]) := fun h => Z1y i0 (ints_get (gt_some.1 hb).2)
    have ix2 : ∀ h, Zf PP Zn (.vs 2 (c.cells.map CellC.c)) (.n cell) h = some (.fptr x.c) := fun h => Z1Z i0 (by simp [hx])
    simp +contextual (disch := omega) [Z2D.j1g, ld_b g1, ld_b g2, this, Z2D.j2, ix2]
    refine (Z2M hm hl).call ?_
    try simp +contextual (disch := omega) [ld_b g1, ix1, ix2]
    rw [hb]
    exact Ret.val S2 (by simp [Bel, Bels]) (by first | rfl | simp)
end Go.Ideal
namespace Go.Ideal
open Go.Proofs
set_option maxRecDepth 100000
def mayR (c : Config) (t cell : Int) : Bool := match gt c.tenants t with
  | some x => hasB x.allowed (regionOf c cell)
  | none => false
theorem Z2c {c : Config} (hz : ZonesOk c) (t cell : Int) : Fun PP Z1T [c.v, .n t, .n cell] (.bool (mayR c t cell)) := by
  refine FunQ.intro fun h => Z4K.call ?_
  refine (Own.start h).box fun b1 h1 S1 => ?_
  have g1 := S1.at0
  unfold mayR
  cases e : gt c.tenants t with
  | none =>
    have : (decide (0 ≤ t) && decide (t < (c.tenants.length : Int))) = false := by
      rcases gt_none.1 e with h | h <;> simp <;> omega
    try simp +contextual (disch := omega) [ld_b g1, this]
    exact Ret.val S1 (by simp [Bel, Bels]) (by first | rfl | simp)
  | some x =>
    obtain ⟨i0, hx⟩ := gt_some.1 e
    obtain ⟨_, hlt⟩ := gt_lt e
    have : (decide (0 ≤ t) && decide (t < (c.tenants.length : Int))) = true := by simp; omega
    have ix : ∀ h, Zf PP Zw (.vs 7 (c.tenants.map Tenant.c)) (.n t) h = some (.fptr x.c) := fun h => Z2I i0 (by simp [hx])
    try simp +contextual (disch := omega) [ld_b g1, this, ix]
    refine (Z1E hz cell).call ?_
    try simp +contextual (disch := omega) [ld_b g1, ix]
    refine (Z2p _ _).call ?_
    try simp +contextual (disch := omega)
    exact Ret.val S1 (by simp [Bel, Bels]) (by first | rfl | simp)
def apart (c : Config) (a b : Int) : Bool := decide (0 ≤ regionOf c a) && decide (0 ≤ regionOf c b) && !decide (regionOf c a = regionOf c b)
theorem Z57 {c : Config} (hz : ZonesOk c) (a b : Int) : Fun PP Z35 [c.v, .n a, .n b] (.bool (apart c a b)) := by
  refine FunQ.intro fun h => Z4P.call ?_
  refine (Own.start h).box fun b1 h1 S1 => ?_
  have g1 := S1.at0
  try simp +contextual (disch := omega) [ld_b g1]
  refine (Z1E hz a).call ?_
  try simp +contextual (disch := omega) [ld_b g1]
  refine (Z1E hz b).call ?_
  try simp +contextual (disch := omega) [ld_b g1]
  exact Ret.val S1 (by simp [Bel, Bels]) (by first | rfl | simp)
def together (c : Config) (a b : Int) : Bool := decide (0 ≤ a) && decide (0 ≤ b) && !apart c a b
theorem Z2O {c : Config} (hz : ZonesOk c) (a b : Int) : Fun PP Z26 [c.v, .n a, .n b] (.bool (together c a b)) := by
  refine FunQ.intro fun h => Z4L.call ?_
  refine (Own.start h).box fun b1 h1 S1 => ?_
  have g1 := S1.at0
  try simp +contextual (disch := omega) [ld_b g1]
  refine callB_fun (fun _ => Z57 hz a b) ?_
  try simp +contextual (disch := omega) [ld_b g1]
  exact Ret.val S1 (by simp [Bel, Bels]) (by first | rfl | simp)
def frozenR (c : Config) (s : State) (cell : Int) : Bool := hasB s.evacuating (regionOf c cell)
theorem Z2P {c : Config} (hz : ZonesOk c) (s : State) (cell : Int) : Fun PP Z2i [c.v, s.v, .n cell] (.bool (frozenR c s cell)) := by
  refine FunQ.intro fun h => Z4J.call ?_
  refine (Own.start h).box fun b1 h1 S1 => ?_
  refine S1.box fun b2 h2 S2 => ?_
  have g1 := S2.at1; have g2 := S2.at0
  try simp +contextual (disch := omega) [ld_b g1, ld_b g2]
  refine (Z1E hz cell).call ?_
  try simp +contextual (disch := omega) [ld_b g1, ld_b g2]
  refine (Z2p _ _).call ?_
  try simp +contextual (disch := omega)
  exact Ret.val S2 (by simp [Bel, Bels]) (by first | rfl | simp)
def provenR (s : State) (v : Int) : Bool := hasB s.proven v
theorem Z2s (s : State) (v : Int) : Fun PP Z1V [s.v, .n v] (.bool (provenR s v)) := by
  refine FunQ.intro fun h => Z4O.call ?_
  refine (Own.start h).box fun b1 h1 S1 => ?_
  have g1 := S1.at0
  try simp +contextual (disch := omega) [ld_b g1]
  refine (Z2p _ _).call ?_
  try simp +contextual (disch := omega)
  exact Ret.val S1 (by simp [Bel, Bels]) (by first | rfl | simp)
def openR (s : State) (cell : Int) : Bool := match gt s.cells cell with
  | some x => !provenR s x.running || !provenR s x.wanted
  | none => false
theorem Z5O (s : State) {cell : Int} {x : CState} (hx : gt s.cells cell = some x) : Fun PP Z3S [s.v, .n cell] (.bool (openR s cell)) := by
  refine FunQ.intro fun h => Z4N.call ?_
  refine (Own.start h).box fun b1 h1 S1 => ?_
  have g1 := S1.at0
  obtain ⟨i0, hx'⟩ := gt_some.1 hx
  have ix : ∀ h, Zf PP Zl (.vs 4 (s.cells.map CState.c)) (.n cell) h = some (.fptr x.c) := fun h => Z3d i0 (by simp [hx'])
  unfold openR
  rw [hx]
  try simp +contextual (disch := omega) [ld_b g1, ix]
  refine (Z2s _ _).call ?_
  try simp +contextual (disch := omega) [ld_b g1, ix]
  refine callB_fun (fun _ => Z2s _ _) ?_
  try simp +contextual (disch := omega) [ld_b g1, ix]
  exact Ret.val S1 (by simp [Bel]) (by cases provenR s x.running <;> cases provenR s x.wanted <;> simp)
def cutW (w : Window) (tick : Int) : Window := { w with till := min w.till (tick + 1), start := min w.start (min w.till (tick + 1)) }
theorem Z5P (w : Window) {tick : Int} (ht : 0 ≤ tick ∧ tick ≤ 1073741824) : Fun PP Z3R [w.v, .n tick] (cutW w tick).v := by
  refine FunQ.intro fun h => Z4M.call ?_
  refine (Own.start h).box fun b1 h1 S1 => ?_
  refine S1.alloc Z20 fun b2 h2 S2 => ?_
  have g1 := S2.at1
  try simp +contextual (disch := omega) [ld_b g1, w64]
  refine S2.swap.store rfl (by simp) (by simp) (by simp [oneI]) fun h3 S3 => ?_
  have g1 := S3.at0
  try simp +contextual (disch := omega) [ld_b g1]
  refine S3.store rfl (by simp) (by simp) (by simp [oneI]) fun h4 S4 => ?_
  have g1 := S4.at0
  try simp +contextual (disch := omega) [ld_b g1]
  refine S4.swap.put (new := (cutW w tick).c) rfl (by simp) rfl (by simp) fun h5 S5 => ?_
  have g2 := S5.at0
  try simp +contextual (disch := omega) [ld_b g2]
  exact Ret.val S5 (by simp [Bel]) rfl
theorem Z58 (e : Int) : Fun PP Zv [.n e] (.tup [SV emptyS .snil .snil, .n e]) := by
  refine FunQ.intro fun h => Z46.call ?_
  unfold Z46.e
  refine (Own.start h).alloc ZH fun b1 h1 S1 => ?_
  try simp +contextual (disch := omega) [Zo, fillI]
  refine S1.put (new := svc emptyS .snil .snil) rfl (by simp) rfl rfl fun h2 S2 => ?_
  have g := S2.at0
  try simp +contextual (disch := omega) [ld_b g]
  exact Ret.val S2 (by simp [Bel, Bels, svc]) rfl
end Go.Ideal
namespace Go.Ideal
open Go.Proofs
set_option maxRecDepth 100000
theorem Fun.lend {P : Program} {f : FuncId} {args args2 : List IV} {r : IV} {h : Heap} {K : KT} (hf : Fun P f args2 r) (hs : Sca r = true) {B : Nat → Bool} (hz : Fzs h B args2 args) (k : K r h) : Z5 P f args h K :=
  FunQ.lend hf B hz fun x e => by subst e; exact ⟨hs, k⟩
theorem callB_lend {P : Program} {f : FuncId} {args args2 : List IV} {r : IV} {h : Heap} {K : KT} {b : Bool} (hf : b = true → Fun P f args2 r) (hs : Sca r = true) {B : Nat → Bool} (hz : Fzs h B args2 args) (k : K (gv b r) h) : callB P b f args h K := by
  cases b
  · exact k
  · exact (hf rfl).lend hs hz k
theorem Fzs.nil (h : Heap) (B : Nat → Bool) : Fzs h B [] [] := by simp [Fzs]
theorem Fzs.cons {h : Heap} {B : Nat → Bool} {c r : IV} {cs rs : List IV} (a : Fz h B c r) (b : Fzs h B cs rs) : Fzs h B (c :: cs) (r :: rs) := by simp only [Fzs]; exact ⟨r, rs, rfl, a, b⟩
abbrev Rep := RepS Za Zj
theorem Rep.nil : Rep emptyS (SV emptyS .snil .snil) [] [] := ⟨_, _, rfl, Sl.nil 12 _, Sl.nil 4 _⟩
theorem fz_csn {c : Config} {s : State} {v : IV} {L1 L2 : PT} {h0 h : Heap} {rs : List PT} (r : Rep s v L1 L2) (S : Own h0 (L1 :: L2 :: rs) h) (i : Int) : Fzs h (geB h0.length) [c.v, s.v, .n i] [c.v, v, .n i] :=
  Fzs.cons (Fz.refl _ _ _ (by simp [Bel])) (Fzs.cons (r.fz S) (Fzs.cons (Fz.refl _ _ _ (by simp [Bel])) (Fzs.nil _ _)))
theorem fz_sn {s : State} {v : IV} {L1 L2 : PT} {h0 h : Heap} {rs : List PT} (r : Rep s v L1 L2) (S : Own h0 (L1 :: L2 :: rs) h) (i : Int) : Fzs h (geB h0.length) [s.v, .n i] [v, .n i] :=
  Fzs.cons (r.fz S) (Fzs.cons (Fz.refl _ _ _ (by simp [Bel])) (Fzs.nil _ _))
theorem fz_cs {c : Config} {s : State} {v : IV} {L1 L2 : PT} {h0 h : Heap} {rs : List PT} (r : Rep s v L1 L2) (S : Own h0 (L1 :: L2 :: rs) h) : Fzs h (geB h0.length) [c.v, s.v] [c.v, v] :=
  Fzs.cons (Fz.refl _ _ _ (by simp [Bel])) (Fzs.cons (r.fz S) (Fzs.nil _ _))
section
variable {h0 h : Heap} {A B C D E L1 L2 : PT} {rs : List PT}
theorem Own.six (S : Own h0 (A :: B :: C :: D :: L1 :: L2 :: rs) h) : Own h0 (L1 :: L2 :: A :: B :: C :: D :: rs) h := S.perm (by
  simp only [List.flatten_cons]
  have : ((A ++ B ++ C ++ D) ++ (L1 ++ L2) ++ rs.flatten).Perm ((L1 ++ L2) ++ (A ++ B ++ C ++ D) ++ rs.flatten) := List.Perm.append_right _ List.perm_append_comm
  simpa [List.append_assoc] using this.symm)
theorem Own.five (S : Own h0 (A :: B :: C :: L1 :: L2 :: rs) h) : Own h0 (L1 :: L2 :: A :: B :: C :: rs) h := S.perm (by
  simp only [List.flatten_cons]
  have : ((A ++ B ++ C) ++ (L1 ++ L2) ++ rs.flatten).Perm ((L1 ++ L2) ++ (A ++ B ++ C) ++ rs.flatten) := List.Perm.append_right _ List.perm_append_comm
  simpa [List.append_assoc] using this.symm)
theorem Own.nils (S : Own h0 rs h) : Own h0 ([] :: [] :: rs) h := S.perm (by simp)
end
def StT (f : FuncId) (args : IV → List IV) (s : State) (out : State × Int) : Prop :=
  ∀ {h0 h : Heap} {rs : List PT} {L1 L2 : PT} {v : IV} {K : KT}, Rep s v L1 L2 → Own h0 (L1 :: L2 :: rs) h → (∀ v' L1' L2' h', Rep out.1 v' L1' L2' → Own h0 (L1' :: L2' :: rs) h' → K (.tup [v', .n out.2]) h') → Z5 PP f (args v) h K
def err (n : Int) : State × Int := (emptyS, n)
def fitS (c : Config) (s : State) : State × Int := if over c s = [] then (s, 0) else err 10
theorem nofss_ints (l : List Int) : Nofss (ints l) = true := by simp [Nofss, ints, Nofs, Nof]
theorem Z5Q {c : Config} {s : State} (hm : Small c s) (hl : s.tenants.length = c.tenants.length) : StT Z1U (fun v => [c.v, v]) s (fitS c s) := by
  intro h0 h rs L1 L2 v K r S k
  refine Z3a.call ?_
  obtain ⟨a, b, rfl, l1, l2⟩ := r.ex
  refine S.box fun b1 h1 S1 => ?_
  refine S1.box fun b2 h2 S2 => ?_
  refine S2.alloc ZH fun b3 h3 S3 => ?_
  have S4 := S3.five
  have g1 := S4.at4; have g2 := S4.at3
  try simp +contextual (disch := omega) [Z3a.j1g, ld_b g1, ld_b g2]
  refine (Z55 hm hl).lend (nofss_ints _) _ (fz_cs r S4) S4 fun sv L h5 l S5 => ?_
  try simp +contextual (disch := omega) [l.len Z1K]
  unfold fitS at k
  have S6 := S5.drop.up2
  have g2 := S6.at3
  by_cases ho : over c s = []
  · rw [if_pos ho] at k
    try simp +contextual (disch := omega) [ho, Z3a.j2, ld_b g2]
    refine S6.put (new := svc s a b) rfl (by simp) rfl (svc_ones s a b l1.one.2 l2.one.2) fun h6 S7 => ?_
    have g3 := S7.at0
    try simp +contextual (disch := omega) [ld_b g3]
    exact k _ _ _ _ r ((S7.drop.del 2).del 2)
  · rw [if_neg ho] at k
    have : 0 < (over c s).length := by cases hx : over c s with | nil => exact absurd hx ho | cons _ _ => simp
    try simp +contextual (disch := omega) [this, Zo, fillI]
    refine S6.put (new := svc emptyS .snil .snil) rfl (by simp) rfl rfl fun h6 S7 => ?_
    have g3 := S7.at0
    try simp +contextual (disch := omega) [ld_b g3]
    exact k _ _ _ _ Rep.nil (S7.drop.drop.drop.drop.drop).nils
end Go.Ideal
namespace Go.Ideal
open Go.Proofs
set_option maxRecDepth 100000
def setT (s : State) (i : Int) (x : TState) : State := { s with tenants := s.tenants.set i.toNat x }
def modeOf (s : State) (i : Int) : Int := ((gt s.cells i).map (·.mode)).getD 0
def placeS (c : Config) (s : State) (e : Entry) (x : TState) : State × Int :=
  if x.placed = true then err 4
  else if (!decide (modeOf s e.cell = 1) || (decide (0 ≤ e.other) && !decide (modeOf s e.other = 1))) = true then err 6
  else if (frozenR c s e.cell || (decide (0 ≤ e.other) && frozenR c s e.other)) = true then err 12
  else if (!mayR c e.tenant e.cell || (decide (0 ≤ e.other) && (!mayR c e.tenant e.other || together c e.cell e.other))) = true then err 11
  else fitS c (setT s e.tenant { x with placed := true, home := e.cell, standby := e.other })
theorem Rep.tenant {s : State} {v : IV} {L1 L2 : PT} (r : Rep s v L1 L2) {i : Int} {x : TState} (hx : gt s.tenants i = some x) :
    ∃ bt b, v = SV s (.sl bt 0 s.tenants.length) b ∧ L1 = [(bt, some ⟨12, Za, s.tenants.map TState.c⟩)] ∧ Sl 4 Zj b (s.cells.map CState.c) L2 ∧ (s.tenants.map TState.c)[i.toNat]? = some x.c ∧ 0 ≤ i ∧ i < s.tenants.length := by
  obtain ⟨a, b, rfl, l1, l2⟩ := r.ex
  have h1 := (gt_some.1 hx).2
  have h2 : (s.tenants.map TState.c)[i.toNat]? = some x.c := by simp [h1]
  obtain ⟨bt, rfl, rfl, _⟩ := l1.at_ h2
  exact ⟨bt, b, by simp, rfl, l2, h2, gt_lt hx⟩
theorem Rep.setT {s : State} {bt : Nat} {b : IV} {L2 : PT} (l2 : Sl 4 Zj b (s.cells.map CState.c) L2) (i : Int) (x : TState) :
    Rep (setT s i x) (SV s (.sl bt 0 s.tenants.length) b) [(bt, some ⟨12, Za, (s.tenants.map TState.c).set i.toNat x.c⟩)] L2 := by
  refine ⟨_, _, rfl, ?_, l2⟩
  have e1 : (s.tenants.map TState.c).set i.toNat x.c = (s.tenants.set i.toNat x).map TState.c := by simp [List.map_set]
  have e2 : s.tenants.length = ((s.tenants.set i.toNat x).map TState.c).length := by simp
  rw [e1]
  show Sl 12 _ _ ((Ideal.setT s i x).tenants.map TState.c) _
  rw [e2]
  exact Sl.mk 12 _ bt _
theorem set_set {α : Type} (l : List α) (i : Nat) (x y : α) : (l.set i x).set i y = l.set i y := by simp
theorem set_at {α : Type} {l : List α} {i : Nat} {x y : α} (h : l[i]? = some x) : (l.set i y)[i]? = some y := by
  have := (List.getElem?_eq_some_iff.1 h).1; simp [this]
section
variable {h0 h : Heap} {rs X : List PT} {L1 L2 : PT} {K : KT} {n : Int} {b4 : Nat} {cs : List IV} {c : Config} {s : State} {v : IV}
theorem no_tail (S : Own h0 (L1 :: L2 :: [(b4, some ⟨8, Z3, [cs]⟩)] :: X) h) (hcs : 8 = cs.length) (hd : ∀ h' A B, Own h0 (A :: B :: X) h' → Own h0 (A :: B :: rs) h') (k : ∀ v' L1' L2' h', Rep (err n).1 v' L1' L2' → Own h0 (L1' :: L2' :: rs) h' → K (.tup [v', .n (err n).2]) h') :
    Z5 PP Zv [.int .i64 n] h fun v1 h1 => oD (Zg v1 0) h1 fun v2 => oD (Zg v1 1) h1 fun v3 => oS (Z9 PP Z3 (.ptr b4 0 0) v2 h1) h1 fun h2 => oV v3 h2 fun v4 => Zd PP [.c (.ptr b4 0 0) Z3, .v v4] h2 K := by
  refine (Z58 _).call ?_
  try simp +contextual (disch := omega)
  refine S.up2.put (new := svc emptyS .snil .snil) rfl (by simp) hcs rfl fun h6 S6 => ?_
  have g := S6.at0
  try simp +contextual (disch := omega) [ld_b g]
  exact k _ _ _ _ Rep.nil (hd _ _ _ S6.drop.drop.drop.nils)
theorem no_tail' (S : Own h0 (L1 :: L2 :: [(b4, some ⟨8, Z3, [cs]⟩)] :: X) h) (hcs : 8 = cs.length) (hd : ∀ h' A B, Own h0 (A :: B :: X) h' → Own h0 (A :: B :: rs) h') (k : ∀ v' L1' L2' h', Rep (err n).1 v' L1' L2' → Own h0 (L1' :: L2' :: rs) h' → K (.tup [v', .n (err n).2]) h') :
    Z5 PP Zv [.int .i64 n] h fun v1 h1 => oD (Zg v1 0) h1 fun v2 => oD (Zg v1 1) h1 fun v3 => oS (Z9 PP Z3 (.ptr b4 0 0) v2 h1) h1 fun h2 => oD (Z1 PP Z3 (.ptr b4 0 0) h2) h2 fun v => K (.tup [v, v3]) h2 := by
  refine (Z58 _).call ?_
  try simp +contextual (disch := omega)
  refine S.up2.put (new := svc emptyS .snil .snil) rfl (by simp) hcs rfl fun h6 S6 => ?_
  have g := S6.at0
  try simp +contextual (disch := omega) [ld_b g]
  exact k _ _ _ _ Rep.nil (hd _ _ _ S6.drop.drop.drop.nils)
theorem fit_tail (hm : Small c s) (hl : s.tenants.length = c.tenants.length) (r : Rep s v L1 L2) (S : Own h0 (L1 :: L2 :: [(b4, some ⟨8, Z3, [cs]⟩)] :: X) h) (hcs : 8 = cs.length) (hd : ∀ h' A B, Own h0 (A :: B :: X) h' → Own h0 (A :: B :: rs) h')
    (k : ∀ v' L1' L2' h', Rep (fitS c s).1 v' L1' L2' → Own h0 (L1' :: L2' :: rs) h' → K (.tup [v', .n (fitS c s).2]) h') :
    Z5 PP Z1U [c.v, v] h fun v1 h1 => oD (Zg v1 0) h1 fun v2 => oD (Zg v1 1) h1 fun v3 => oS (Z9 PP Z3 (.ptr b4 0 0) v2 h1) h1 fun h2 => oD (Z1 PP Z3 (.ptr b4 0 0) h2) h2 fun v => K (.tup [v, v3]) h2 := by
  refine Z5Q hm hl r S fun v' M1 M2 h1 r1 S1 => ?_
  obtain ⟨a, b, rfl, l1, l2⟩ := r1.ex
  try simp +contextual (disch := omega)
  refine S1.up2.put (new := svc (fitS c s).1 a b) rfl (by simp) hcs (svc_ones _ a b l1.one.2 l2.one.2) fun h6 S6 => ?_
  have g := S6.at0
  try simp +contextual (disch := omega) [ld_b g]
  exact k _ _ _ _ r1 (hd _ _ _ S6.drop)
end
theorem Z5R {c : Config} {s : State} {e : Entry} {x : TState} (hm : Small c s) (hl : s.tenants.length = c.tenants.length) (hz : ZonesOk c) (hx : gt s.tenants e.tenant = some x) {y : CState} (hy : gt s.cells e.cell = some y) (ho : 0 ≤ e.other → ∃ y, gt s.cells e.other = some y) :
    StT Z3C (fun v => [c.v, v, e.v]) s (placeS c s e x) := by
  intro h0 h rs L1 L2 v K r S k
  refine ZU.call ?_
  obtain ⟨bt, b, rfl, rfl, l2, hx', i0, ilt⟩ := r.tenant hx
  refine S.box fun b1 h1 S1 => ?_
  refine S1.box fun b2 h2 S2 => ?_
  refine S2.box fun b3 h3 S3 => ?_
  refine S3.alloc ZH fun b4 h4 S4 => ?_
  have S5 := S4.six
  clear S S1 S2 S3 S4
  have gt' := S5.at0; have g4 := S5.at2; have g3 := S5.at3; have g2 := S5.at4; have g1 := S5.at5
  have qt := fun (o : Nat) (t : TypeId) => ld_p (P := PP) (o := o) t gt' hx'
  have it := Z1C (k := .i64) (lo := 0) i0 ilt gt'
  have hd : ∀ h' A B, Own h0 (A :: B :: [(b3, some ⟨9, Z8, [e.c]⟩)] :: [(b2, some ⟨8, Z3, [svc s (.sl bt 0 s.tenants.length) b]⟩)] :: [(b1, some ⟨10, Z6, [c.c]⟩)] :: rs) h' → Own h0 (A :: B :: rs) h' := fun _ _ _ S => ((S.del 2).del 2).del 2
  obtain ⟨hy0, hy1⟩ := gt_some.1 hy
  have hy2 : (s.cells.map CState.c)[e.cell.toNat]? = some y.c := by simp [hy1]
  obtain ⟨bc, rfl, rfl, hclt⟩ := l2.at_ hy2
  have gc := S5.at1
  have ic := Z1a (k := .i64) (lo := 0) hy0 (gt_lt hy).2 gc
  have qc := fun (o : Nat) (t : TypeId) => ld_p (P := PP) (o := o) t gc hy2
  have my : modeOf s e.cell = y.mode := by simp [modeOf, hy]
  have r' := r
  simp only [List.length_map] at r S5 gc ic qc l2 hd
  unfold placeS at k
  have zap : ∀ {A B C : PT}, (∀ h' M N, Own h0 (M :: N :: A :: B :: C :: rs) h' → Own h0 (M :: N :: rs) h') := fun _ _ _ S => ((S.del 2).del 2).del 2
  have last : placeS c s e x = fitS c (setT s e.tenant { x with placed := true, home := e.cell, standby := e.other }) →
      ZU.j13 K (.ptr b1 0 0) (.ptr b2 0 0) (.ptr b3 0 0) (.ptr b4 0 0) (.ptr bt e.tenant.toNat 0) h4 := by
    intro hq
    unfold placeS at hq
    rw [hq] at k
    simp +contextual (disch := omega) [ZU.j13, ld_b g3]
    refine S5.storeE hx' rfl (by simp) (by simp) (by simp [oneI]) fun h5 S6 => ?_
    have g3 := S6.at3
    have hx6 := set_at (y := splice 0 [.bool true] x.c) hx'
    try simp +contextual (disch := omega) [ld_b g3]
    refine S6.storeE hx6 rfl (by simp) (by simp) (by simp [oneI]) fun h6 S7 => ?_
    have g3 := S7.at3
    have hx7 := set_at (y := splice 2 [.n e.cell] (splice 0 [.bool true] x.c)) hx6
    try simp +contextual (disch := omega) [ld_b g3]
    refine S7.storeE hx7 rfl (by simp) (by simp) (by simp [oneI]) fun h7 S8 => ?_
    have g1 := S8.at5; have g2 := S8.at4
    try simp +contextual (disch := omega) [ld_b g1, ld_b g2]
    rw [set_set, set_set] at S8
    have rr := Rep.setT (bt := bt) l2 e.tenant { x with placed := true, home := e.cell, standby := e.other }
    refine fit_tail (rs := rs) (s := setT s e.tenant { x with placed := true, home := e.cell, standby := e.other }) ?_ (by simpa [setT] using hl) rr S8 rfl zap k
    exact ⟨hm.cells, hm.zones, hm.tenants, by simpa [setT] using hm.stenants, hm.scells⟩
  have e1 : ZU.j3 K (.ptr b1 0 0) (.ptr b2 0 0) (.ptr b3 0 0) (.ptr b4 0 0) (.ptr bt e.tenant.toNat 0) (.bool (decide (0 ≤ e.other))) h4 := by
    cases hp : x.placed with
    | true =>
      simp only [hp, if_true] at k
      simp +contextual (disch := omega) [ZU.j3g, qt, hp, ZU.j4]
      exact no_tail S5 rfl zap k
    | false =>
    unfold placeS at last
    simp only [hp, Bool.false_eq_true, if_false] at k last
    have stage : ZU.j6 K (.ptr b1 0 0) (.ptr b2 0 0) (.ptr b3 0 0) (.ptr b4 0 0) (.ptr bt e.tenant.toNat 0) (.bool (decide (0 ≤ e.other))) h4 := by
      by_cases hot : 0 ≤ e.other
      · obtain ⟨z, hz2⟩ := ho hot
        have hz3 : (s.cells.map CState.c)[e.other.toNat]? = some z.c := by simp [(gt_some.1 hz2).2]
        have io := Z1a (k := .i64) (lo := 0) hot (gt_lt hz2).2 gc
        have qo := fun (o : Nat) (t : TypeId) => ld_p (P := PP) (o := o) t gc hz3
        have mz : modeOf s e.other = z.mode := by simp [modeOf, hz2]
        simp +contextual (disch := omega) [ZU.j6g, ld_b g2, ld_b g3, ic, qc, hot, io, qo, ZU.j7]
        refine bK'_b (fun hc => ?_) (fun hc => ?_)
        · rw [if_pos (by simpa [my, mz, hot] using hc)] at k
          exact no_tail S5 rfl zap k
        · have hq : ¬ (!decide (modeOf s e.cell = 1) || (decide (0 ≤ e.other) && !decide (modeOf s e.other = 1))) = true := by simpa [my, mz, hot] using hc
          rw [if_neg hq] at k last
          simp +contextual (disch := omega) [ZU.j9g, ld_b g1, ld_b g2, ld_b g3, hot]
          refine (Z2P hz s e.cell).lend rfl (fz_csn r S5 e.cell) ?_
          try simp +contextual (disch := omega) [ld_b g1, ld_b g2, ld_b g3, hot]
          refine callB_lend (fun _ => Z2P hz s e.other) rfl (fz_csn r S5 e.other) ?_
          try simp +contextual (disch := omega) [ZU.j10]
          refine bK'_b (fun hc => ?_) (fun hc => ?_)
          · rw [if_pos (by simpa [hot] using hc)] at k
            exact no_tail S5 rfl zap k
          · have hq : ¬ (frozenR c s e.cell || (decide (0 ≤ e.other) && frozenR c s e.other)) = true := by simpa [hot] using hc
            rw [if_neg hq] at k last
            simp +contextual (disch := omega) [ZU.j12g, ld_b g1, ld_b g2, ld_b g3, hot]
            refine (Z2c hz _ _).call ?_
            try simp +contextual (disch := omega) [ld_b g1, ld_b g2, ld_b g3, hot]
            refine callB_fun (fun _ => Z2c hz _ _) ?_
            try simp +contextual (disch := omega) [ld_b g1, ld_b g2, ld_b g3, hot]
            refine callB_fun (fun _ => Z2O hz _ _) ?_
            try simp +contextual (disch := omega)
            refine bK'_b (fun hc => ?_) (fun hc => ?_)
            · rw [if_pos (by revert hc; simp only [hot, decide_true, Bool.true_and]; cases mayR c e.tenant e.cell <;> cases mayR c e.tenant e.other <;> simp)] at k
              exact no_tail' S5 rfl zap k
            · refine last ?_
              rw [if_neg (by revert hc; simp only [hot, decide_true, Bool.true_and]; cases mayR c e.tenant e.cell <;> cases mayR c e.tenant e.other <;> simp)]
      · simp +contextual (disch := omega) [ZU.j6g, ld_b g2, ld_b g3, ic, qc, hot, ZU.j7]
        refine bK'_b (fun hc => ?_) (fun hc => ?_)
        · rw [if_pos (by simpa [my, hot] using hc)] at k
          exact no_tail S5 rfl zap k
        · have hq : ¬ (!decide (modeOf s e.cell = 1) || (decide (0 ≤ e.other) && !decide (modeOf s e.other = 1))) = true := by simpa [my, hot] using hc
          rw [if_neg hq] at k last
          simp +contextual (disch := omega) [ZU.j9g, ld_b g1, ld_b g2, ld_b g3, hot]
          refine (Z2P hz s e.cell).lend rfl (fz_csn r S5 e.cell) ?_
          try simp +contextual (disch := omega) [ld_b g1, ld_b g2, ld_b g3, hot, ZU.j10]
          refine bK'_b (fun hc => ?_) (fun hc => ?_)
          · rw [if_pos (by simpa [hot] using hc)] at k
            exact no_tail S5 rfl zap k
          · have hq : ¬ (frozenR c s e.cell || (decide (0 ≤ e.other) && frozenR c s e.other)) = true := by simpa [hot] using hc
            rw [if_neg hq] at k last
            simp +contextual (disch := omega) [ZU.j12g, ld_b g1, ld_b g2, ld_b g3, hot]
            refine (Z2c hz _ _).call ?_
            try simp +contextual (disch := omega) [ld_b g1, ld_b g2, ld_b g3, hot]
            refine bK'_b (fun hc => ?_) (fun hc => ?_)
            · rw [if_pos (by simpa [hot] using hc)] at k
              exact no_tail' S5 rfl zap k
            · refine last ?_
              rw [if_neg (by simpa [hot] using hc)]
    simp +contextual (disch := omega) [ZU.j3g, qt, hp, ZU.j4]
    exact stage
  simp +contextual (disch := omega) [ZU.j1g, ZU.j2g, ld_b g2, ld_b g3, it]
  exact e1
end Go.Ideal
namespace Go.Ideal
open Go.Proofs
set_option maxRecDepth 100000
def cutS (s : State) (e : Entry) (x : TState) : State × Int :=
  if x.placed = false then err 4 else if e.epoch ≠ x.epoch then err 7 else (setT s e.tenant { x with window := cutW x.window e.tick }, 0)
theorem Z5S {s : State} {e : Entry} {x : TState} (hx : gt s.tenants e.tenant = some x) (ht : 0 ≤ e.tick ∧ e.tick ≤ 1073741824) : StT Z3E (fun v => [v, e.v]) s (cutS s e x) := by
  intro h0 h rs L1 L2 v K r S k
  refine Z27.call ?_
  obtain ⟨bt, b, rfl, rfl, l2, hx', i0, ilt⟩ := r.tenant hx
  refine S.box fun b2 h2 S2 => ?_
  refine S2.box fun b3 h3 S3 => ?_
  refine S3.alloc ZH fun b4 h4 S4 => ?_
  have S5 := S4.five
  have gt' := S5.at0; have g3 := S5.at3; have g2 := S5.at4
  have qt := fun (o : Nat) (t : TypeId) => ld_p (P := PP) (o := o) t gt' hx'
  have it := Z1C (k := .i64) (lo := 0) i0 ilt gt'
  have zap : ∀ {A B : PT}, (∀ h' M N, Own h0 (M :: N :: A :: B :: rs) h' → Own h0 (M :: N :: rs) h') := fun _ _ _ S => (S.del 2).del 2
  unfold cutS at k
  simp +contextual (disch := omega) [Z27.j1g, Z27.j2g, ld_b g2, ld_b g3, it, qt, Z27.j3]
  cases hp : x.placed with
  | false =>
    simp only [hp, if_true] at k
    simp +contextual (disch := omega)
    exact no_tail S5 rfl zap k
  | true =>
    rw [if_neg (by simp [hp])] at k
    simp +contextual (disch := omega) [Z27.j5g, ld_b g3, qt]
    by_cases he : e.epoch = x.epoch
    · rw [if_neg (by simp [he])] at k
      simp +contextual (disch := omega) [he, Z27.j6, ld_b g3, qt]
      refine (Z5P x.window ht).call ?_
      try simp +contextual (disch := omega)
      refine S5.storeE hx' rfl (by simp) (by simp) (by simp) fun h5 S6 => ?_
      have g2 := S6.at4
      try simp +contextual (disch := omega) [ld_b g2]
      refine S6.up2.put (new := svc s (.sl bt 0 s.tenants.length) b) rfl (by simp) rfl (svc_ones s _ b rfl l2.one.2) fun h6 S7 => ?_
      have g4 := S7.at0
      try simp +contextual (disch := omega) [ld_b g4]
      have rr := Rep.setT (bt := bt) l2 e.tenant { x with window := cutW x.window e.tick }
      exact k _ _ _ _ rr (zap _ _ _ S7.drop)
    · rw [if_pos he] at k
      simp +contextual (disch := omega) [he]
      exact no_tail' S5 rfl zap k
def readyS (s : State) (e : Entry) (x : TState) (y : CState) : State × Int :=
  if x.placed = false then err 4 else if e.cell ≠ x.next then err 5 else if y.mode = 3 then err 6 else (setT s e.tenant { x with standby := e.cell, next := -1 }, 0)
theorem Z5T {s : State} {e : Entry} {x : TState} {y : CState} (hx : gt s.tenants e.tenant = some x) (hy : gt s.cells e.cell = some y) : StT Z3G (fun v => [v, e.v]) s (readyS s e x y) := by
  intro h0 h rs L1 L2 v K r S k
  refine Z1J.call ?_
  obtain ⟨bt, b, rfl, rfl, l2, hx', i0, ilt⟩ := r.tenant hx
  refine S.box fun b2 h2 S2 => ?_
  refine S2.box fun b3 h3 S3 => ?_
  refine S3.alloc ZH fun b4 h4 S4 => ?_
  have S5 := S4.five
  have gt' := S5.at0; have g3 := S5.at3; have g2 := S5.at4
  have qt := fun (o : Nat) (t : TypeId) => ld_p (P := PP) (o := o) t gt' hx'
  have it := Z1C (k := .i64) (lo := 0) i0 ilt gt'
  have zap : ∀ {A B : PT}, (∀ h' M N, Own h0 (M :: N :: A :: B :: rs) h' → Own h0 (M :: N :: rs) h') := fun _ _ _ S => (S.del 2).del 2
  obtain ⟨hy0, hy1⟩ := gt_some.1 hy
  have hy2 : (s.cells.map CState.c)[e.cell.toNat]? = some y.c := by simp [hy1]
  obtain ⟨bc, rfl, rfl, hclt⟩ := l2.at_ hy2
  have gc := S5.at1
  have ic := Z1a (k := .i64) (lo := 0) hy0 (gt_lt hy).2 gc
  have qc := fun (o : Nat) (t : TypeId) => ld_p (P := PP) (o := o) t gc hy2
  unfold readyS at k
  simp +contextual (disch := omega) [Z1J.j1g, Z1J.j2g, ld_b g2, ld_b g3, it, qt, Z1J.j3]
  cases hp : x.placed with
  | false =>
    simp only [hp, if_true] at k
    simp +contextual (disch := omega)
    exact no_tail S5 rfl zap k
  | true =>
    rw [if_neg (by simp [hp])] at k
    simp +contextual (disch := omega) [Z1J.j5g, ld_b g3, qt, Z1J.j6]
    by_cases he : e.cell = x.next
    · rw [if_neg (by simp [he])] at k
      rw [he] at ic qc
      simp +contextual (disch := omega) [he, Z1J.j8g, ld_b g2, ld_b g3, ic, qc]
      by_cases hm : y.mode = 3
      · rw [if_pos hm] at k
        simp +contextual (disch := omega) [hm]
        exact no_tail' S5 rfl zap k
      · rw [if_neg hm] at k
        simp +contextual (disch := omega) [hm, Z1J.j9, ld_b g3, he]
        refine S5.storeE hx' rfl (by simp) (by simp) (by simp [oneI]) fun h5 S6 => ?_
        have hx6 := set_at (y := splice 3 [.n x.next] x.c) hx'
        try simp +contextual (disch := omega)
        refine S6.storeE hx6 rfl (by simp) (by simp) (by simp [oneI]) fun h6 S7 => ?_
        have g2 := S7.at4
        rw [set_set] at S7
        try simp +contextual (disch := omega) [ld_b g2]
        refine S7.up2.put (new := svc s (.sl bt 0 s.tenants.length) (.sl bc 0 (s.cells.map CState.c).length)) (by simp) (by simp) rfl (svc_ones s _ _ rfl rfl) fun h7 S8 => ?_
        have g4 := S8.at0
        try simp +contextual (disch := omega) [ld_b g4]
        have rr := Rep.setT (bt := bt) l2 e.tenant { x with standby := x.next, next := -1 }
        rw [he] at k
        simp only [List.length_map] at rr
        exact k _ _ _ _ rr (zap _ _ _ S8.drop)
    · rw [if_pos he] at k
      simp +contextual (disch := omega) [he]
      exact no_tail S5 rfl zap k
def abandonS (s : State) (e : Entry) (x : TState) : State × Int :=
  if (!x.placed || decide (x.target < 0)) = true then err 4 else (setT s e.tenant { x with target := -1 }, 0)
theorem Z5U {s : State} {e : Entry} {x : TState} (hx : gt s.tenants e.tenant = some x) : StT Z3I (fun v => [v, e.v]) s (abandonS s e x) := by
  intro h0 h rs L1 L2 v K r S k
  refine Z2H.call ?_
  obtain ⟨bt, b, rfl, rfl, l2, hx', i0, ilt⟩ := r.tenant hx
  refine S.box fun b2 h2 S2 => ?_
  refine S2.box fun b3 h3 S3 => ?_
  refine S3.alloc ZH fun b4 h4 S4 => ?_
  have S5 := S4.five
  have gt' := S5.at0; have g3 := S5.at3; have g2 := S5.at4
  have qt := fun (o : Nat) (t : TypeId) => ld_p (P := PP) (o := o) t gt' hx'
  have it := Z1C (k := .i64) (lo := 0) i0 ilt gt'
  have zap : ∀ {A B : PT}, (∀ h' M N, Own h0 (M :: N :: A :: B :: rs) h' → Own h0 (M :: N :: rs) h') := fun _ _ _ S => (S.del 2).del 2
  unfold abandonS at k
  simp +contextual (disch := omega) [Z2H.j1g, Z2H.j2g, ld_b g2, ld_b g3, it, qt]
  refine bK'_b (fun hc => ?_) (fun hc => ?_)
  · rw [if_pos (by simpa using hc)] at k
    exact no_tail' S5 rfl zap k
  · rw [if_neg (by simpa using hc)] at k
    simp +contextual (disch := omega) [Z2H.j3]
    refine S5.storeE hx' rfl (by simp) (by simp) (by simp [oneI]) fun h5 S6 => ?_
    have g2 := S6.at4
    try simp +contextual (disch := omega) [ld_b g2]
    refine S6.up2.put (new := svc s (.sl bt 0 s.tenants.length) b) rfl (by simp) rfl (svc_ones s _ b rfl l2.one.2) fun h6 S7 => ?_
    have g4 := S7.at0
    try simp +contextual (disch := omega) [ld_b g4]
    have rr := Rep.setT (bt := bt) l2 e.tenant { x with target := -1 }
    exact k _ _ _ _ rr (zap _ _ _ S7.drop)
end Go.Ideal
namespace Go.Ideal
open Go.Proofs
set_option maxRecDepth 100000
@[simp] theorem pick_or10 {a b c : Bool} {h : Heap} : Ze (.bool (!a || b)) (.bool true) (gv (a && !b) (.bool c)) h = some (.bool (!a || b || c), h) := by cases a <;> cases b <;> rfl
@[simp] theorem pick_or100 {a b e c : Bool} {h : Heap} : Ze (.bool (!a || b || e)) (.bool true) (gv (a && !b && !e) (.bool c)) h = some (.bool (!a || b || e || c), h) := by cases a <;> cases b <;> cases e <;> rfl
theorem Small.setT {c : Config} {s : State} (hm : Small c s) (i : Int) (x : TState) : Small c (setT s i x) := ⟨hm.cells, hm.zones, hm.tenants, by simpa [Ideal.setT] using hm.stenants, hm.scells⟩
def standbyS (c : Config) (s : State) (e : Entry) (x : TState) : State × Int :=
  if x.placed = false then err 4
  else if e.cell < 0 then fitS c (setT s e.tenant { x with next := e.cell })
  else if (decide (e.cell = x.home) || decide (e.cell = x.standby) || decide (e.cell = x.target)) = true then err 5
  else if modeOf s e.cell ≠ 1 then err 6
  else if frozenR c s e.cell = true then err 12
  else if (!mayR c e.tenant e.cell || together c e.cell x.home || together c e.cell x.target) = true then err 11
  else fitS c (setT s e.tenant { x with next := e.cell })
theorem Z5V {c : Config} {s : State} {e : Entry} {x : TState} (hm : Small c s) (hl : s.tenants.length = c.tenants.length) (hz : ZonesOk c) (hx : gt s.tenants e.tenant = some x) (hy : 0 ≤ e.cell → ∃ y, gt s.cells e.cell = some y) :
    StT Z3F (fun v => [c.v, v, e.v]) s (standbyS c s e x) := by
  intro h0 h rs L1 L2 v K r S k
  refine Z17.call ?_
  obtain ⟨bt, b, rfl, rfl, l2, hx', i0, ilt⟩ := r.tenant hx
  refine S.box fun b1 h1 S1 => ?_
  refine S1.box fun b2 h2 S2 => ?_
  refine S2.box fun b3 h3 S3 => ?_
  refine S3.alloc ZH fun b4 h4 S4 => ?_
  have S5 := S4.six
  clear S S1 S2 S3 S4
  have gt' := S5.at0; have g3 := S5.at3; have g2 := S5.at4; have g1 := S5.at5
  have qt := fun (o : Nat) (t : TypeId) => ld_p (P := PP) (o := o) t gt' hx'
  have it := Z1C (k := .i64) (lo := 0) i0 ilt gt'
  have zap : ∀ {A B C : PT}, (∀ h' M N, Own h0 (M :: N :: A :: B :: C :: rs) h' → Own h0 (M :: N :: rs) h') := fun _ _ _ S => ((S.del 2).del 2).del 2
  have last : standbyS c s e x = fitS c (setT s e.tenant { x with next := e.cell }) →
      Z17.j18 K (.ptr b1 0 0) (.ptr b2 0 0) (.ptr b3 0 0) (.ptr b4 0 0) (.ptr bt e.tenant.toNat 0) h4 := by
    intro hq
    rw [hq] at k
    simp +contextual (disch := omega) [Z17.j18, ld_b g3]
    refine S5.storeE hx' rfl (by simp) (by simp) (by simp [oneI]) fun h5 S6 => ?_
    have g1 := S6.at5; have g2 := S6.at4
    try simp +contextual (disch := omega) [ld_b g1, ld_b g2]
    have rr := Rep.setT (bt := bt) l2 e.tenant { x with next := e.cell }
    exact fit_tail (rs := rs) (s := setT s e.tenant { x with next := e.cell }) (hm.setT _ _) (by simpa [setT] using hl) rr S6 rfl zap k
  unfold standbyS at k last
  simp +contextual (disch := omega) [Z17.j1g, Z17.j2g, ld_b g2, ld_b g3, it, qt, Z17.j3]
  cases hp : x.placed with
  | false =>
    rw [if_pos hp] at k
    simp +contextual (disch := omega)
    exact no_tail S5 rfl zap k
  | true =>
  rw [if_neg (by simp [hp])] at k last
  simp +contextual (disch := omega) [Z17.j5g, ld_b g3, Z17.j6]
  by_cases h0c : e.cell < 0
  · rw [if_pos h0c] at k last
    simp +contextual (disch := omega) [h0c, Z17.j7g]
    exact last rfl
  rw [if_neg h0c] at k last
  obtain ⟨y, hy'⟩ := hy (by omega)
  obtain ⟨hy0, hy1⟩ := gt_some.1 hy'
  have hy2 : (s.cells.map CState.c)[e.cell.toNat]? = some y.c := by simp [hy1]
  obtain ⟨bc, rfl, rfl, hclt⟩ := l2.at_ hy2
  simp only [List.length_map] at r S5 l2
  have gc := S5.at1
  have ic := Z1a (k := .i64) (lo := 0) hy0 (gt_lt hy').2 gc
  have qc := fun (o : Nat) (t : TypeId) => ld_p (P := PP) (o := o) t gc hy2
  have my : modeOf s e.cell = y.mode := by simp [modeOf, hy']
  simp +contextual (disch := omega) [h0c, Z17.j8g, ld_b g3, qt, Z17.j9]
  refine bK'_b (fun hc => ?_) (fun hc => ?_)
  · rw [if_pos hc] at k
    exact no_tail S5 rfl zap k
  rw [if_neg (by simp [hc])] at k last
  simp +contextual (disch := omega) [Z17.j11g, ld_b g2, ld_b g3, ic, qc, Z17.j12]
  by_cases hmo : y.mode = 1
  · rw [if_neg (by simp [my, hmo])] at k last
    simp +contextual (disch := omega) [hmo, Z17.j14g, ld_b g1, ld_b g2, ld_b g3]
    refine (Z2P hz s e.cell).lend rfl (fz_csn r S5 e.cell) ?_
    try simp +contextual (disch := omega) [Z17.j15]
    refine bK'_b (fun hc => ?_) (fun hc => ?_)
    · rw [if_pos hc] at k
      exact no_tail S5 rfl zap k
    rw [if_neg (by simp [hc])] at k last
    simp +contextual (disch := omega) [Z17.j17g, ld_b g1, ld_b g3]
    refine (Z2c hz _ _).call ?_
    try simp +contextual (disch := omega) [ld_b g1, ld_b g3, qt]
    refine callB_fun (fun _ => Z2O hz _ _) ?_
    try simp +contextual (disch := omega) [ld_b g1, ld_b g3, qt]
    refine callB_fun (fun _ => Z2O hz _ _) ?_
    try simp +contextual (disch := omega)
    refine bK'_b (fun hc => ?_) (fun hc => ?_)
    · rw [if_pos (by revert hc; cases mayR c e.tenant e.cell <;> cases together c e.cell x.home <;> simp)] at k
      exact no_tail' S5 rfl zap k
    · refine last ?_
      rw [if_neg (by revert hc; cases mayR c e.tenant e.cell <;> cases together c e.cell x.home <;> simp)]
  · rw [if_pos (by simp [my, hmo])] at k
    simp +contextual (disch := omega) [hmo]
    exact no_tail S5 rfl zap k
def migrateS (c : Config) (s : State) (e : Entry) (x : TState) : State × Int :=
  if (!x.placed || x.shed || decide (0 ≤ x.target)) = true then err 4
  else if (decide (e.cell = x.home) || decide (e.cell = x.standby) || decide (e.cell = x.next)) = true then err 5
  else if modeOf s e.cell ≠ 1 then err 6
  else if frozenR c s e.cell = true then err 12
  else if (!mayR c e.tenant e.cell || together c e.cell x.standby || together c e.cell x.next) = true then err 11
  else fitS c (setT s e.tenant { x with target := e.cell })
theorem Z5W {c : Config} {s : State} {e : Entry} {x : TState} (hm : Small c s) (hl : s.tenants.length = c.tenants.length) (hz : ZonesOk c) (hx : gt s.tenants e.tenant = some x) {y : CState} (hy' : gt s.cells e.cell = some y) :
    StT Z3H (fun v => [c.v, v, e.v]) s (migrateS c s e x) := by
  intro h0 h rs L1 L2 v K r S k
  refine Z1h.call ?_
  obtain ⟨bt, b, rfl, rfl, l2, hx', i0, ilt⟩ := r.tenant hx
  refine S.box fun b1 h1 S1 => ?_
  refine S1.box fun b2 h2 S2 => ?_
  refine S2.box fun b3 h3 S3 => ?_
  refine S3.alloc ZH fun b4 h4 S4 => ?_
  have S5 := S4.six
  clear S S1 S2 S3 S4
  have gt' := S5.at0; have g3 := S5.at3; have g2 := S5.at4; have g1 := S5.at5
  have qt := fun (o : Nat) (t : TypeId) => ld_p (P := PP) (o := o) t gt' hx'
  have it := Z1C (k := .i64) (lo := 0) i0 ilt gt'
  have zap : ∀ {A B C : PT}, (∀ h' M N, Own h0 (M :: N :: A :: B :: C :: rs) h' → Own h0 (M :: N :: rs) h') := fun _ _ _ S => ((S.del 2).del 2).del 2
  have last : migrateS c s e x = fitS c (setT s e.tenant { x with target := e.cell }) →
      Z1h.j15 K (.ptr b1 0 0) (.ptr b2 0 0) (.ptr b3 0 0) (.ptr b4 0 0) (.ptr bt e.tenant.toNat 0) h4 := by
    intro hq
    rw [hq] at k
    simp +contextual (disch := omega) [Z1h.j15, ld_b g3]
    refine S5.storeE hx' rfl (by simp) (by simp) (by simp [oneI]) fun h5 S6 => ?_
    have g1 := S6.at5; have g2 := S6.at4
    try simp +contextual (disch := omega) [ld_b g1, ld_b g2]
    have rr := Rep.setT (bt := bt) l2 e.tenant { x with target := e.cell }
    exact fit_tail (rs := rs) (s := setT s e.tenant { x with target := e.cell }) (hm.setT _ _) (by simpa [setT] using hl) rr S6 rfl zap k
  unfold migrateS at k last
  simp +contextual (disch := omega) [Z1h.j1g, Z1h.j2g, ld_b g2, ld_b g3, it, qt, Z1h.j3]
  refine bK'_b (fun hc => ?_) (fun hc => ?_)
  · rw [if_pos (by simpa using hc)] at k
    exact no_tail S5 rfl zap k
  rw [if_neg (by simpa using hc)] at k last
  obtain ⟨hy0, hy1⟩ := gt_some.1 hy'
  have hy2 : (s.cells.map CState.c)[e.cell.toNat]? = some y.c := by simp [hy1]
  obtain ⟨bc, rfl, rfl, hclt⟩ := l2.at_ hy2
  simp only [List.length_map] at r S5 l2
  have gc := S5.at1
  have ic := Z1a (k := .i64) (lo := 0) hy0 (gt_lt hy').2 gc
  have qc := fun (o : Nat) (t : TypeId) => ld_p (P := PP) (o := o) t gc hy2
  have my : modeOf s e.cell = y.mode := by simp [modeOf, hy']
  simp +contextual (disch := omega) [Z1h.j5g, ld_b g3, qt, Z1h.j6]
  refine bK'_b (fun hc => ?_) (fun hc => ?_)
  · rw [if_pos hc] at k
    exact no_tail S5 rfl zap k
  rw [if_neg (by simp [hc])] at k last
  simp +contextual (disch := omega) [Z1h.j8g, ld_b g2, ld_b g3, ic, qc, Z1h.j9]
  by_cases hmo : y.mode = 1
  · rw [if_neg (by simp [my, hmo])] at k last
    simp +contextual (disch := omega) [hmo, Z1h.j11g, ld_b g1, ld_b g2, ld_b g3]
    refine (Z2P hz s e.cell).lend rfl (fz_csn r S5 e.cell) ?_
    try simp +contextual (disch := omega) [Z1h.j12]
    refine bK'_b (fun hc => ?_) (fun hc => ?_)
    · rw [if_pos hc] at k
      exact no_tail S5 rfl zap k
    rw [if_neg (by simp [hc])] at k last
    simp +contextual (disch := omega) [Z1h.j14g, ld_b g1, ld_b g3]
    refine (Z2c hz _ _).call ?_
    try simp +contextual (disch := omega) [ld_b g1, ld_b g3, qt]
    refine callB_fun (fun _ => Z2O hz _ _) ?_
    try simp +contextual (disch := omega) [ld_b g1, ld_b g3, qt]
    refine callB_fun (fun _ => Z2O hz _ _) ?_
    try simp +contextual (disch := omega)
    refine bK'_b (fun hc => ?_) (fun hc => ?_)
    · rw [if_pos (by revert hc; cases mayR c e.tenant e.cell <;> cases together c e.cell x.standby <;> simp)] at k
      exact no_tail' S5 rfl zap k
    · refine last ?_
      rw [if_neg (by revert hc; cases mayR c e.tenant e.cell <;> cases together c e.cell x.standby <;> simp)]
  · rw [if_pos (by simp [my, hmo])] at k
    simp +contextual (disch := omega) [hmo]
    exact no_tail S5 rfl zap k
def shedS (c : Config) (s : State) (e : Entry) (x : TState) : State × Int :=
  if e.num = 1 then
    if (!x.placed || x.shed) = true then err 4
    else if e.tick < x.window.till then err 9
    else (setT s e.tenant { x with shed := true, target := -1 }, 0)
  else if x.shed = false then err 4
  else if modeOf s x.home = 3 then err 6
  else fitS c (setT s e.tenant { x with shed := false })
theorem Z5X {c : Config} {s : State} {e : Entry} {x : TState} (hm : Small c s) (hl : s.tenants.length = c.tenants.length) (hx : gt s.tenants e.tenant = some x) (hy : x.shed = true → ∃ y, gt s.cells x.home = some y) :
    StT Z3J (fun v => [c.v, v, e.v]) s (shedS c s e x) := by
  intro h0 h rs L1 L2 v K r S k
  refine Z1i.call ?_
  obtain ⟨bt, b, rfl, rfl, l2, hx', i0, ilt⟩ := r.tenant hx
  refine S.box fun b1 h1 S1 => ?_
  refine S1.box fun b2 h2 S2 => ?_
  refine S2.box fun b3 h3 S3 => ?_
  refine S3.alloc ZH fun b4 h4 S4 => ?_
  have S5 := S4.six
  clear S S1 S2 S3 S4
  have gt' := S5.at0; have g3 := S5.at3; have g2 := S5.at4; have g1 := S5.at5
  have qt := fun (o : Nat) (t : TypeId) => ld_p (P := PP) (o := o) t gt' hx'
  have it := Z1C (k := .i64) (lo := 0) i0 ilt gt'
  have zap : ∀ {A B C : PT}, (∀ h' M N, Own h0 (M :: N :: A :: B :: C :: rs) h' → Own h0 (M :: N :: rs) h') := fun _ _ _ S => ((S.del 2).del 2).del 2
  unfold shedS at k
  simp +contextual (disch := omega) [Z1i.j1g, Z1i.j2g, ld_b g2, ld_b g3, it, Z1i.j3]
  by_cases hn : e.num = 1
  · rw [if_pos hn] at k
    simp +contextual (disch := omega) [hn, Z1i.j4g, qt, Z1i.j5]
    refine bK'_b (fun hc => ?_) (fun hc => ?_)
    · rw [if_pos (by simpa using hc)] at k
      exact no_tail S5 rfl zap k
    rw [if_neg (by simpa using hc)] at k
    simp +contextual (disch := omega) [Z1i.j7g, qt, ld_b g3]
    by_cases hw : e.tick < x.window.till
    · rw [if_pos hw] at k
      simp +contextual (disch := omega) [hw]
      exact no_tail' S5 rfl zap k
    · rw [if_neg hw] at k
      simp +contextual (disch := omega) [hw, Z1i.j8g]
      refine S5.storeE hx' rfl (by simp) (by simp) (by simp [oneI]) fun h5 S6 => ?_
      have hx6 := set_at (y := splice 1 [.bool true] x.c) hx'
      try simp +contextual (disch := omega)
      refine S6.storeE hx6 rfl (by simp) (by simp) (by simp [oneI]) fun h6 S7 => ?_
      have g2 := S7.at4
      rw [set_set] at S7
      try simp +contextual (disch := omega) [ld_b g2]
      refine S7.up2.put (new := svc s (.sl bt 0 s.tenants.length) b) (by simp) (by simp) rfl (svc_ones s _ b rfl l2.one.2) fun h7 S8 => ?_
      have g4 := S8.at0
      try simp +contextual (disch := omega) [ld_b g4]
      have rr := Rep.setT (bt := bt) l2 e.tenant { x with shed := true, target := -1 }
      exact k _ _ _ _ rr (zap _ _ _ S8.drop)
  · rw [if_neg hn] at k
    simp +contextual (disch := omega) [hn, Z1i.j9g, Z1i.j10g, qt, Z1i.j11]
    cases hs : x.shed with
    | false =>
      rw [if_pos hs] at k
      simp +contextual (disch := omega)
      exact no_tail S5 rfl zap k
    | true =>
      rw [if_neg (by simp [hs])] at k
      obtain ⟨y, hy'⟩ := hy hs
      obtain ⟨hy0, hy1⟩ := gt_some.1 hy'
      have hy2 : (s.cells.map CState.c)[x.home.toNat]? = some y.c := by simp [hy1]
      obtain ⟨bc, rfl, rfl, hclt⟩ := l2.at_ hy2
      simp only [List.length_map] at r S5 l2
      have gc := S5.at1
      have ic := Z1a (k := .i64) (lo := 0) hy0 (gt_lt hy').2 gc
      have qc := fun (o : Nat) (t : TypeId) => ld_p (P := PP) (o := o) t gc hy2
      have my : modeOf s x.home = y.mode := by simp [modeOf, hy']
      simp +contextual (disch := omega) [Z1i.j13g, ld_b g2, qt, ic, qc]
      by_cases hmo : y.mode = 3
      · rw [if_pos (by rw [my]; exact hmo)] at k
        simp +contextual (disch := omega) [hmo]
        exact no_tail' S5 rfl zap k
      · rw [if_neg (by rw [my]; exact hmo)] at k
        simp +contextual (disch := omega) [hmo, Z1i.j14]
        refine S5.storeE hx' rfl (by simp) (by simp) (by simp [oneI]) fun h5 S6 => ?_
        have g1 := S6.at5; have g2 := S6.at4
        try simp +contextual (disch := omega) [ld_b g1, ld_b g2]
        have rr := Rep.setT (bt := bt) l2 e.tenant { x with shed := false }
        try simp only [List.length_map] at rr
        exact fit_tail (rs := rs) (s := setT s e.tenant { x with shed := false }) (hm.setT _ _) (by simpa [setT] using hl) rr S6 rfl zap k
end Go.Ideal
