/- Part of a proof: functions of the program over an ideal memory, and what they compute. No condition. -/
import Derived.Test.YtkmhaohlakdacaaLA2
import Derived.Test.YtkmhaohlakdacaaProg
set_option linter.unusedVariables false
set_option linter.unusedSimpArgs false
namespace Go.Proofs
theorem Try.mixed : Try.prog.follows .mixedOrders = true := by kernel_rfl
end Go.Proofs
namespace Go.Ideal
open Go.Proofs
noncomputable abbrev PP : Program := Try.prog
abbrev Z1j : FuncId := 3
abbrev Z1k : FuncId := 4
abbrev ZG : FuncId := 5
abbrev ZM : FuncId := 6
abbrev Zw : FuncId := 7
abbrev ZH : FuncId := 8
abbrev ZA : FuncId := 9
abbrev ZU : FuncId := 10
abbrev ZV : FuncId := 11
abbrev ZB : FuncId := 12
abbrev Zv : FuncId := 13
abbrev ZC : FuncId := 14
abbrev ZI : FuncId := 15
abbrev ZN : FuncId := 16
abbrev ZO : FuncId := 17
abbrev ZW : FuncId := 18
abbrev ZP : FuncId := 19
abbrev ZX : FuncId := 20
abbrev ZY : FuncId := 21
abbrev ZZ : FuncId := 22
abbrev Z10 : FuncId := 23
abbrev Z11 : FuncId := 24
abbrev Z2 : TypeId := 3
abbrev Zd : TypeId := 5
abbrev ZJ : TypeId := 9
abbrev Zn : TypeId := 22
abbrev Zl : TypeId := 23
abbrev Z1 : TypeId := 30
abbrev Ze : TypeId := 32
abbrev Z7 : TypeId := 36
abbrev Z8 : TypeId := 40
abbrev Z1u : TypeId := 45
end Go.Ideal
namespace Go.Ideal
open Go.Proofs
set_option maxRecDepth 100000
@[simp] theorem sz_t_int : szO PP Z2 = some 1 := Z9 (by kernel_rfl)
@[simp] theorem ag_t_int : agO PP Z2 = some false := Z9 (by kernel_rfl)
@[simp] theorem Z1F (s : Nat) (es : List (List IV)) : lenI PP Zn (.vs s es) = some (.int .i64 es.length) := len_v (by kernel_rfl : elO PP Zn = some Ze)
@[simp] theorem Z1G : elO PP Zn = some Ze := Z9 (by kernel_rfl)
@[simp] theorem sz_t_s_uint8 : szO PP Z1 = some 1 := Z9 (by kernel_rfl)
@[simp] theorem ag_t_s_uint8 : agO PP Z1 = some false := Z9 (by kernel_rfl)
@[simp] theorem ln_t_s_uint8 (s : Nat) (es : List (List IV)) : lenI PP Z1 (.vs s es) = some (.int .i64 es.length) := len_v (by kernel_rfl : elO PP Z1 = some Zd)
@[simp] theorem Zr : elO PP Z1 = some Zd := Z9 (by kernel_rfl)
@[simp] theorem sz_t_law07_Act : szO PP Ze = some 3 := Z9 (by kernel_rfl)
@[simp] theorem ag_t_law07_Act : agO PP Ze = some true := Z9 (by kernel_rfl)
@[simp] theorem Z1H (b i o : Nat) : Z4 PP Ze (.ptr b i o) 0 = some (.ptr b i (o + 0)) := fa_p (by kernel_rfl : fdO PP Ze 0 = some (0, 1, false)) rfl
@[simp] theorem Z1I (b i o : Nat) : Z4 PP Ze (.ptr b i o) 1 = some (.ptr b i (o + 1)) := fa_p (by kernel_rfl : fdO PP Ze 1 = some (1, 1, false)) rfl
@[simp] theorem Z1J (b i o : Nat) : Z4 PP Ze (.ptr b i o) 2 = some (.ptr b i (o + 2)) := fa_p (by kernel_rfl : fdO PP Ze 2 = some (2, 1, false)) rfl
@[simp] theorem Z1K (cs : List IV) : Z4 PP Ze (.fptr cs) 2 = some (.fptr (cs.drop 2)) := fa_f (by kernel_rfl : fdO PP Ze 2 = some (2, 1, false)) rfl
@[simp] theorem Z1l : zrO PP Z7 = some [.snil, .int .i64 0] := Z9 (by kernel_rfl)
@[simp] theorem Z1L (b i o : Nat) : Z4 PP Z7 (.ptr b i o) 0 = some (.ptr b i (o + 0)) := fa_p (by kernel_rfl : fdO PP Z7 0 = some (0, 1, false)) rfl
@[simp] theorem Z1M (b i o : Nat) : Z4 PP Z7 (.ptr b i o) 1 = some (.ptr b i (o + 1)) := fa_p (by kernel_rfl : fdO PP Z7 1 = some (1, 1, false)) rfl
@[simp] theorem Z1m : flO PP Z7 = some [(0, 1), (1, 1)] := Z9 (by kernel_rfl)
@[simp] theorem Z1n : zrO PP Z8 = some [.snil, .int .i64 0] := Z9 (by kernel_rfl)
@[simp] theorem Z1N (b i o : Nat) : Z4 PP Z8 (.ptr b i o) 0 = some (.ptr b i (o + 0)) := fa_p (by kernel_rfl : fdO PP Z8 0 = some (0, 1, false)) rfl
@[simp] theorem Z1O (b i o : Nat) : Z4 PP Z8 (.ptr b i o) 1 = some (.ptr b i (o + 1)) := fa_p (by kernel_rfl : fdO PP Z8 1 = some (1, 1, false)) rfl
@[simp] theorem Z1o : flO PP Z8 = some [(0, 1), (1, 1)] := Z9 (by kernel_rfl)
end Go.Ideal
namespace Go.Ideal
open Go.Proofs
set_option maxRecDepth 100000
noncomputable section
variable {K : KT} {a : IAct} {h : Heap}
namespace Zo
def D : Nat → DI
  | _ => ⟨[], [], []⟩
abbrev I := ICx PP 38 D
def c0 : Code := bodyN Try.f3
def c1 : Code := cR c0
def c2 : Code := cR c1
def c3 : Code := cR c2
def c4 : Code := cR c3
def c5 : Code := cL c3
def c6 : Code := cR c5
def c7 : Code := cL c6
def c8 : Code := cL c7
def c9 : Code := cR c8
def c10 : Code := cR c9
def c11 : Code := cL c9
def c12 : Code := cL c8
def c13 : Code := cL c5
def c14 : Code := cL c2
def c15 : Code := cL c1
def c16 : Code := cL c0
abbrev q1 (K : KT) : QT := finK PP Try.f3.results.toList K
def j6 (K : KT) (h : Heap) : Prop :=
 oV (.bool true) h fun v1 =>
 Zb PP [.v v1] h K
abbrev q2 (j6 : G0) (K : KT) : QT := Z6 (fun a h => j6 K h) (q1 K)
abbrev q3 (j6 : G0) (K : KT) : QT := Zu 0 (q2 j6 K)
def l1 (K : KT) (x0 x3 x4 x5 : IV) (h : Heap) : Prop := ∀ a : IAct, a 0 = x0 → a 3 = x3 → a 4 = x4 → a 5 = x5 → ILoop PP 38 c8 (q3 j6 K) a h
abbrev q4 (l1 : G4) (j6 : G0) (K : KT) : QT := Z6 (fun a h => l1 K (a 0) (a 3) (a 4) (a 5) h) (q3 j6 K)
def j5g (l1 : G4) (j6 : G0) (K : KT) (x0 x3 x4 x5 : IV) (h : Heap) : Prop :=
 oV x5 h fun v1 =>
 oD (Z5 PP .add Z2 v1 (.int .i64 1)) h fun v2 =>
 oV v2 h fun v3 =>
 l1 K x0 x3 x4 v3 h
abbrev j5 : G4 := j5g l1 j6
abbrev q5 (j5 : G4) (l1 : G4) (j6 : G0) (K : KT) : QT := Z6 (fun a h => j5 K (a 0) (a 3) (a 4) (a 5) h) (q4 l1 j6 K)
def j4g (j5 : G4) (l1 : G4) (j6 : G0) (K : KT) (x0 x3 x4 x5 : IV) (h : Heap) : Prop :=
 oV x3 h fun v1 =>
 oV x4 h fun v2 =>
 oV x0 h fun v3 =>
 oV x5 h fun v4 =>
 oD (Zp PP Zn v3 v4 h) h fun v5 =>
 oD (Z3 PP Ze v5 h) h fun v6 =>
 Z0 PP ZA [v1, v2, v6] h fun v7 h1 =>
 oD (unI .not v7) h1 fun v8 =>
 bK' v8
   (oV (.bool false) h1 fun v9 =>
   Zb PP [.v v9] h1 K)
   (j5 K x0 x3 x4 x5 h1)
abbrev j4 : G4 := j4g j5 l1 j6
abbrev q6 (j4 : G4) (l1 : G4) (j6 : G0) (K : KT) : QT := Z6 (fun a h => j4 K (a 0) (a 3) (a 4) (a 5) h) (q4 l1 j6 K)
def b1g (j4 : G4) (l1 : G4) (j6 : G0) (K : KT) (x0 x3 x4 x5 : IV) (h : Heap) : Prop :=
 oV x5 h fun v1 =>
 oV x0 h fun v2 =>
 oD (lenI PP Zn v2) h fun v3 =>
 oD (Z5 PP .lss Z2 v1 v3) h fun v4 =>
 bK' v4
   (j4 K x0 x3 x4 x5 h)
   (j6 K h)
abbrev b1 : G4 := b1g j4 l1 j6
abbrev q7 (l1 : G4) (j6 : G0) (K : KT) : QT := Z6 (fun a h => l1 K (a 0) (a 3) (a 4) (a 5) h) (q2 j6 K)
def j3g (l1 : G4) (j6 : G0) (K : KT) (x0 x3 x4 : IV) (h : Heap) : Prop :=
 oV (.int .i64 0) h fun v1 =>
 l1 K x0 x3 x4 v1 h
abbrev j3 : G3 := j3g l1 j6
abbrev q8 (j3 : G3) (K : KT) : QT := Z6 (fun a h => j3 K (a 0) (a 3) (a 4) h) (q1 K)
def j2g (j3 : G3) (K : KT) (x0 x3 x4 : IV) (h : Heap) : Prop :=
 Z0 PP Zw [] h fun v1 h1 =>
 oD (unI .not v1) h1 fun v2 =>
 oV v2 h1 fun v3 =>
 oG (gW v3 false) (some x0) h1 fun v4 =>
 Zi PP (gW v3 false) ZH [v4] h1 fun v5 h2 =>
 oG (gW v3 false) (unI .not v5) h2 fun v6 =>
 oP sT (Zg v3 (.bool true) v6 h2) h2 fun v7 =>
 oV v7 h2 fun v8 =>
 oG (gW v8 false) (some x3) h2 fun v9 =>
 oG (gW v8 false) (Z5 PP .eql Zl v9 (.nil)) h2 fun v10 =>
 oP sT (Zg v8 (.bool true) v10 h2) h2 fun v11 =>
 bK' v11
   (Z0 PP Zw [] h2 fun v12 h3 =>
   oV v12 h3 fun v13 =>
   oG (gW v13 true) (some x3) h3 fun v14 =>
   oG (gW v13 true) (Z5 PP .neq Zl v14 (.nil)) h3 fun v15 =>
   oP sT (Zg v13 v15 (.bool false) h3) h3 fun v16 =>
   oV v16 h3 fun v17 =>
   Zb PP [.v v17] h3 K)
   (j3 K x0 x3 x4 h2)
abbrev j2 : G3 := j2g j3
abbrev q9 (j2 : G3) (K : KT) : QT := Z6 (fun a h => j2 K (a 0) (a 3) (a 4) h) (q1 K)
def j1g (j2 : G3) (K : KT) (x0 : IV) (h : Heap) : Prop :=
 Z0 PP ZG [] h fun v1 h1 =>
 Z0 PP ZM [] h1 fun v2 h2 =>
 oV v1 h2 fun v3 =>
 oV v2 h2 fun v4 =>
 j2 K x0 v3 v4 h2
abbrev j1 : G1 := j1g j2
abbrev q10 (j1 : G1) (K : KT) : QT := Z6 (fun a h => j1 K (a 0) h) (q1 K)
def eg (j1 : G1) (K : KT) (x0 : IV) (h : Heap) : Prop :=
 oV (.bool false) h fun v1 =>
 j1 K x0 h
abbrev e : G1 := eg j1
theorem u4 (p : j6 K h) : I c4 (q1 K) a h := ICx.to p
theorem j5_ok (l1 : G4) (j6 : G0) : I c10 (q4 l1 j6 K) a h = j5g l1 j6 K (a 0) (a 3) (a 4) (a 5) h := by kernel_rfl
theorem u10 (p : j5 K (a 0) (a 3) (a 4) (a 5) h) : I c10 (q4 l1 j6 K) a h := ICx.to p (j5_ok l1 j6)
theorem j4_ok (j5 : G4) (l1 : G4) (j6 : G0) : I c11 (q5 j5 l1 j6 K) a h = j4g j5 l1 j6 K (a 0) (a 3) (a 4) (a 5) h := by kernel_rfl
theorem u11 (p : j4 K (a 0) (a 3) (a 4) (a 5) h) : I c11 (q5 j5 l1 j6 K) a h := ICx.to p (j4_ok j5 l1 j6)
theorem u9 (p : j4 K (a 0) (a 3) (a 4) (a 5) h) : I c9 (q4 l1 j6 K) a h := ICx.sq (fun _ _ => u10) (u11 p)
theorem b1_ok (j4 : G4) (l1 : G4) (j6 : G0) : I c12 (q6 j4 l1 j6 K) a h = b1g j4 l1 j6 K (a 0) (a 3) (a 4) (a 5) h := by kernel_rfl
theorem u12 (p : b1 K (a 0) (a 3) (a 4) (a 5) h) : I c12 (q6 j4 l1 j6 K) a h := ICx.to p (b1_ok j4 l1 j6)
theorem u8 (p : b1 K (a 0) (a 3) (a 4) (a 5) h) : I c8 (q4 l1 j6 K) a h := ICx.sq (fun _ _ => u9) (u12 p)
theorem u7 (p : l1 K (a 0) (a 3) (a 4) (a 5) h) : I c7 (q3 j6 K) a h := ICx.lp (p a rfl rfl rfl rfl)
theorem l1_round {x0 x3 x4 x5 : IV} (p : b1 K x0 x3 x4 x5 h) : l1 K x0 x3 x4 x5 h := by
  intro a e0 e3 e4 e5
  subst e0; subst e3; subst e4; subst e5; exact ICx.round Try.mixed (D := D) (L := fun a h => l1 K (a 0) (a 3) (a 4) (a 5) h) (fun a h p => p a rfl rfl rfl rfl) (u8 p)
theorem u6 (p : l1 K (a 0) (a 3) (a 4) (a 5) h) : I c6 (q2 j6 K) a h := ICx.blk (u7 p)
theorem j3_ok (l1 : G4) (j6 : G0) : I c13 (q7 l1 j6 K) a h = j3g l1 j6 K (a 0) (a 3) (a 4) h := by kernel_rfl
theorem u13 (p : j3 K (a 0) (a 3) (a 4) h) : I c13 (q7 l1 j6 K) a h := ICx.to p (j3_ok l1 j6)
theorem u5 (p : j3 K (a 0) (a 3) (a 4) h) : I c5 (q2 j6 K) a h := ICx.sq (fun _ _ => u6) (u13 p)
theorem u3 (p : j3 K (a 0) (a 3) (a 4) h) : I c3 (q1 K) a h := ICx.sq (fun _ _ => u4) (u5 p)
theorem j2_ok (j3 : G3) : I c14 (q8 j3 K) a h = j2g j3 K (a 0) (a 3) (a 4) h := by kernel_rfl
theorem u14 (p : j2 K (a 0) (a 3) (a 4) h) : I c14 (q8 j3 K) a h := ICx.to p (j2_ok j3)
theorem u2 (p : j2 K (a 0) (a 3) (a 4) h) : I c2 (q1 K) a h := ICx.sq (fun _ _ => u3) (u14 p)
theorem j1_ok (j2 : G3) : I c15 (q9 j2 K) a h = j1g j2 K (a 0) h := by kernel_rfl
theorem u15 (p : j1 K (a 0) h) : I c15 (q9 j2 K) a h := ICx.to p (j1_ok j2)
theorem u1 (p : j1 K (a 0) h) : I c1 (q1 K) a h := ICx.sq (fun _ _ => u2) (u15 p)
theorem e_ok (j1 : G1) : I c16 (q10 j1 K) a h = eg j1 K (a 0) h := by kernel_rfl
theorem u16 (p : e K (a 0) h) : I c16 (q10 j1 K) a h := ICx.to p (e_ok j1)
theorem u0 (p : e K (a 0) h) : I c0 (q1 K) a h := ICx.sq (fun _ _ => u1) (u16 p)
theorem call {x0 : IV} (p : e K x0 h) : Z0 PP Z1j [x0] h K :=
  ICx.fn Try.mixed Try.func3 rfl (Nat.le_of_ble_eq_true rfl) (u0 (a := actI [x0]) p)
end Zo
namespace Zc
def D : Nat → DI
  | 14 => ⟨[0, 0, 0, 0, 12, 28, 63, 127, 255, 511, 1023, 511, 2559, 6655, 14847, 32767, 65535, 131071, 262143, 524287, 1048575, 524287, 2621439, 6815743, 15204351, 33554431, 67108863], [0, 1, 2, 3, 4, 5, 6, 7, 8, 9, 11, 12, 13, 14, 10, 15, 16, 17, 18, 19, 21, 22, 23, 24, 20, 25, 26], []⟩
  | 22 => ⟨[0, 1, 0, 7, 15, 31, 63, 31, 159, 415, 927, 2047, 4095, 8191], [0, 2, 1, 3, 4, 5, 7, 8, 9, 10, 6, 11, 12, 13], []⟩
  | _ => ⟨[], [], []⟩
abbrev I := ICx PP 117 D
def c0 : Code := bodyN Try.f4
def c1 : Code := cR c0
def c2 : Code := cR c1
def c3 : Code := cR c2
def c4 : Code := cR c3
def c5 : Code := cR c4
def c6 : Code := cR c5
def c7 : Code := cR c6
def c8 : Code := cR c7
def c9 : Code := cR c8
def c10 : Code := cL c8
def c11 : Code := cR c10
def c12 : Code := cL c11
def c13 : Code := cL c12
def c14 : Code := cR c13
def c15 : Code := cR c14
def c16 : Code := cL c14
def c17 : Code := cL c13
def c18 : Code := cL c10
def c19 : Code := cL c7
def c20 : Code := cL c6
def c21 : Code := cR c20
def c22 : Code := cL c21
def c23 : Code := cL c22
def c24 : Code := cR c23
def c25 : Code := cR c24
def c26 : Code := cL c24
def c27 : Code := cL c23
def c28 : Code := cL c20
def c29 : Code := cL c5
def c30 : Code := cL c4
def c31 : Code := cL c3
def c32 : Code := cR c31
def c33 : Code := cL c32
def c34 : Code := cL c33
def c35 : Code := cR c34
def c36 : Code := cR c35
def c37 : Code := cL c35
def c38 : Code := cL c34
def c39 : Code := cL c31
def c40 : Code := cL c2
def c41 : Code := cL c1
def c42 : Code := cL c0
abbrev q1 (K : KT) : QT := finK PP Try.f4.results.toList K
def j15 (K : KT) (x5 x6 x11 : IV) (h : Heap) : Prop :=
 oV x5 h fun v1 =>
 oV x11 h fun v2 =>
 Z0 PP Zv [v1] h fun v3 h1 => oB (True) <|
 Z0 PP ZB [v3, v2] h1 fun v4 h2 => oB (True) <|
 oV v4 h2 fun v5 =>
 oG (gW v5 true) (some x5) h2 fun v6 =>
 oG (gW v5 true) (some x6) h2 fun v7 =>
 oP (gW v5 true) (nilI v7 h2) h2 fun v8 =>
 oG (gW v5 true) (Z4 PP Z7 v8 1) h2 fun v9 =>
 oG (gW v5 true) (Z3 PP Z2 v9 h2) h2 fun v10 =>
 Zi PP (gW v5 true) ZC [v6] h2 fun v11 h3 => oB ((Zz (gW v5 true) (Z3 PP Z2 v9 h3) v10 h3) ∧ True) <|
 oG (gW v5 true) (Z5 PP .eql Z2 v11 v10) h3 fun v12 =>
 oP sT (Zg v5 v12 (.bool false) h3) h3 fun v13 =>
 oV v13 h3 fun v14 =>
 Zb PP [.v v14] h3 K
abbrev q2 (j15 : G3) (K : KT) : QT := Z6 (fun a h => j15 K (a 5) (a 6) (a 11) h) (q1 K)
abbrev q3 (j15 : G3) (K : KT) : QT := Zu 4 (q2 j15 K)
def l3 (K : KT) (x1 x5 x6 x8 x9 x11 x12 : IV) (h : Heap) : Prop := ∀ a : IAct, a 1 = x1 → a 5 = x5 → a 6 = x6 → a 8 = x8 → a 9 = x9 → a 11 = x11 → a 12 = x12 → ILoop PP 117 c13 (q3 j15 K) a h
abbrev q4 (l3 : G7) (j15 : G3) (K : KT) : QT := Z6 (fun a h => l3 K (a 1) (a 5) (a 6) (a 8) (a 9) (a 11) (a 12) h) (q3 j15 K)
def j14g (l3 : G7) (j15 : G3) (K : KT) (x1 x5 x6 x8 x9 x11 x12 : IV) (h : Heap) : Prop :=
 oV x12 h fun v1 =>
 oD (Z5 PP .add Z2 v1 (.int .i64 1)) h fun v2 =>
 oV v2 h fun v3 =>
 l3 K x1 x5 x6 x8 x9 x11 v3 h
abbrev j14 : G7 := j14g l3 j15
abbrev q5 (j14 : G7) (l3 : G7) (j15 : G3) (K : KT) : QT := Z6 (fun a h => j14 K (a 1) (a 5) (a 6) (a 8) (a 9) (a 11) (a 12) h) (q4 l3 j15 K)
def j13g (j14 : G7) (l3 : G7) (j15 : G3) (K : KT) (x1 x5 x6 x8 x9 x11 x12 : IV) (h : Heap) : Prop :=
 oV x8 h fun v1 =>
 oV x9 h fun v2 =>
 oV x1 h fun v3 =>
 oV x12 h fun v4 =>
 oD (Zp PP Zn v3 v4 h) h fun v5 =>
 oD (Z3 PP Ze v5 h) h fun v6 =>
 Z0 PP ZA [v1, v2, v6] h fun v7 h1 =>
 oD (unI .not v7) h1 fun v8 =>
 bK' v8
   (oV (.bool false) h1 fun v9 =>
   Zb PP [.v v9] h1 K)
   (j14 K x1 x5 x6 x8 x9 x11 x12 h1)
abbrev j13 : G7 := j13g j14 l3 j15
abbrev q6 (j13 : G7) (l3 : G7) (j15 : G3) (K : KT) : QT := Z6 (fun a h => j13 K (a 1) (a 5) (a 6) (a 8) (a 9) (a 11) (a 12) h) (q4 l3 j15 K)
def b3g (j13 : G7) (l3 : G7) (j15 : G3) (K : KT) (x1 x5 x6 x8 x9 x11 x12 : IV) (h : Heap) : Prop :=
 oV x12 h fun v1 =>
 oV x1 h fun v2 =>
 oD (lenI PP Zn v2) h fun v3 =>
 oD (Z5 PP .lss Z2 v1 v3) h fun v4 =>
 bK' v4
   (j13 K x1 x5 x6 x8 x9 x11 x12 h)
   (j15 K x5 x6 x11 h)
abbrev b3 : G7 := b3g j13 l3 j15
abbrev q7 (l3 : G7) (j15 : G3) (K : KT) : QT := Z6 (fun a h => l3 K (a 1) (a 5) (a 6) (a 8) (a 9) (a 11) (a 12) h) (q2 j15 K)
def j12g (l3 : G7) (j15 : G3) (K : KT) (x1 x5 x6 x8 x9 x11 : IV) (h : Heap) : Prop :=
 oV (.int .i64 0) h fun v1 =>
 l3 K x1 x5 x6 x8 x9 x11 v1 h
abbrev j12 : G6 := j12g l3 j15
abbrev q8 (j12 : G6) (K : KT) : QT := Z6 (fun a h => j12 K (a 1) (a 5) (a 6) (a 8) (a 9) (a 11) h) (q1 K)
def j11g (j12 : G6) (K : KT) (x1 x5 x6 x8 x9 : IV) (h : Heap) : Prop :=
 oV x5 h fun v1 =>
 Z0 PP Zv [v1] h fun v2 h1 =>
 oV v2 h1 fun v3 =>
 j12 K x1 x5 x6 x8 x9 v3 h1
abbrev j11 : G5 := j11g j12
abbrev q9 (j11 : G5) (K : KT) : QT := Z6 (fun a h => j11 K (a 1) (a 5) (a 6) (a 8) (a 9) h) (q1 K)
abbrev q10 (j11 : G5) (K : KT) : QT := Zu 2 (q9 j11 K)
def l2 (K : KT) (x1 x5 x6 x8 x9 x10 : IV) (h : Heap) : Prop := ∀ a : IAct, a 1 = x1 → a 5 = x5 → a 6 = x6 → a 8 = x8 → a 9 = x9 → a 10 = x10 → ILoop PP 117 c23 (q10 j11 K) a h
abbrev q11 (l2 : G6) (j11 : G5) (K : KT) : QT := Z6 (fun a h => l2 K (a 1) (a 5) (a 6) (a 8) (a 9) (a 10) h) (q10 j11 K)
def j10g (l2 : G6) (j11 : G5) (K : KT) (x1 x5 x6 x8 x9 x10 : IV) (h : Heap) : Prop :=
 oV x10 h fun v1 =>
 oD (Z5 PP .add Z2 v1 (.int .i64 1)) h fun v2 =>
 oV v2 h fun v3 =>
 l2 K x1 x5 x6 x8 x9 v3 h
abbrev j10 : G6 := j10g l2 j11
abbrev q12 (j10 : G6) (l2 : G6) (j11 : G5) (K : KT) : QT := Z6 (fun a h => j10 K (a 1) (a 5) (a 6) (a 8) (a 9) (a 10) h) (q11 l2 j11 K)
def j9g (j10 : G6) (l2 : G6) (j11 : G5) (K : KT) (x1 x5 x6 x8 x9 x10 : IV) (h : Heap) : Prop :=
 oV x5 h fun v1 =>
 oV x6 h fun v2 =>
 oV x1 h fun v3 =>
 oV x10 h fun v4 =>
 oD (Zp PP Zn v3 v4 h) h fun v5 =>
 oD (Z3 PP Ze v5 h) h fun v6 =>
 Z0 PP ZA [v1, v2, v6] h fun v7 h1 => oB (True) <|
 oD (unI .not v7) h1 fun v8 =>
 oV v8 h1 fun v9 =>
 oG (gW v9 false) (some x8) h1 fun v10 =>
 oG (gW v9 false) (some x9) h1 fun v11 =>
 oP (gW v9 false) (nilI v11 h1) h1 fun v12 =>
 oG (gW v9 false) (Z4 PP Z7 v12 0) h1 fun v13 =>
 oG (gW v9 false) (Z3 PP Z1 v13 h1) h1 fun v14 =>
 Zi PP (gW v9 false) Zv [v10] h1 fun v15 h2 => oB ((Zz (gW v9 false) (Z3 PP Z1 v13 h2) v14 h2) ∧ True) <|
 Zi PP (gW v9 false) ZB [v15, v14] h2 fun v16 h3 => oB (True) <|
 oG (gW v9 false) (unI .not v16) h3 fun v17 =>
 oP sT (Zg v9 (.bool true) v17 h3) h3 fun v18 =>
 oV v18 h3 fun v19 =>
 oG (gW v19 false) (some x8) h3 fun v20 =>
 oG (gW v19 false) (some x9) h3 fun v21 =>
 oP (gW v19 false) (nilI v21 h3) h3 fun v22 =>
 oG (gW v19 false) (Z4 PP Z7 v22 1) h3 fun v23 =>
 oG (gW v19 false) (Z3 PP Z2 v23 h3) h3 fun v24 =>
 Zi PP (gW v19 false) ZC [v20] h3 fun v25 h4 => oB ((Zz (gW v19 false) (Z3 PP Z2 v23 h4) v24 h4) ∧ True) <|
 oG (gW v19 false) (Z5 PP .neq Z2 v25 v24) h4 fun v26 =>
 oP sT (Zg v19 (.bool true) v26 h4) h4 fun v27 =>
 bK' v27
   (oV (.bool false) h4 fun v28 =>
   Zb PP [.v v28] h4 K)
   (j10 K x1 x5 x6 x8 x9 x10 h4)
abbrev j9 : G6 := j9g j10 l2 j11
abbrev q13 (j9 : G6) (l2 : G6) (j11 : G5) (K : KT) : QT := Z6 (fun a h => j9 K (a 1) (a 5) (a 6) (a 8) (a 9) (a 10) h) (q11 l2 j11 K)
def b2g (j9 : G6) (l2 : G6) (j11 : G5) (K : KT) (x1 x5 x6 x8 x9 x10 : IV) (h : Heap) : Prop :=
 oV x10 h fun v1 =>
 oV x1 h fun v2 =>
 oD (lenI PP Zn v2) h fun v3 =>
 oD (Z5 PP .lss Z2 v1 v3) h fun v4 =>
 bK' v4
   (j9 K x1 x5 x6 x8 x9 x10 h)
   (j11 K x1 x5 x6 x8 x9 h)
abbrev b2 : G6 := b2g j9 l2 j11
abbrev q14 (l2 : G6) (j11 : G5) (K : KT) : QT := Z6 (fun a h => l2 K (a 1) (a 5) (a 6) (a 8) (a 9) (a 10) h) (q9 j11 K)
def j8g (l2 : G6) (j11 : G5) (K : KT) (x1 x5 x6 x8 x9 : IV) (h : Heap) : Prop :=
 oV (.int .i64 0) h fun v1 =>
 l2 K x1 x5 x6 x8 x9 v1 h
abbrev j8 : G5 := j8g l2 j11
abbrev q15 (j8 : G5) (K : KT) : QT := Z6 (fun a h => j8 K (a 1) (a 5) (a 6) (a 8) (a 9) h) (q1 K)
def j7g (j8 : G5) (K : KT) (x1 x5 x6 x8 x9 : IV) (h : Heap) : Prop :=
 oV x8 h fun v1 =>
 oD (Z5 PP .eql Zl v1 (.nil)) h fun v2 =>
 bK' v2
   (oV (.bool false) h fun v3 =>
   Zb PP [.v v3] h K)
   (j8 K x1 x5 x6 x8 x9 h)
abbrev j7 : G5 := j7g j8
abbrev q16 (j7 : G5) (K : KT) : QT := Z6 (fun a h => j7 K (a 1) (a 5) (a 6) (a 8) (a 9) h) (q1 K)
def j6g (j7 : G5) (K : KT) (x1 x5 x6 : IV) (h : Heap) : Prop :=
 oV x5 h fun v1 =>
 Z0 PP ZU [v1] h fun v2 h1 =>
 oV x6 h1 fun v3 =>
 Z0 PP ZV [v3] h1 fun v4 h2 =>
 oV v2 h2 fun v5 =>
 oV v4 h2 fun v6 =>
 j7 K x1 x5 x6 v5 v6 h2
abbrev j6 : G3 := j6g j7
abbrev q17 (j6 : G3) (K : KT) : QT := Z6 (fun a h => j6 K (a 1) (a 5) (a 6) h) (q1 K)
abbrev q18 (j6 : G3) (K : KT) : QT := Zu 0 (q17 j6 K)
def l1 (K : KT) (x0 x1 x5 x6 x7 : IV) (h : Heap) : Prop := ∀ a : IAct, a 0 = x0 → a 1 = x1 → a 5 = x5 → a 6 = x6 → a 7 = x7 → ILoop PP 117 c34 (q18 j6 K) a h
abbrev q19 (l1 : G5) (j6 : G3) (K : KT) : QT := Z6 (fun a h => l1 K (a 0) (a 1) (a 5) (a 6) (a 7) h) (q18 j6 K)
def j5g (l1 : G5) (j6 : G3) (K : KT) (x0 x1 x5 x6 x7 : IV) (h : Heap) : Prop :=
 oV x7 h fun v1 =>
 oD (Z5 PP .add Z2 v1 (.int .i64 1)) h fun v2 =>
 oV v2 h fun v3 =>
 l1 K x0 x1 x5 x6 v3 h
abbrev j5 : G5 := j5g l1 j6
abbrev q20 (j5 : G5) (l1 : G5) (j6 : G3) (K : KT) : QT := Z6 (fun a h => j5 K (a 0) (a 1) (a 5) (a 6) (a 7) h) (q19 l1 j6 K)
def j4g (j5 : G5) (l1 : G5) (j6 : G3) (K : KT) (x0 x1 x5 x6 x7 : IV) (h : Heap) : Prop :=
 oV x5 h fun v1 =>
 oV x6 h fun v2 =>
 oV x0 h fun v3 =>
 oV x7 h fun v4 =>
 oD (Zp PP Zn v3 v4 h) h fun v5 =>
 oD (Z3 PP Ze v5 h) h fun v6 =>
 Z0 PP ZA [v1, v2, v6] h fun v7 h1 =>
 j5 K x0 x1 x5 x6 x7 h1
abbrev j4 : G5 := j4g j5 l1 j6
abbrev q21 (j4 : G5) (l1 : G5) (j6 : G3) (K : KT) : QT := Z6 (fun a h => j4 K (a 0) (a 1) (a 5) (a 6) (a 7) h) (q19 l1 j6 K)
def b1g (j4 : G5) (l1 : G5) (j6 : G3) (K : KT) (x0 x1 x5 x6 x7 : IV) (h : Heap) : Prop :=
 oV x7 h fun v1 =>
 oV x0 h fun v2 =>
 oD (lenI PP Zn v2) h fun v3 =>
 oD (Z5 PP .lss Z2 v1 v3) h fun v4 =>
 bK' v4
   (j4 K x0 x1 x5 x6 x7 h)
   (j6 K x1 x5 x6 h)
abbrev b1 : G5 := b1g j4 l1 j6
abbrev q22 (l1 : G5) (j6 : G3) (K : KT) : QT := Z6 (fun a h => l1 K (a 0) (a 1) (a 5) (a 6) (a 7) h) (q17 j6 K)
def j3g (l1 : G5) (j6 : G3) (K : KT) (x0 x1 x5 x6 : IV) (h : Heap) : Prop :=
 oV (.int .i64 0) h fun v1 =>
 l1 K x0 x1 x5 x6 v1 h
abbrev j3 : G4 := j3g l1 j6
abbrev q23 (j3 : G4) (K : KT) : QT := Z6 (fun a h => j3 K (a 0) (a 1) (a 5) (a 6) h) (q1 K)
def j2g (j3 : G4) (K : KT) (x0 x1 x5 x6 : IV) (h : Heap) : Prop :=
 Z0 PP Zw [] h fun v1 h1 =>
 oD (unI .not v1) h1 fun v2 =>
 oV v2 h1 fun v3 =>
 oG (gW v3 false) (some x0) h1 fun v4 =>
 Zi PP (gW v3 false) ZH [v4] h1 fun v5 h2 =>
 oG (gW v3 false) (unI .not v5) h2 fun v6 =>
 oP sT (Zg v3 (.bool true) v6 h2) h2 fun v7 =>
 oV v7 h2 fun v8 =>
 oG (gW v8 false) (some x1) h2 fun v9 =>
 Zi PP (gW v8 false) ZH [v9] h2 fun v10 h3 =>
 oG (gW v8 false) (unI .not v10) h3 fun v11 =>
 oP sT (Zg v8 (.bool true) v11 h3) h3 fun v12 =>
 oV v12 h3 fun v13 =>
 oG (gW v13 false) (some x5) h3 fun v14 =>
 oG (gW v13 false) (Z5 PP .eql Zl v14 (.nil)) h3 fun v15 =>
 oP sT (Zg v13 (.bool true) v15 h3) h3 fun v16 =>
 bK' v16
   (Z0 PP Zw [] h3 fun v17 h4 =>
   oV v17 h4 fun v18 =>
   oG (gW v18 true) (some x5) h4 fun v19 =>
   oG (gW v18 true) (Z5 PP .neq Zl v19 (.nil)) h4 fun v20 =>
   oP sT (Zg v18 v20 (.bool false) h4) h4 fun v21 =>
   oV v21 h4 fun v22 =>
   Zb PP [.v v22] h4 K)
   (j3 K x0 x1 x5 x6 h3)
abbrev j2 : G4 := j2g j3
abbrev q24 (j2 : G4) (K : KT) : QT := Z6 (fun a h => j2 K (a 0) (a 1) (a 5) (a 6) h) (q1 K)
def j1g (j2 : G4) (K : KT) (x0 x1 : IV) (h : Heap) : Prop :=
 Z0 PP ZG [] h fun v1 h1 =>
 Z0 PP ZM [] h1 fun v2 h2 =>
 oV v1 h2 fun v3 =>
 oV v2 h2 fun v4 =>
 j2 K x0 x1 v3 v4 h2
abbrev j1 : G2 := j1g j2
abbrev q25 (j1 : G2) (K : KT) : QT := Z6 (fun a h => j1 K (a 0) (a 1) h) (q1 K)
def eg (j1 : G2) (K : KT) (x0 x1 : IV) (h : Heap) : Prop :=
 oV (.bool false) h fun v1 =>
 j1 K x0 x1 h
abbrev e : G2 := eg j1
theorem u9 (p : j15 K (a 5) (a 6) (a 11) h) : I c9 (q1 K) a h := ICx.to p
theorem j14_ok (l3 : G7) (j15 : G3) : I c15 (q4 l3 j15 K) a h = j14g l3 j15 K (a 1) (a 5) (a 6) (a 8) (a 9) (a 11) (a 12) h := by kernel_rfl
theorem u15 (p : j14 K (a 1) (a 5) (a 6) (a 8) (a 9) (a 11) (a 12) h) : I c15 (q4 l3 j15 K) a h := ICx.to p (j14_ok l3 j15)
theorem j13_ok (j14 : G7) (l3 : G7) (j15 : G3) : I c16 (q5 j14 l3 j15 K) a h = j13g j14 l3 j15 K (a 1) (a 5) (a 6) (a 8) (a 9) (a 11) (a 12) h := by kernel_rfl
theorem u16 (p : j13 K (a 1) (a 5) (a 6) (a 8) (a 9) (a 11) (a 12) h) : I c16 (q5 j14 l3 j15 K) a h := ICx.to p (j13_ok j14 l3 j15)
theorem u14 (p : j13 K (a 1) (a 5) (a 6) (a 8) (a 9) (a 11) (a 12) h) : I c14 (q4 l3 j15 K) a h := ICx.sq (fun _ _ => u15) (u16 p)
theorem b3_ok (j13 : G7) (l3 : G7) (j15 : G3) : I c17 (q6 j13 l3 j15 K) a h = b3g j13 l3 j15 K (a 1) (a 5) (a 6) (a 8) (a 9) (a 11) (a 12) h := by kernel_rfl
theorem u17 (p : b3 K (a 1) (a 5) (a 6) (a 8) (a 9) (a 11) (a 12) h) : I c17 (q6 j13 l3 j15 K) a h := ICx.to p (b3_ok j13 l3 j15)
theorem u13 (p : b3 K (a 1) (a 5) (a 6) (a 8) (a 9) (a 11) (a 12) h) : I c13 (q4 l3 j15 K) a h := ICx.sq (fun _ _ => u14) (u17 p)
theorem u12 (p : l3 K (a 1) (a 5) (a 6) (a 8) (a 9) (a 11) (a 12) h) : I c12 (q3 j15 K) a h := ICx.lp (p a rfl rfl rfl rfl rfl rfl rfl)
theorem l3_round {x1 x5 x6 x8 x9 x11 x12 : IV} (p : b3 K x1 x5 x6 x8 x9 x11 x12 h) : l3 K x1 x5 x6 x8 x9 x11 x12 h := by
  intro a e1 e5 e6 e8 e9 e11 e12
  subst e1; subst e5; subst e6; subst e8; subst e9; subst e11; subst e12; exact ICx.round Try.mixed (D := D) (L := fun a h => l3 K (a 1) (a 5) (a 6) (a 8) (a 9) (a 11) (a 12) h) (fun a h p => p a rfl rfl rfl rfl rfl rfl rfl) (u13 p)
theorem u11 (p : l3 K (a 1) (a 5) (a 6) (a 8) (a 9) (a 11) (a 12) h) : I c11 (q2 j15 K) a h := ICx.blk (u12 p)
theorem j12_ok (l3 : G7) (j15 : G3) : I c18 (q7 l3 j15 K) a h = j12g l3 j15 K (a 1) (a 5) (a 6) (a 8) (a 9) (a 11) h := by kernel_rfl
theorem u18 (p : j12 K (a 1) (a 5) (a 6) (a 8) (a 9) (a 11) h) : I c18 (q7 l3 j15 K) a h := ICx.to p (j12_ok l3 j15)
theorem u10 (p : j12 K (a 1) (a 5) (a 6) (a 8) (a 9) (a 11) h) : I c10 (q2 j15 K) a h := ICx.sq (fun _ _ => u11) (u18 p)
theorem u8 (p : j12 K (a 1) (a 5) (a 6) (a 8) (a 9) (a 11) h) : I c8 (q1 K) a h := ICx.sq (fun _ _ => u9) (u10 p)
theorem j11_ok (j12 : G6) : I c19 (q8 j12 K) a h = j11g j12 K (a 1) (a 5) (a 6) (a 8) (a 9) h := by kernel_rfl
theorem u19 (p : j11 K (a 1) (a 5) (a 6) (a 8) (a 9) h) : I c19 (q8 j12 K) a h := ICx.to p (j11_ok j12)
theorem u7 (p : j11 K (a 1) (a 5) (a 6) (a 8) (a 9) h) : I c7 (q1 K) a h := ICx.sq (fun _ _ => u8) (u19 p)
theorem j10_ok (l2 : G6) (j11 : G5) : I c25 (q11 l2 j11 K) a h = j10g l2 j11 K (a 1) (a 5) (a 6) (a 8) (a 9) (a 10) h := by kernel_rfl
theorem u25 (p : j10 K (a 1) (a 5) (a 6) (a 8) (a 9) (a 10) h) : I c25 (q11 l2 j11 K) a h := ICx.to p (j10_ok l2 j11)
theorem j9_ok (j10 : G6) (l2 : G6) (j11 : G5) : I c26 (q12 j10 l2 j11 K) a h = j9g j10 l2 j11 K (a 1) (a 5) (a 6) (a 8) (a 9) (a 10) h := by kernel_rfl
theorem u26 (p : j9 K (a 1) (a 5) (a 6) (a 8) (a 9) (a 10) h) : I c26 (q12 j10 l2 j11 K) a h := ICx.to p (j9_ok j10 l2 j11)
theorem u24 (p : j9 K (a 1) (a 5) (a 6) (a 8) (a 9) (a 10) h) : I c24 (q11 l2 j11 K) a h := ICx.sq (fun _ _ => u25) (u26 p)
theorem b2_ok (j9 : G6) (l2 : G6) (j11 : G5) : I c27 (q13 j9 l2 j11 K) a h = b2g j9 l2 j11 K (a 1) (a 5) (a 6) (a 8) (a 9) (a 10) h := by kernel_rfl
theorem u27 (p : b2 K (a 1) (a 5) (a 6) (a 8) (a 9) (a 10) h) : I c27 (q13 j9 l2 j11 K) a h := ICx.to p (b2_ok j9 l2 j11)
theorem u23 (p : b2 K (a 1) (a 5) (a 6) (a 8) (a 9) (a 10) h) : I c23 (q11 l2 j11 K) a h := ICx.sq (fun _ _ => u24) (u27 p)
theorem u22 (p : l2 K (a 1) (a 5) (a 6) (a 8) (a 9) (a 10) h) : I c22 (q10 j11 K) a h := ICx.lp (p a rfl rfl rfl rfl rfl rfl)
theorem l2_round {x1 x5 x6 x8 x9 x10 : IV} (p : b2 K x1 x5 x6 x8 x9 x10 h) : l2 K x1 x5 x6 x8 x9 x10 h := by
  intro a e1 e5 e6 e8 e9 e10
  subst e1; subst e5; subst e6; subst e8; subst e9; subst e10; exact ICx.round Try.mixed (D := D) (L := fun a h => l2 K (a 1) (a 5) (a 6) (a 8) (a 9) (a 10) h) (fun a h p => p a rfl rfl rfl rfl rfl rfl) (u23 p)
theorem u21 (p : l2 K (a 1) (a 5) (a 6) (a 8) (a 9) (a 10) h) : I c21 (q9 j11 K) a h := ICx.blk (u22 p)
theorem j8_ok (l2 : G6) (j11 : G5) : I c28 (q14 l2 j11 K) a h = j8g l2 j11 K (a 1) (a 5) (a 6) (a 8) (a 9) h := by kernel_rfl
theorem u28 (p : j8 K (a 1) (a 5) (a 6) (a 8) (a 9) h) : I c28 (q14 l2 j11 K) a h := ICx.to p (j8_ok l2 j11)
theorem u20 (p : j8 K (a 1) (a 5) (a 6) (a 8) (a 9) h) : I c20 (q9 j11 K) a h := ICx.sq (fun _ _ => u21) (u28 p)
theorem u6 (p : j8 K (a 1) (a 5) (a 6) (a 8) (a 9) h) : I c6 (q1 K) a h := ICx.sq (fun _ _ => u7) (u20 p)
theorem j7_ok (j8 : G5) : I c29 (q15 j8 K) a h = j7g j8 K (a 1) (a 5) (a 6) (a 8) (a 9) h := by kernel_rfl
theorem u29 (p : j7 K (a 1) (a 5) (a 6) (a 8) (a 9) h) : I c29 (q15 j8 K) a h := ICx.to p (j7_ok j8)
theorem u5 (p : j7 K (a 1) (a 5) (a 6) (a 8) (a 9) h) : I c5 (q1 K) a h := ICx.sq (fun _ _ => u6) (u29 p)
theorem j6_ok (j7 : G5) : I c30 (q16 j7 K) a h = j6g j7 K (a 1) (a 5) (a 6) h := by kernel_rfl
theorem u30 (p : j6 K (a 1) (a 5) (a 6) h) : I c30 (q16 j7 K) a h := ICx.to p (j6_ok j7)
theorem u4 (p : j6 K (a 1) (a 5) (a 6) h) : I c4 (q1 K) a h := ICx.sq (fun _ _ => u5) (u30 p)
theorem j5_ok (l1 : G5) (j6 : G3) : I c36 (q19 l1 j6 K) a h = j5g l1 j6 K (a 0) (a 1) (a 5) (a 6) (a 7) h := by kernel_rfl
theorem u36 (p : j5 K (a 0) (a 1) (a 5) (a 6) (a 7) h) : I c36 (q19 l1 j6 K) a h := ICx.to p (j5_ok l1 j6)
theorem j4_ok (j5 : G5) (l1 : G5) (j6 : G3) : I c37 (q20 j5 l1 j6 K) a h = j4g j5 l1 j6 K (a 0) (a 1) (a 5) (a 6) (a 7) h := by kernel_rfl
theorem u37 (p : j4 K (a 0) (a 1) (a 5) (a 6) (a 7) h) : I c37 (q20 j5 l1 j6 K) a h := ICx.to p (j4_ok j5 l1 j6)
theorem u35 (p : j4 K (a 0) (a 1) (a 5) (a 6) (a 7) h) : I c35 (q19 l1 j6 K) a h := ICx.sq (fun _ _ => u36) (u37 p)
theorem b1_ok (j4 : G5) (l1 : G5) (j6 : G3) : I c38 (q21 j4 l1 j6 K) a h = b1g j4 l1 j6 K (a 0) (a 1) (a 5) (a 6) (a 7) h := by kernel_rfl
theorem u38 (p : b1 K (a 0) (a 1) (a 5) (a 6) (a 7) h) : I c38 (q21 j4 l1 j6 K) a h := ICx.to p (b1_ok j4 l1 j6)
theorem u34 (p : b1 K (a 0) (a 1) (a 5) (a 6) (a 7) h) : I c34 (q19 l1 j6 K) a h := ICx.sq (fun _ _ => u35) (u38 p)
theorem u33 (p : l1 K (a 0) (a 1) (a 5) (a 6) (a 7) h) : I c33 (q18 j6 K) a h := ICx.lp (p a rfl rfl rfl rfl rfl)
theorem l1_round {x0 x1 x5 x6 x7 : IV} (p : b1 K x0 x1 x5 x6 x7 h) : l1 K x0 x1 x5 x6 x7 h := by
  intro a e0 e1 e5 e6 e7
  subst e0; subst e1; subst e5; subst e6; subst e7; exact ICx.round Try.mixed (D := D) (L := fun a h => l1 K (a 0) (a 1) (a 5) (a 6) (a 7) h) (fun a h p => p a rfl rfl rfl rfl rfl) (u34 p)
theorem u32 (p : l1 K (a 0) (a 1) (a 5) (a 6) (a 7) h) : I c32 (q17 j6 K) a h := ICx.blk (u33 p)
theorem j3_ok (l1 : G5) (j6 : G3) : I c39 (q22 l1 j6 K) a h = j3g l1 j6 K (a 0) (a 1) (a 5) (a 6) h := by kernel_rfl
theorem u39 (p : j3 K (a 0) (a 1) (a 5) (a 6) h) : I c39 (q22 l1 j6 K) a h := ICx.to p (j3_ok l1 j6)
theorem u31 (p : j3 K (a 0) (a 1) (a 5) (a 6) h) : I c31 (q17 j6 K) a h := ICx.sq (fun _ _ => u32) (u39 p)
theorem u3 (p : j3 K (a 0) (a 1) (a 5) (a 6) h) : I c3 (q1 K) a h := ICx.sq (fun _ _ => u4) (u31 p)
theorem j2_ok (j3 : G4) : I c40 (q23 j3 K) a h = j2g j3 K (a 0) (a 1) (a 5) (a 6) h := by kernel_rfl
theorem u40 (p : j2 K (a 0) (a 1) (a 5) (a 6) h) : I c40 (q23 j3 K) a h := ICx.to p (j2_ok j3)
theorem u2 (p : j2 K (a 0) (a 1) (a 5) (a 6) h) : I c2 (q1 K) a h := ICx.sq (fun _ _ => u3) (u40 p)
theorem j1_ok (j2 : G4) : I c41 (q24 j2 K) a h = j1g j2 K (a 0) (a 1) h := by kernel_rfl
theorem u41 (p : j1 K (a 0) (a 1) h) : I c41 (q24 j2 K) a h := ICx.to p (j1_ok j2)
theorem u1 (p : j1 K (a 0) (a 1) h) : I c1 (q1 K) a h := ICx.sq (fun _ _ => u2) (u41 p)
theorem e_ok (j1 : G2) : I c42 (q25 j1 K) a h = eg j1 K (a 0) (a 1) h := by kernel_rfl
theorem u42 (p : e K (a 0) (a 1) h) : I c42 (q25 j1 K) a h := ICx.to p (e_ok j1)
theorem u0 (p : e K (a 0) (a 1) h) : I c0 (q1 K) a h := ICx.sq (fun _ _ => u1) (u42 p)
theorem call {x0 x1 : IV} (p : e K x0 x1 h) : Z0 PP Z1k [x0, x1] h K :=
  ICx.fn Try.mixed Try.func4 rfl (Nat.le_of_ble_eq_true rfl) (u0 (a := actI [x0, x1]) p)
end Zc
namespace Z12
def D : Nat → DI
  | _ => ⟨[], [], []⟩
abbrev I := ICx PP 3 D
def c0 : Code := bodyN Try.f5
abbrev q1 (K : KT) : QT := finK PP Try.f5.results.toList K
def e (K : KT) (h : Heap) : Prop :=
 oV (.nil) h fun v1 =>
 oD (Zs PP Z8 []) h fun v2 =>
 oA (boxI Z8 v2 h) h fun v3 h1 =>
 oV v3 h1 fun v4 =>
 Zb PP [.v v4] h1 K
theorem u0 (p : e K h) : I c0 (q1 K) a h := ICx.to p
theorem call (p : e K h) : Z0 PP ZG [] h K :=
  ICx.fn Try.mixed Try.func5 rfl (Nat.le_of_ble_eq_true rfl) (u0 (a := actI []) p)
end Z12
namespace Z13
def D : Nat → DI
  | _ => ⟨[], [], []⟩
abbrev I := ICx PP 3 D
def c0 : Code := bodyN Try.f6
abbrev q1 (K : KT) : QT := finK PP Try.f6.results.toList K
def e (K : KT) (h : Heap) : Prop :=
 oV (.nil) h fun v1 =>
 oD (Zs PP Z7 []) h fun v2 =>
 oA (boxI Z7 v2 h) h fun v3 h1 =>
 oV v3 h1 fun v4 =>
 Zb PP [.v v4] h1 K
theorem u0 (p : e K h) : I c0 (q1 K) a h := ICx.to p
theorem call (p : e K h) : Z0 PP ZM [] h K :=
  ICx.fn Try.mixed Try.func6 rfl (Nat.le_of_ble_eq_true rfl) (u0 (a := actI []) p)
end Z13
namespace ZD
def D : Nat → DI
  | _ => ⟨[], [], []⟩
abbrev I := ICx PP 24 D
def c0 : Code := bodyN Try.f7
def c1 : Code := cR c0
def c2 : Code := cR c1
def c3 : Code := cR c2
def c4 : Code := cL c2
def c5 : Code := cL c1
def c6 : Code := cL c0
abbrev q1 (K : KT) : QT := finK PP Try.f7.results.toList K
def j3 (K : KT) (x1 : IV) (h : Heap) : Prop :=
 oV x1 h fun v1 =>
 oA (Zq PP Z1 1 [(0, .int .u8 1)] h) h fun v2 h1 =>
 Z0 PP ZI [v1, v2] h1 fun v3 h2 =>
 oV x1 h2 fun v4 =>
 Z0 PP ZN [v4] h2 fun v5 h3 =>
 oV x1 h3 fun v6 =>
 oA (Zq PP Z1 2 [(0, .int .u8 2), (1, .int .u8 3)] h3) h3 fun v7 h4 =>
 Z0 PP ZI [v6, v7] h4 fun v8 h5 =>
 oV x1 h5 fun v9 =>
 Z0 PP ZO [v9, .int .i64 1] h5 fun v10 h6 =>
 oV x1 h6 fun v11 =>
 Z0 PP Zv [v11] h6 fun v12 h7 =>
 oA (Zq PP Z1 2 [(0, .int .u8 1), (1, .int .u8 2)] h7) h7 fun v13 h8 =>
 Z0 PP ZB [v12, v13] h8 fun v14 h9 =>
 oV v14 h9 fun v15 =>
 oG (gW v15 true) (some x1) h9 fun v16 =>
 Zi PP (gW v15 true) ZC [v16] h9 fun v17 h10 =>
 oG (gW v15 true) (Z5 PP .eql Z2 v17 (.int .i64 2)) h10 fun v18 =>
 oP sT (Zg v15 v18 (.bool false) h10) h10 fun v19 =>
 oV v19 h10 fun v20 =>
 Zb PP [.v v20] h10 K
abbrev q2 (j3 : G1) (K : KT) : QT := Z6 (fun a h => j3 K (a 1) h) (q1 K)
def j2g (j3 : G1) (K : KT) (x1 : IV) (h : Heap) : Prop :=
 oV x1 h fun v1 =>
 oD (Z5 PP .eql Zl v1 (.nil)) h fun v2 =>
 bK' v2
   (oV (.bool false) h fun v3 =>
   Zb PP [.v v3] h K)
   (j3 K x1 h)
abbrev j2 : G1 := j2g j3
abbrev q3 (j2 : G1) (K : KT) : QT := Z6 (fun a h => j2 K (a 1) h) (q1 K)
def j1g (j2 : G1) (K : KT) (h : Heap) : Prop :=
 Z0 PP ZG [] h fun v1 h1 =>
 oV v1 h1 fun v2 =>
 j2 K v2 h1
abbrev j1 : G0 := j1g j2
abbrev q4 (j1 : G0) (K : KT) : QT := Z6 (fun a h => j1 K h) (q1 K)
def eg (j1 : G0) (K : KT) (h : Heap) : Prop :=
 oV (.bool false) h fun v1 =>
 j1 K h
abbrev e : G0 := eg j1
theorem u3 (p : j3 K (a 1) h) : I c3 (q1 K) a h := ICx.to p
theorem j2_ok (j3 : G1) : I c4 (q2 j3 K) a h = j2g j3 K (a 1) h := by kernel_rfl
theorem u4 (p : j2 K (a 1) h) : I c4 (q2 j3 K) a h := ICx.to p (j2_ok j3)
theorem u2 (p : j2 K (a 1) h) : I c2 (q1 K) a h := ICx.sq (fun _ _ => u3) (u4 p)
theorem j1_ok (j2 : G1) : I c5 (q3 j2 K) a h = j1g j2 K h := by kernel_rfl
theorem u5 (p : j1 K h) : I c5 (q3 j2 K) a h := ICx.to p (j1_ok j2)
theorem u1 (p : j1 K h) : I c1 (q1 K) a h := ICx.sq (fun _ _ => u2) (u5 p)
theorem e_ok (j1 : G0) : I c6 (q4 j1 K) a h = eg j1 K h := by kernel_rfl
theorem u6 (p : e K h) : I c6 (q4 j1 K) a h := ICx.to p (e_ok j1)
theorem u0 (p : e K h) : I c0 (q1 K) a h := ICx.sq (fun _ _ => u1) (u6 p)
theorem call (p : e K h) : Z0 PP Zw [] h K :=
  ICx.fn Try.mixed Try.func7 rfl (Nat.le_of_ble_eq_true rfl) (u0 (a := actI []) p)
end ZD
namespace Zm
def D : Nat → DI
  | _ => ⟨[], [], []⟩
abbrev I := ICx PP 20 D
def c0 : Code := bodyN Try.f8
def c1 : Code := cR c0
def c2 : Code := cR c1
def c3 : Code := cR c2
def c4 : Code := cL c2
def c5 : Code := cR c4
def c6 : Code := cL c5
def c7 : Code := cL c6
def c8 : Code := cR c7
def c9 : Code := cR c8
def c10 : Code := cL c8
def c11 : Code := cL c7
def c12 : Code := cL c4
def c13 : Code := cL c1
def c14 : Code := cL c0
abbrev q1 (K : KT) : QT := finK PP Try.f8.results.toList K
def j5 (K : KT) (h : Heap) : Prop :=
 oV (.bool true) h fun v1 =>
 Zb PP [.v v1] h K
abbrev q2 (j5 : G0) (K : KT) : QT := Z6 (fun a h => j5 K h) (q1 K)
abbrev q3 (j5 : G0) (K : KT) : QT := Zu 0 (q2 j5 K)
def l1 (K : KT) (x0 x3 : IV) (h : Heap) : Prop := ∀ a : IAct, a 0 = x0 → a 3 = x3 → ILoop PP 20 c7 (q3 j5 K) a h
abbrev q4 (l1 : G2) (j5 : G0) (K : KT) : QT := Z6 (fun a h => l1 K (a 0) (a 3) h) (q3 j5 K)
def j4g (l1 : G2) (j5 : G0) (K : KT) (x0 x3 : IV) (h : Heap) : Prop :=
 oV x3 h fun v1 =>
 oD (Z5 PP .add Z2 v1 (.int .i64 1)) h fun v2 =>
 oV v2 h fun v3 =>
 l1 K x0 v3 h
abbrev j4 : G2 := j4g l1 j5
abbrev q5 (j4 : G2) (l1 : G2) (j5 : G0) (K : KT) : QT := Z6 (fun a h => j4 K (a 0) (a 3) h) (q4 l1 j5 K)
def j3g (j4 : G2) (l1 : G2) (j5 : G0) (K : KT) (x0 x3 : IV) (h : Heap) : Prop :=
 oV x0 h fun v1 =>
 oV x3 h fun v2 =>
 oD (Zp PP Zn v1 v2 h) h fun v3 =>
 oD (Z4 PP Ze v3 2) h fun v4 =>
 oD (Z3 PP Z1 v4 h) h fun v5 =>
 oD (lenI PP Z1 v5) h fun v6 =>
 oD (Z5 PP .gtr Z2 v6 (.int .i64 60)) h fun v7 =>
 bK' v7
   (oV (.bool false) h fun v8 =>
   Zb PP [.v v8] h K)
   (j4 K x0 x3 h)
abbrev j3 : G2 := j3g j4 l1 j5
abbrev q6 (j3 : G2) (l1 : G2) (j5 : G0) (K : KT) : QT := Z6 (fun a h => j3 K (a 0) (a 3) h) (q4 l1 j5 K)
def b1g (j3 : G2) (l1 : G2) (j5 : G0) (K : KT) (x0 x3 : IV) (h : Heap) : Prop :=
 oV x3 h fun v1 =>
 oV x0 h fun v2 =>
 oD (lenI PP Zn v2) h fun v3 =>
 oD (Z5 PP .lss Z2 v1 v3) h fun v4 =>
 bK' v4
   (j3 K x0 x3 h)
   (j5 K h)
abbrev b1 : G2 := b1g j3 l1 j5
abbrev q7 (l1 : G2) (j5 : G0) (K : KT) : QT := Z6 (fun a h => l1 K (a 0) (a 3) h) (q2 j5 K)
def j2g (l1 : G2) (j5 : G0) (K : KT) (x0 : IV) (h : Heap) : Prop :=
 oV (.int .i64 0) h fun v1 =>
 l1 K x0 v1 h
abbrev j2 : G1 := j2g l1 j5
abbrev q8 (j2 : G1) (K : KT) : QT := Z6 (fun a h => j2 K (a 0) h) (q1 K)
def j1g (j2 : G1) (K : KT) (x0 : IV) (h : Heap) : Prop :=
 oV x0 h fun v1 =>
 oD (lenI PP Zn v1) h fun v2 =>
 oD (Z5 PP .gtr Z2 v2 (.int .i64 60)) h fun v3 =>
 bK' v3
   (oV (.bool false) h fun v4 =>
   Zb PP [.v v4] h K)
   (j2 K x0 h)
abbrev j1 : G1 := j1g j2
abbrev q9 (j1 : G1) (K : KT) : QT := Z6 (fun a h => j1 K (a 0) h) (q1 K)
def eg (j1 : G1) (K : KT) (x0 : IV) (h : Heap) : Prop :=
 oV (.bool false) h fun v1 =>
 j1 K x0 h
abbrev e : G1 := eg j1
theorem u3 (p : j5 K h) : I c3 (q1 K) a h := ICx.to p
theorem j4_ok (l1 : G2) (j5 : G0) : I c9 (q4 l1 j5 K) a h = j4g l1 j5 K (a 0) (a 3) h := by kernel_rfl
theorem u9 (p : j4 K (a 0) (a 3) h) : I c9 (q4 l1 j5 K) a h := ICx.to p (j4_ok l1 j5)
theorem j3_ok (j4 : G2) (l1 : G2) (j5 : G0) : I c10 (q5 j4 l1 j5 K) a h = j3g j4 l1 j5 K (a 0) (a 3) h := by kernel_rfl
theorem u10 (p : j3 K (a 0) (a 3) h) : I c10 (q5 j4 l1 j5 K) a h := ICx.to p (j3_ok j4 l1 j5)
theorem u8 (p : j3 K (a 0) (a 3) h) : I c8 (q4 l1 j5 K) a h := ICx.sq (fun _ _ => u9) (u10 p)
theorem b1_ok (j3 : G2) (l1 : G2) (j5 : G0) : I c11 (q6 j3 l1 j5 K) a h = b1g j3 l1 j5 K (a 0) (a 3) h := by kernel_rfl
theorem u11 (p : b1 K (a 0) (a 3) h) : I c11 (q6 j3 l1 j5 K) a h := ICx.to p (b1_ok j3 l1 j5)
theorem u7 (p : b1 K (a 0) (a 3) h) : I c7 (q4 l1 j5 K) a h := ICx.sq (fun _ _ => u8) (u11 p)
theorem u6 (p : l1 K (a 0) (a 3) h) : I c6 (q3 j5 K) a h := ICx.lp (p a rfl rfl)
theorem l1_round {x0 x3 : IV} (p : b1 K x0 x3 h) : l1 K x0 x3 h := by
  intro a e0 e3
  subst e0; subst e3; exact ICx.round Try.mixed (D := D) (L := fun a h => l1 K (a 0) (a 3) h) (fun a h p => p a rfl rfl) (u7 p)
theorem u5 (p : l1 K (a 0) (a 3) h) : I c5 (q2 j5 K) a h := ICx.blk (u6 p)
theorem j2_ok (l1 : G2) (j5 : G0) : I c12 (q7 l1 j5 K) a h = j2g l1 j5 K (a 0) h := by kernel_rfl
theorem u12 (p : j2 K (a 0) h) : I c12 (q7 l1 j5 K) a h := ICx.to p (j2_ok l1 j5)
theorem u4 (p : j2 K (a 0) h) : I c4 (q2 j5 K) a h := ICx.sq (fun _ _ => u5) (u12 p)
theorem u2 (p : j2 K (a 0) h) : I c2 (q1 K) a h := ICx.sq (fun _ _ => u3) (u4 p)
theorem j1_ok (j2 : G1) : I c13 (q8 j2 K) a h = j1g j2 K (a 0) h := by kernel_rfl
theorem u13 (p : j1 K (a 0) h) : I c13 (q8 j2 K) a h := ICx.to p (j1_ok j2)
theorem u1 (p : j1 K (a 0) h) : I c1 (q1 K) a h := ICx.sq (fun _ _ => u2) (u13 p)
theorem e_ok (j1 : G1) : I c14 (q9 j1 K) a h = eg j1 K (a 0) h := by kernel_rfl
theorem u14 (p : e K (a 0) h) : I c14 (q9 j1 K) a h := ICx.to p (e_ok j1)
theorem u0 (p : e K (a 0) h) : I c0 (q1 K) a h := ICx.sq (fun _ _ => u1) (u14 p)
theorem call {x0 : IV} (p : e K x0 h) : Z0 PP ZH [x0] h K :=
  ICx.fn Try.mixed Try.func8 rfl (Nat.le_of_ble_eq_true rfl) (u0 (a := actI [x0]) p)
end Zm
namespace Zj
def D : Nat → DI
  | 3 => ⟨[0, 1, 0, 4, 12, 28, 60, 124, 255, 511], [0, 1, 2, 3, 4, 5, 6, 7, 8, 9], []⟩
  | 19 => ⟨[0, 1, 0, 4, 12, 28, 63, 127, 255, 511, 255, 1279, 3327, 7423, 16383, 32767, 65535], [0, 2, 3, 4, 5, 1, 6, 7, 8, 10, 11, 12, 13, 9, 14, 15, 16], []⟩
  | _ => ⟨[], [], []⟩
abbrev I := ICx PP 76 D
def c0 : Code := bodyN Try.f9
def c1 : Code := cR c0
def c2 : Code := cR c1
def c3 : Code := cR c2
def c4 : Code := cR c3
def c5 : Code := cL c3
def c6 : Code := cR c5
def c7 : Code := cL c6
def c8 : Code := cR c7
def c9 : Code := cL c7
def c10 : Code := cL c5
def c11 : Code := cL c2
def c12 : Code := cL c1
def c13 : Code := cL c0
abbrev q1 (K : KT) : QT := finK PP Try.f9.results.toList K
def j6 (K : KT) (x0 x1 : IV) (h : Heap) : Prop :=
 oV x0 h fun v1 =>
 oV x1 h fun v2 =>
 oP sT (nilI v2 h) h fun v3 =>
 oD (Z4 PP Z7 v3 0) h fun v4 =>
 oD (Z3 PP Z1 v4 h) h fun v5 =>
 Z0 PP Zv [v1] h fun v6 h1 => oB ((Za (Z3 PP Z1 v4 h1) v5 h1) ∧ True) <|
 Z0 PP ZB [v6, v5] h1 fun v7 h2 => oB (True) <|
 oV v7 h2 fun v8 =>
 oG (gW v8 true) (some x0) h2 fun v9 =>
 oG (gW v8 true) (some x1) h2 fun v10 =>
 oP (gW v8 true) (nilI v10 h2) h2 fun v11 =>
 oG (gW v8 true) (Z4 PP Z7 v11 1) h2 fun v12 =>
 oG (gW v8 true) (Z3 PP Z2 v12 h2) h2 fun v13 =>
 Zi PP (gW v8 true) ZC [v9] h2 fun v14 h3 => oB ((Zz (gW v8 true) (Z3 PP Z2 v12 h3) v13 h3) ∧ True) <|
 oG (gW v8 true) (Z5 PP .eql Z2 v14 v13) h3 fun v15 =>
 oP sT (Zg v8 v15 (.bool false) h3) h3 fun v16 =>
 oV v16 h3 fun v17 =>
 Zb PP [.v v17] h3 K
abbrev q2 (j6 : G2) (K : KT) : QT := Z6 (fun a h => j6 K (a 0) (a 1) h) (q1 K)
abbrev q3 (j6 : G2) (K : KT) : QT := Zu 0 (q2 j6 K)
def j5g (j6 : G2) (K : KT) (x0 x1 x5 x7 x25 x32 : IV) (h : Heap) : Prop :=
 bK' x32
   (oV x0 h fun v1 =>
   oD (Z4 PP Ze x5 2) h fun v2 =>
   oD (Z3 PP Z1 v2 h) h fun v3 =>
   Z0 PP ZI [v1, v3] h fun v4 h1 =>
   oV x1 h1 fun v5 =>
   oD (Z4 PP Ze x5 2) h1 fun v6 =>
   oD (Z3 PP Z1 v6 h1) h1 fun v7 =>
   Z0 PP ZX [v5, v7] h1 fun v8 h2 =>
   j6 K x0 x1 h2)
   (oD (Z5 PP .eql Z2 x25 (.int .i64 4)) h fun v9 =>
   oV v9 h fun v10 =>
   bK' v10
     (oV x0 h fun v11 =>
     Z0 PP ZN [v11] h fun v12 h3 =>
     oV x1 h3 fun v13 =>
     Z0 PP ZY [v13] h3 fun v14 h4 =>
     j6 K x0 x1 h4)
     (oD (Z5 PP .eql Z2 x25 (.int .i64 5)) h fun v15 =>
     oV v15 h fun v16 =>
     bK' v16
       (oV x0 h fun v17 =>
       oV x7 h fun v18 =>
       Z0 PP ZZ [v17, v18] h fun v19 h5 =>
       oV x1 h5 fun v20 =>
       oV x7 h5 fun v21 =>
       Z0 PP Z10 [v20, v21] h5 fun v22 h6 =>
       oD (Z5 PP .neq Z1u v19 v22) h6 fun v23 =>
       bK' v23
         (oV (.bool false) h6 fun v24 =>
         Zb PP [.v v24] h6 K)
         (j6 K x0 x1 h6))
       (oV x0 h fun v25 =>
       oV x7 h fun v26 =>
       Z0 PP ZO [v25, v26] h fun v27 h7 =>
       oV x1 h7 fun v28 =>
       oV x7 h7 fun v29 =>
       Z0 PP Z11 [v28, v29] h7 fun v30 h8 =>
       j6 K x0 x1 h8)))
abbrev j5 : G6 := j5g j6
abbrev q4 (j5 : G6) (j6 : G2) (K : KT) : QT := Z6 (fun a h => j5 K (a 0) (a 1) (a 5) (a 7) (a 25) (a 32) h) (q3 j6 K)
def j4g (j5 : G6) (j6 : G2) (K : KT) (x0 x1 x5 x7 x25 : IV) (h : Heap) : Prop :=
 oD (Z5 PP .eql Z2 x25 (.int .i64 0)) h fun v1 =>
 oV v1 h fun v2 =>
 bK' v2
   (j5 K x0 x1 x5 x7 x25 v2 h)
   (oD (Z5 PP .eql Z2 x25 (.int .i64 1)) h fun v3 =>
   oV v3 h fun v4 =>
   bK' v4
     (j5 K x0 x1 x5 x7 x25 v4 h)
     (oD (Z5 PP .eql Z2 x25 (.int .i64 2)) h fun v5 =>
     oV v5 h fun v6 =>
     bK' v6
       (j5 K x0 x1 x5 x7 x25 v6 h)
       (oD (Z5 PP .eql Z2 x25 (.int .i64 3)) h fun v7 =>
       oV v7 h fun v8 =>
       j5 K x0 x1 x5 x7 x25 v8 h)))
abbrev j4 : G5 := j4g j5 j6
abbrev q5 (j4 : G5) (j6 : G2) (K : KT) : QT := Z6 (fun a h => j4 K (a 0) (a 1) (a 5) (a 7) (a 25) h) (q2 j6 K)
def j3g (j4 : G5) (j6 : G2) (K : KT) (x0 x1 x5 x7 : IV) (h : Heap) : Prop :=
 oD (Z4 PP Ze x5 0) h fun v1 =>
 oD (Z3 PP Z2 v1 h) h fun v2 =>
 Z0 PP ZP [v2, .int .i64 8] h fun v3 h1 =>
 j4 K x0 x1 x5 x7 v3 h1
abbrev j3 : G4 := j3g j4 j6
abbrev q6 (j3 : G4) (K : KT) : QT := Z6 (fun a h => j3 K (a 0) (a 1) (a 5) (a 7) h) (q1 K)
def j2g (j3 : G4) (K : KT) (x0 x1 x5 x7 : IV) (h : Heap) : Prop :=
 oD (Z4 PP Ze x5 0) h fun v1 =>
 oD (Z3 PP Z2 v1 h) h fun v2 =>
 oD (Z5 PP .and Z2 v2 (.int .i64 8)) h fun v3 =>
 oD (Z5 PP .neq Z2 v3 (.int .i64 0)) h fun v4 =>
 bK' v4
   (oD (Z4 PP Ze x5 1) h fun v5 =>
   oD (Z3 PP Z2 v5 h) h fun v6 =>
   oV x1 h fun v7 =>
   oP sT (nilI v7 h) h fun v8 =>
   oD (Z4 PP Z7 v8 0) h fun v9 =>
   oD (Z3 PP Z1 v9 h) h fun v10 =>
   oD (lenI PP Z1 v10) h fun v11 =>
   oD (Z5 PP .add Z2 v11 (.int .i64 1)) h fun v12 =>
   Z0 PP ZW [v6, .int .i64 (-1), v12] h fun v13 h1 => oB (True) <|
   oV v13 h1 fun v14 =>
   j3 K x0 x1 x5 v14 h1)
   (j3 K x0 x1 x5 x7 h)
abbrev j2 : G4 := j2g j3
abbrev q7 (j2 : G4) (K : KT) : QT := Z6 (fun a h => j2 K (a 0) (a 1) (a 5) (a 7) h) (q1 K)
def j1g (j2 : G4) (K : KT) (x0 x1 x5 : IV) (h : Heap) : Prop :=
 oD (Z4 PP Ze x5 1) h fun v1 =>
 oD (Z3 PP Z2 v1 h) h fun v2 =>
 oV v2 h fun v3 =>
 j2 K x0 x1 x5 v3 h
abbrev j1 : G3 := j1g j2
abbrev q8 (j1 : G3) (K : KT) : QT := Z6 (fun a h => j1 K (a 0) (a 1) (a 5) h) (q1 K)
def eg (j1 : G3) (K : KT) (x0 x1 x2 : IV) (h : Heap) : Prop :=
 oA (boxI Ze x2 h) h fun v1 h1 =>
 oV (.bool false) h1 fun v2 =>
 j1 K x0 x1 v1 h1
abbrev e : G3 := eg j1
theorem u4 (p : j6 K (a 0) (a 1) h) : I c4 (q1 K) a h := ICx.to p
theorem j5_ok (j6 : G2) : I c8 (q3 j6 K) a h = j5g j6 K (a 0) (a 1) (a 5) (a 7) (a 25) (a 32) h := by kernel_rfl
theorem u8 (p : j5 K (a 0) (a 1) (a 5) (a 7) (a 25) (a 32) h) : I c8 (q3 j6 K) a h := ICx.to p (j5_ok j6)
theorem j4_ok (j5 : G6) (j6 : G2) : I c9 (q4 j5 j6 K) a h = j4g j5 j6 K (a 0) (a 1) (a 5) (a 7) (a 25) h := by kernel_rfl
theorem u9 (p : j4 K (a 0) (a 1) (a 5) (a 7) (a 25) h) : I c9 (q4 j5 j6 K) a h := ICx.to p (j4_ok j5 j6)
theorem u7 (p : j4 K (a 0) (a 1) (a 5) (a 7) (a 25) h) : I c7 (q3 j6 K) a h := ICx.sq (fun _ _ => u8) (u9 p)
theorem u6 (p : j4 K (a 0) (a 1) (a 5) (a 7) (a 25) h) : I c6 (q2 j6 K) a h := ICx.blk (u7 p)
theorem j3_ok (j4 : G5) (j6 : G2) : I c10 (q5 j4 j6 K) a h = j3g j4 j6 K (a 0) (a 1) (a 5) (a 7) h := by kernel_rfl
theorem u10 (p : j3 K (a 0) (a 1) (a 5) (a 7) h) : I c10 (q5 j4 j6 K) a h := ICx.to p (j3_ok j4 j6)
theorem u5 (p : j3 K (a 0) (a 1) (a 5) (a 7) h) : I c5 (q2 j6 K) a h := ICx.sq (fun _ _ => u6) (u10 p)
theorem u3 (p : j3 K (a 0) (a 1) (a 5) (a 7) h) : I c3 (q1 K) a h := ICx.sq (fun _ _ => u4) (u5 p)
theorem j2_ok (j3 : G4) : I c11 (q6 j3 K) a h = j2g j3 K (a 0) (a 1) (a 5) (a 7) h := by kernel_rfl
theorem u11 (p : j2 K (a 0) (a 1) (a 5) (a 7) h) : I c11 (q6 j3 K) a h := ICx.to p (j2_ok j3)
theorem u2 (p : j2 K (a 0) (a 1) (a 5) (a 7) h) : I c2 (q1 K) a h := ICx.sq (fun _ _ => u3) (u11 p)
theorem j1_ok (j2 : G4) : I c12 (q7 j2 K) a h = j1g j2 K (a 0) (a 1) (a 5) h := by kernel_rfl
theorem u12 (p : j1 K (a 0) (a 1) (a 5) h) : I c12 (q7 j2 K) a h := ICx.to p (j1_ok j2)
theorem u1 (p : j1 K (a 0) (a 1) (a 5) h) : I c1 (q1 K) a h := ICx.sq (fun _ _ => u2) (u12 p)
theorem e_ok (j1 : G3) : I c13 (q8 j1 K) a h = eg j1 K (a 0) (a 1) (a 2) h := by kernel_rfl
theorem u13 (p : e K (a 0) (a 1) (a 2) h) : I c13 (q8 j1 K) a h := ICx.to p (e_ok j1)
theorem u0 (p : e K (a 0) (a 1) (a 2) h) : I c0 (q1 K) a h := ICx.sq (fun _ _ => u1) (u13 p)
theorem call {x0 x1 x2 : IV} (p : e K x0 x1 x2 h) : Z0 PP ZA [x0, x1, x2] h K :=
  ICx.fn Try.mixed Try.func9 rfl (Nat.le_of_ble_eq_true rfl) (u0 (a := actI [x0, x1, x2]) p)
end Zj
namespace Z14
def D : Nat → DI
  | 1 => ⟨[0, 1, 0, 4, 12, 28, 63, 127, 255], [0, 2, 3, 4, 5, 1, 6, 7, 8], [7]⟩
  | _ => ⟨[], [], []⟩
abbrev I := ICx PP 11 D
def c0 : Code := bodyN Try.f10
abbrev q1 (K : KT) : QT := finK PP Try.f10.results.toList K
def e (K : KT) (x0 : IV) (h : Heap) : Prop :=
 oV (.nil) h fun v1 =>
 oV x0 (h ++ [none]) fun v2 =>
 oV x0 (h ++ [none]) fun v3 =>
 oP sT (nilI v3 (h ++ [none])) (h ++ [none]) fun v4 =>
 oD (Z4 PP Z8 v4 1) (h ++ [none]) fun v5 =>
 oD (Z3 PP Z2 v5 (h ++ [none])) (h ++ [none]) fun v6 =>
 Z0 PP Zv [v2] (h ++ [none]) fun v7 h1 => oB ((Za (Z3 PP Z2 v5 h1) v6 h1) ∧ True) <|
 oD (Zs PP Z8 [(0, v7), (1, v6)]) h1 fun v8 =>
 oK (newB Z8 v8) fun v9 =>
 oV (mkV v9.1 (h.length)) h1 fun v10 =>
 Zb PP [.v v10] (h1.set (h.length) (some v9.2)) K
theorem u0 (p : e K (a 0) h) : I c0 (q1 K) a h := ICx.to p
theorem call {x0 : IV} (p : e K x0 h) : Z0 PP ZU [x0] h K :=
  ICx.fn Try.mixed Try.func10 rfl (Nat.le_of_ble_eq_true rfl) (u0 (a := actI [x0]) p)
end Z14
namespace Z15
def D : Nat → DI
  | 1 => ⟨[0, 0, 2, 6, 14, 31, 0, 64, 192, 448, 1023, 2047, 4095], [0, 1, 2, 3, 4, 6, 7, 8, 9, 5, 10, 11, 12], [0, 11]⟩
  | _ => ⟨[], [], []⟩
abbrev I := ICx PP 15 D
def c0 : Code := bodyN Try.f11
abbrev q1 (K : KT) : QT := finK PP Try.f11.results.toList K
def e (K : KT) (x0 : IV) (h : Heap) : Prop :=
 oV (.nil) h fun v1 =>
 oK (newS PP Z1 0 []) fun v2 =>
 oV x0 (h ++ [none, none]) fun v3 =>
 oP sT (nilI v3 (h ++ [none, none])) (h ++ [none, none]) fun v4 =>
 oD (Z4 PP Z7 v4 0) (h ++ [none, none]) fun v5 =>
 oD (Z3 PP Z1 v5 (h ++ [none, none])) (h ++ [none, none]) fun v6 =>
 oV x0 (h ++ [none, none]) fun v7 =>
 oP sT (nilI v7 (h ++ [none, none])) (h ++ [none, none]) fun v8 =>
 oD (Z4 PP Z7 v8 1) (h ++ [none, none]) fun v9 =>
 oD (Z3 PP Z2 v9 (h ++ [none, none])) (h ++ [none, none]) fun v10 =>
 oA (Zk PP Z1 Z1 (mkV v2.1 (h.length)) v6 ((h ++ [none, none]).set (h.length) (some v2.2))) ((h ++ [none, none]).set (h.length) (some v2.2)) fun v11 h1 => oB ((Za (Z3 PP Z2 v9 h1) v10 h1) ∧ True) <|
 oD (Zs PP Z7 [(0, v11), (1, v10)]) h1 fun v12 =>
 oK (newB Z7 v12) fun v13 =>
 oV (mkV v13.1 (h.length + 1)) h1 fun v14 =>
 Zb PP [.v v14] (h1.set (h.length + 1) (some v13.2)) K
theorem u0 (p : e K (a 0) h) : I c0 (q1 K) a h := ICx.to p
theorem call {x0 : IV} (p : e K x0 h) : Z0 PP ZV [x0] h K :=
  ICx.fn Try.mixed Try.func11 rfl (Nat.le_of_ble_eq_true rfl) (u0 (a := actI [x0]) p)
end Z15
namespace Z16
def D : Nat → DI
  | _ => ⟨[], [], []⟩
abbrev I := ICx PP 10 D
def c0 : Code := bodyN Try.f12
abbrev q1 (K : KT) : QT := finK PP Try.f12.results.toList K
def e (K : KT) (x0 x1 : IV) (h : Heap) : Prop :=
 oV (.bool false) h fun v1 =>
 oV x0 h fun v2 =>
 oD (convI PP Z1 ZJ v2 h) h fun v3 =>
 oV x1 h fun v4 =>
 oD (convI PP Z1 ZJ v4 h) h fun v5 =>
 oD (Z5 PP .eql ZJ v3 v5) h fun v6 =>
 oV v6 h fun v7 =>
 Zb PP [.v v7] h K
theorem u0 (p : e K (a 0) (a 1) h) : I c0 (q1 K) a h := ICx.to p
theorem call {x0 x1 : IV} (p : e K x0 x1 h) : Z0 PP ZB [x0, x1] h K :=
  ICx.fn Try.mixed Try.func12 rfl (Nat.le_of_ble_eq_true rfl) (u0 (a := actI [x0, x1]) p)
end Z16
namespace Z17
def D : Nat → DI
  | 1 => ⟨[0, 1, 3, 7, 0, 16, 48, 112, 240, 511, 1023, 2047], [0, 1, 2, 3, 4, 5, 6, 7, 8, 9, 10, 11], []⟩
  | _ => ⟨[], [], []⟩
abbrev I := ICx PP 14 D
def c0 : Code := bodyN Try.f13
abbrev q1 (K : KT) : QT := finK PP Try.f13.results.toList K
def e (K : KT) (x0 : IV) (h : Heap) : Prop :=
 oV (.snil) h fun v1 =>
 oV x0 h fun v2 =>
 oP sT (nilI v2 h) h fun v3 =>
 oD (Z4 PP Z8 v3 0) h fun v4 =>
 oD (Z3 PP Z1 v4 h) h fun v5 =>
 oV x0 h fun v6 =>
 oP sT (nilI v6 h) h fun v7 =>
 oD (Z4 PP Z8 v7 0) h fun v8 =>
 oD (Z3 PP Z1 v8 h) h fun v9 =>
 oD (lenI PP Z1 v9) h fun v10 =>
 oD (sliceI PP Z1 v5 none (some v10) h) h fun v11 =>
 oA (Zk PP Z1 Z1 (.snil) v11 h) h fun v12 h1 => oB (True) <|
 oV v12 h1 fun v13 =>
 Zb PP [.v v13] h1 K
theorem u0 (p : e K (a 0) h) : I c0 (q1 K) a h := ICx.to p
theorem call {x0 : IV} (p : e K x0 h) : Z0 PP Zv [x0] h K :=
  ICx.fn Try.mixed Try.func13 rfl (Nat.le_of_ble_eq_true rfl) (u0 (a := actI [x0]) p)
end Z17
namespace Z18
def D : Nat → DI
  | _ => ⟨[], [], []⟩
abbrev I := ICx PP 7 D
def c0 : Code := bodyN Try.f14
abbrev q1 (K : KT) : QT := finK PP Try.f14.results.toList K
def e (K : KT) (x0 : IV) (h : Heap) : Prop :=
 oV (.int .i64 0) h fun v1 =>
 oV x0 h fun v2 =>
 oP sT (nilI v2 h) h fun v3 =>
 oD (Z4 PP Z8 v3 1) h fun v4 =>
 oD (Z3 PP Z2 v4 h) h fun v5 =>
 oV v5 h fun v6 =>
 Zb PP [.v v6] h K
theorem u0 (p : e K (a 0) h) : I c0 (q1 K) a h := ICx.to p
theorem call {x0 : IV} (p : e K x0 h) : Z0 PP ZC [x0] h K :=
  ICx.fn Try.mixed Try.func14 rfl (Nat.le_of_ble_eq_true rfl) (u0 (a := actI [x0]) p)
end Z18
namespace Z19
def D : Nat → DI
  | _ => ⟨[], [], []⟩
abbrev I := ICx PP 13 D
def c0 : Code := bodyN Try.f15
abbrev q1 (K : KT) : QT := finK PP Try.f15.results.toList K
def e (K : KT) (x0 x1 : IV) (h : Heap) : Prop :=
 oV x0 h fun v1 =>
 oV x0 h fun v2 =>
 oP sT (nilI v2 h) h fun v3 =>
 oD (Z4 PP Z8 v3 0) h fun v4 =>
 oD (Z3 PP Z1 v4 h) h fun v5 =>
 oV x1 h fun v6 =>
 oA (Zk PP Z1 Z1 v5 v6 h) h fun v7 h1 =>
 oP sT (nilI v1 h1) h1 fun v8 =>
 oD (Z4 PP Z8 v8 0) h1 fun v9 =>
 oS (Zf PP Z1 v9 v7 h1) h1 fun h2 =>
 Zb PP [] h2 K
theorem u0 (p : e K (a 0) (a 1) h) : I c0 (q1 K) a h := ICx.to p
theorem call {x0 x1 : IV} (p : e K x0 x1 h) : Z0 PP ZI [x0, x1] h K :=
  ICx.fn Try.mixed Try.func15 rfl (Nat.le_of_ble_eq_true rfl) (u0 (a := actI [x0, x1]) p)
end Z19
namespace Z1a
def D : Nat → DI
  | _ => ⟨[], [], []⟩
abbrev I := ICx PP 10 D
def c0 : Code := bodyN Try.f16
abbrev q1 (K : KT) : QT := finK PP Try.f16.results.toList K
def e (K : KT) (x0 : IV) (h : Heap) : Prop :=
 oV x0 h fun v1 =>
 oV x0 h fun v2 =>
 oP sT (nilI v2 h) h fun v3 =>
 oD (Z4 PP Z8 v3 0) h fun v4 =>
 oD (Z3 PP Z1 v4 h) h fun v5 =>
 oD (lenI PP Z1 v5) h fun v6 =>
 oP sT (nilI v1 h) h fun v7 =>
 oD (Z4 PP Z8 v7 1) h fun v8 =>
 oS (Zf PP Z2 v8 v6 h) h fun h1 =>
 Zb PP [] h1 K
theorem u0 (p : e K (a 0) h) : I c0 (q1 K) a h := ICx.to p
theorem call {x0 : IV} (p : e K x0 h) : Z0 PP ZN [x0] h K :=
  ICx.fn Try.mixed Try.func16 rfl (Nat.le_of_ble_eq_true rfl) (u0 (a := actI [x0]) p)
end Z1a
namespace Z1b
def D : Nat → DI
  | 0 => ⟨[0, 1, 3, 7, 15, 0, 32, 96, 224, 511, 1023], [0, 1, 2, 3, 4, 5, 6, 7, 8, 9, 10], []⟩
  | 1 => ⟨[0, 0, 2, 6, 14, 0, 32, 96, 224, 0, 0, 1536, 3584, 8160, 16382, 32767, 65535, 131071], [0, 1, 2, 3, 4, 5, 6, 7, 8, 9, 10, 11, 12, 13, 14, 15, 16, 17], []⟩
  | _ => ⟨[], [], []⟩
abbrev I := ICx PP 40 D
def c0 : Code := bodyN Try.f17
abbrev q1 (K : KT) : QT := finK PP Try.f17.results.toList K
def e (K : KT) (x0 x1 : IV) (h : Heap) : Prop :=
 oV x0 h fun v1 =>
 oP sT (nilI v1 h) h fun v2 =>
 oD (Z4 PP Z8 v2 0) h fun v3 =>
 oD (Z3 PP Z1 v3 h) h fun v4 =>
 oD (lenI PP Z1 v4) h fun v5 =>
 oV x0 h fun v6 =>
 oP sT (nilI v6 h) h fun v7 =>
 oD (Z4 PP Z8 v7 1) h fun v8 =>
 oD (Z3 PP Z2 v8 h) h fun v9 =>
 oD (Z5 PP .sub Z2 v5 v9) h fun v10 =>
 oV v10 h fun v11 =>
 oV x0 h fun v12 =>
 oV x0 h fun v13 =>
 oP sT (nilI v13 h) h fun v14 =>
 oD (Z4 PP Z8 v14 0) h fun v15 =>
 oD (Z3 PP Z1 v15 h) h fun v16 =>
 oV x0 h fun v17 =>
 oP sT (nilI v17 h) h fun v18 =>
 oD (Z4 PP Z8 v18 1) h fun v19 =>
 oD (Z3 PP Z2 v19 h) h fun v20 =>
 oV x1 h fun v21 =>
 oV v11 h fun v22 =>
 oD (mmI false v21 [v22]) h fun v23 =>
 oD (mmI true (.int .i64 0) [v23]) h fun v24 =>
 oD (Z5 PP .add Z2 v20 v24) h fun v25 =>
 oD (sliceI PP Z1 v16 none (some v25) h) h fun v26 =>
 oP sT (nilI v12 h) h fun v27 =>
 oD (Z4 PP Z8 v27 0) h fun v28 =>
 oS (Zf PP Z1 v28 v26 h) h fun h1 => oB (True) <|
 oV x0 h1 fun v29 =>
 oV x0 h1 fun v30 =>
 oP sT (nilI v30 h1) h1 fun v31 =>
 oD (Z4 PP Z8 v31 0) h1 fun v32 =>
 oD (Z3 PP Z1 v32 h1) h1 fun v33 =>
 oD (lenI PP Z1 v33) h1 fun v34 =>
 oP sT (nilI v29 h1) h1 fun v35 =>
 oD (Z4 PP Z8 v35 1) h1 fun v36 =>
 oS (Zf PP Z2 v36 v34 h1) h1 fun h2 =>
 Zb PP [] h2 K
theorem u0 (p : e K (a 0) (a 1) h) : I c0 (q1 K) a h := ICx.to p
theorem call {x0 x1 : IV} (p : e K x0 x1 h) : Z0 PP ZO [x0, x1] h K :=
  ICx.fn Try.mixed Try.func17 rfl (Nat.le_of_ble_eq_true rfl) (u0 (a := actI [x0, x1]) p)
end Z1b
namespace Z1c
def D : Nat → DI
  | _ => ⟨[], [], []⟩
abbrev I := ICx PP 15 D
def c0 : Code := bodyN Try.f18
abbrev q1 (K : KT) : QT := finK PP Try.f18.results.toList K
def e (K : KT) (x0 x1 x2 : IV) (h : Heap) : Prop :=
 oV (.int .i64 0) h fun v1 =>
 oV x1 h fun v2 =>
 oV x0 h fun v3 =>
 oV x2 h fun v4 =>
 oV x1 h fun v5 =>
 oD (Z5 PP .sub Z2 v4 v5) h fun v6 =>
 oD (Z5 PP .add Z2 v6 (.int .i64 1)) h fun v7 =>
 Z0 PP ZP [v3, v7] h fun v8 h1 =>
 oD (Z5 PP .add Z2 v2 v8) h1 fun v9 =>
 oV v9 h1 fun v10 =>
 Zb PP [.v v10] h1 K
theorem u0 (p : e K (a 0) (a 1) (a 2) h) : I c0 (q1 K) a h := ICx.to p
theorem call {x0 x1 x2 : IV} (p : e K x0 x1 x2 h) : Z0 PP ZW [x0, x1, x2] h K :=
  ICx.fn Try.mixed Try.func18 rfl (Nat.le_of_ble_eq_true rfl) (u0 (a := actI [x0, x1, x2]) p)
end Z1c
namespace Z1d
def D : Nat → DI
  | _ => ⟨[], [], []⟩
abbrev I := ICx PP 12 D
def c0 : Code := bodyN Try.f19
abbrev q1 (K : KT) : QT := finK PP Try.f19.results.toList K
def e (K : KT) (x0 x1 : IV) (h : Heap) : Prop :=
 oV (.int .i64 0) h fun v1 =>
 oV x0 h fun v2 =>
 oV x1 h fun v3 =>
 oD (Z5 PP .rem Z2 v2 v3) h fun v4 =>
 oV x1 h fun v5 =>
 oD (Z5 PP .add Z2 v4 v5) h fun v6 =>
 oV x1 h fun v7 =>
 oD (Z5 PP .rem Z2 v6 v7) h fun v8 =>
 oV v8 h fun v9 =>
 Zb PP [.v v9] h K
theorem u0 (p : e K (a 0) (a 1) h) : I c0 (q1 K) a h := ICx.to p
theorem call {x0 x1 : IV} (p : e K x0 x1 h) : Z0 PP ZP [x0, x1] h K :=
  ICx.fn Try.mixed Try.func19 rfl (Nat.le_of_ble_eq_true rfl) (u0 (a := actI [x0, x1]) p)
end Z1d
namespace Z1e
def D : Nat → DI
  | _ => ⟨[], [], []⟩
abbrev I := ICx PP 15 D
def c0 : Code := bodyN Try.f20
abbrev q1 (K : KT) : QT := finK PP Try.f20.results.toList K
def e (K : KT) (x0 x1 : IV) (h : Heap) : Prop :=
 oV x0 h fun v1 =>
 oA (Zq PP Z1 0 [] h) h fun v2 h1 =>
 oV x0 h1 fun v3 =>
 oP sT (nilI v3 h1) h1 fun v4 =>
 oD (Z4 PP Z7 v4 0) h1 fun v5 =>
 oD (Z3 PP Z1 v5 h1) h1 fun v6 =>
 oA (Zk PP Z1 Z1 v2 v6 h1) h1 fun v7 h2 =>
 oV x1 h2 fun v8 =>
 oA (Zk PP Z1 Z1 v7 v8 h2) h2 fun v9 h3 =>
 oP sT (nilI v1 h3) h3 fun v10 =>
 oD (Z4 PP Z7 v10 0) h3 fun v11 =>
 oS (Zf PP Z1 v11 v9 h3) h3 fun h4 =>
 Zb PP [] h4 K
theorem u0 (p : e K (a 0) (a 1) h) : I c0 (q1 K) a h := ICx.to p
theorem call {x0 x1 : IV} (p : e K x0 x1 h) : Z0 PP ZX [x0, x1] h K :=
  ICx.fn Try.mixed Try.func20 rfl (Nat.le_of_ble_eq_true rfl) (u0 (a := actI [x0, x1]) p)
end Z1e
namespace Z1f
def D : Nat → DI
  | _ => ⟨[], [], []⟩
abbrev I := ICx PP 10 D
def c0 : Code := bodyN Try.f21
abbrev q1 (K : KT) : QT := finK PP Try.f21.results.toList K
def e (K : KT) (x0 : IV) (h : Heap) : Prop :=
 oV x0 h fun v1 =>
 oV x0 h fun v2 =>
 oP sT (nilI v2 h) h fun v3 =>
 oD (Z4 PP Z7 v3 0) h fun v4 =>
 oD (Z3 PP Z1 v4 h) h fun v5 =>
 oD (lenI PP Z1 v5) h fun v6 =>
 oP sT (nilI v1 h) h fun v7 =>
 oD (Z4 PP Z7 v7 1) h fun v8 =>
 oS (Zf PP Z2 v8 v6 h) h fun h1 =>
 Zb PP [] h1 K
theorem u0 (p : e K (a 0) h) : I c0 (q1 K) a h := ICx.to p
theorem call {x0 : IV} (p : e K x0 h) : Z0 PP ZY [x0] h K :=
  ICx.fn Try.mixed Try.func21 rfl (Nat.le_of_ble_eq_true rfl) (u0 (a := actI [x0]) p)
end Z1f
namespace Zx
def D : Nat → DI
  | _ => ⟨[], [], []⟩
abbrev I := ICx PP 34 D
def c0 : Code := bodyN Try.f22
def c1 : Code := cR c0
def c2 : Code := cR c1
def c3 : Code := cL c1
def c4 : Code := cL c0
abbrev q1 (K : KT) : QT := finK PP Try.f22.results.toList K
def j2 (K : KT) (x0 x1 : IV) (h : Heap) : Prop :=
 oV x0 h fun v1 =>
 oV x0 h fun v2 =>
 oP sT (nilI v2 h) h fun v3 =>
 oD (Z4 PP Z8 v3 0) h fun v4 =>
 oD (Z3 PP Z1 v4 h) h fun v5 =>
 oV x1 h fun v6 =>
 oD (sliceI PP Z1 v5 none (some v6) h) h fun v7 =>
 oP sT (nilI v1 h) h fun v8 =>
 oD (Z4 PP Z8 v8 0) h fun v9 =>
 oS (Zf PP Z1 v9 v7 h) h fun h1 =>
 oV x0 h1 fun v10 =>
 oV x0 h1 fun v11 =>
 oP sT (nilI v11 h1) h1 fun v12 =>
 oD (Z4 PP Z8 v12 1) h1 fun v13 =>
 oD (Z3 PP Z2 v13 h1) h1 fun v14 =>
 oV x1 h1 fun v15 =>
 oD (mmI false v14 [v15]) h1 fun v16 =>
 oP sT (nilI v10 h1) h1 fun v17 =>
 oD (Z4 PP Z8 v17 1) h1 fun v18 =>
 oS (Zf PP Z2 v18 v16 h1) h1 fun h2 =>
 oV (.int .i64 0) h2 fun v19 =>
 Zb PP [.v v19] h2 K
abbrev q2 (j2 : G2) (K : KT) : QT := Z6 (fun a h => j2 K (a 0) (a 1) h) (q1 K)
def j1g (j2 : G2) (K : KT) (x0 x1 : IV) (h : Heap) : Prop :=
 oV x1 h fun v1 =>
 oD (Z5 PP .lss Z2 v1 (.int .i64 0)) h fun v2 =>
 oV v2 h fun v3 =>
 oG (gW v3 false) (some x1) h fun v4 =>
 oG (gW v3 false) (some x0) h fun v5 =>
 oP (gW v3 false) (nilI v5 h) h fun v6 =>
 oG (gW v3 false) (Z4 PP Z8 v6 0) h fun v7 =>
 oG (gW v3 false) (Z3 PP Z1 v7 h) h fun v8 =>
 oG (gW v3 false) (lenI PP Z1 v8) h fun v9 =>
 oG (gW v3 false) (Z5 PP .gtr Z2 v4 v9) h fun v10 =>
 oP sT (Zg v3 (.bool true) v10 h) h fun v11 =>
 bK' v11
   (oV (.int .i64 1) h fun v12 =>
   Zb PP [.v v12] h K)
   (j2 K x0 x1 h)
abbrev j1 : G2 := j1g j2
abbrev q3 (j1 : G2) (K : KT) : QT := Z6 (fun a h => j1 K (a 0) (a 1) h) (q1 K)
def eg (j1 : G2) (K : KT) (x0 x1 : IV) (h : Heap) : Prop :=
 oV (.int .i64 0) h fun v1 =>
 j1 K x0 x1 h
abbrev e : G2 := eg j1
theorem u2 (p : j2 K (a 0) (a 1) h) : I c2 (q1 K) a h := ICx.to p
theorem j1_ok (j2 : G2) : I c3 (q2 j2 K) a h = j1g j2 K (a 0) (a 1) h := by kernel_rfl
theorem u3 (p : j1 K (a 0) (a 1) h) : I c3 (q2 j2 K) a h := ICx.to p (j1_ok j2)
theorem u1 (p : j1 K (a 0) (a 1) h) : I c1 (q1 K) a h := ICx.sq (fun _ _ => u2) (u3 p)
theorem e_ok (j1 : G2) : I c4 (q3 j1 K) a h = eg j1 K (a 0) (a 1) h := by kernel_rfl
theorem u4 (p : e K (a 0) (a 1) h) : I c4 (q3 j1 K) a h := ICx.to p (e_ok j1)
theorem u0 (p : e K (a 0) (a 1) h) : I c0 (q1 K) a h := ICx.sq (fun _ _ => u1) (u4 p)
theorem call {x0 x1 : IV} (p : e K x0 x1 h) : Z0 PP ZZ [x0, x1] h K :=
  ICx.fn Try.mixed Try.func22 rfl (Nat.le_of_ble_eq_true rfl) (u0 (a := actI [x0, x1]) p)
end Zx
namespace Zy
def D : Nat → DI
  | _ => ⟨[], [], []⟩
abbrev I := ICx PP 36 D
def c0 : Code := bodyN Try.f23
def c1 : Code := cR c0
def c2 : Code := cR c1
def c3 : Code := cL c1
def c4 : Code := cL c0
abbrev q1 (K : KT) : QT := finK PP Try.f23.results.toList K
def j2 (K : KT) (x0 x1 : IV) (h : Heap) : Prop :=
 oV x0 h fun v1 =>
 oA (Zq PP Z1 0 [] h) h fun v2 h1 =>
 oV x0 h1 fun v3 =>
 oP sT (nilI v3 h1) h1 fun v4 =>
 oD (Z4 PP Z7 v4 0) h1 fun v5 =>
 oD (Z3 PP Z1 v5 h1) h1 fun v6 =>
 oV x1 h1 fun v7 =>
 oD (sliceI PP Z1 v6 none (some v7) h1) h1 fun v8 =>
 oA (Zk PP Z1 Z1 v2 v8 h1) h1 fun v9 h2 =>
 oP sT (nilI v1 h2) h2 fun v10 =>
 oD (Z4 PP Z7 v10 0) h2 fun v11 =>
 oS (Zf PP Z1 v11 v9 h2) h2 fun h3 =>
 oV x0 h3 fun v12 =>
 oV x0 h3 fun v13 =>
 oP sT (nilI v13 h3) h3 fun v14 =>
 oD (Z4 PP Z7 v14 1) h3 fun v15 =>
 oD (Z3 PP Z2 v15 h3) h3 fun v16 =>
 oV x1 h3 fun v17 =>
 oD (mmI false v16 [v17]) h3 fun v18 =>
 oP sT (nilI v12 h3) h3 fun v19 =>
 oD (Z4 PP Z7 v19 1) h3 fun v20 =>
 oS (Zf PP Z2 v20 v18 h3) h3 fun h4 =>
 oV (.int .i64 0) h4 fun v21 =>
 Zb PP [.v v21] h4 K
abbrev q2 (j2 : G2) (K : KT) : QT := Z6 (fun a h => j2 K (a 0) (a 1) h) (q1 K)
def j1g (j2 : G2) (K : KT) (x0 x1 : IV) (h : Heap) : Prop :=
 oV x1 h fun v1 =>
 oD (Z5 PP .lss Z2 v1 (.int .i64 0)) h fun v2 =>
 oV v2 h fun v3 =>
 oG (gW v3 false) (some x1) h fun v4 =>
 oG (gW v3 false) (some x0) h fun v5 =>
 oP (gW v3 false) (nilI v5 h) h fun v6 =>
 oG (gW v3 false) (Z4 PP Z7 v6 0) h fun v7 =>
 oG (gW v3 false) (Z3 PP Z1 v7 h) h fun v8 =>
 oG (gW v3 false) (lenI PP Z1 v8) h fun v9 =>
 oG (gW v3 false) (Z5 PP .gtr Z2 v4 v9) h fun v10 =>
 oP sT (Zg v3 (.bool true) v10 h) h fun v11 =>
 bK' v11
   (oV (.int .i64 1) h fun v12 =>
   Zb PP [.v v12] h K)
   (j2 K x0 x1 h)
abbrev j1 : G2 := j1g j2
abbrev q3 (j1 : G2) (K : KT) : QT := Z6 (fun a h => j1 K (a 0) (a 1) h) (q1 K)
def eg (j1 : G2) (K : KT) (x0 x1 : IV) (h : Heap) : Prop :=
 oV (.int .i64 0) h fun v1 =>
 j1 K x0 x1 h
abbrev e : G2 := eg j1
theorem u2 (p : j2 K (a 0) (a 1) h) : I c2 (q1 K) a h := ICx.to p
theorem j1_ok (j2 : G2) : I c3 (q2 j2 K) a h = j1g j2 K (a 0) (a 1) h := by kernel_rfl
theorem u3 (p : j1 K (a 0) (a 1) h) : I c3 (q2 j2 K) a h := ICx.to p (j1_ok j2)
theorem u1 (p : j1 K (a 0) (a 1) h) : I c1 (q1 K) a h := ICx.sq (fun _ _ => u2) (u3 p)
theorem e_ok (j1 : G2) : I c4 (q3 j1 K) a h = eg j1 K (a 0) (a 1) h := by kernel_rfl
theorem u4 (p : e K (a 0) (a 1) h) : I c4 (q3 j1 K) a h := ICx.to p (e_ok j1)
theorem u0 (p : e K (a 0) (a 1) h) : I c0 (q1 K) a h := ICx.sq (fun _ _ => u1) (u4 p)
theorem call {x0 x1 : IV} (p : e K x0 x1 h) : Z0 PP Z10 [x0, x1] h K :=
  ICx.fn Try.mixed Try.func23 rfl (Nat.le_of_ble_eq_true rfl) (u0 (a := actI [x0, x1]) p)
end Zy
namespace Z1g
def D : Nat → DI
  | 0 => ⟨[0, 1, 3, 7, 0, 16, 0, 64, 192, 448, 960, 0, 2048, 6144, 14336, 32704, 65520, 131071, 262143], [0, 1, 2, 3, 4, 5, 6, 7, 8, 9, 10, 11, 12, 13, 14, 15, 16, 17, 18], []⟩
  | _ => ⟨[], [], []⟩
abbrev I := ICx PP 38 D
def c0 : Code := bodyN Try.f24
abbrev q1 (K : KT) : QT := finK PP Try.f24.results.toList K
def e (K : KT) (x0 x1 : IV) (h : Heap) : Prop :=
 oV x0 h fun v1 =>
 oP sT (nilI v1 h) h fun v2 =>
 oD (Z4 PP Z7 v2 1) h fun v3 =>
 oD (Z3 PP Z2 v3 h) h fun v4 =>
 oV x1 h fun v5 =>
 oD (mmI true v5 [.int .i64 0]) h fun v6 =>
 oV x0 h fun v7 =>
 oP sT (nilI v7 h) h fun v8 =>
 oD (Z4 PP Z7 v8 0) h fun v9 =>
 oD (Z3 PP Z1 v9 h) h fun v10 =>
 oD (lenI PP Z1 v10) h fun v11 =>
 oV x0 h fun v12 =>
 oP sT (nilI v12 h) h fun v13 =>
 oD (Z4 PP Z7 v13 1) h fun v14 =>
 oD (Z3 PP Z2 v14 h) h fun v15 =>
 oD (Z5 PP .sub Z2 v11 v15) h fun v16 =>
 oD (mmI false v6 [v16]) h fun v17 =>
 oD (Z5 PP .add Z2 v4 v17) h fun v18 =>
 oV v18 h fun v19 =>
 oV x0 h fun v20 =>
 oA (Zq PP Z1 0 [] h) h fun v21 h1 =>
 oV x0 h1 fun v22 =>
 oP sT (nilI v22 h1) h1 fun v23 =>
 oD (Z4 PP Z7 v23 0) h1 fun v24 =>
 oD (Z3 PP Z1 v24 h1) h1 fun v25 =>
 oV v19 h1 fun v26 =>
 oD (sliceI PP Z1 v25 none (some v26) h1) h1 fun v27 =>
 oA (Zk PP Z1 Z1 v21 v27 h1) h1 fun v28 h2 =>
 oP sT (nilI v20 h2) h2 fun v29 =>
 oD (Z4 PP Z7 v29 0) h2 fun v30 =>
 oS (Zf PP Z1 v30 v28 h2) h2 fun h3 =>
 oV x0 h3 fun v31 =>
 oV v19 h3 fun v32 =>
 oP sT (nilI v31 h3) h3 fun v33 =>
 oD (Z4 PP Z7 v33 1) h3 fun v34 =>
 oS (Zf PP Z2 v34 v32 h3) h3 fun h4 =>
 Zb PP [] h4 K
theorem u0 (p : e K (a 0) (a 1) h) : I c0 (q1 K) a h := ICx.to p
theorem call {x0 x1 : IV} (p : e K x0 x1 h) : Z0 PP Z11 [x0, x1] h K :=
  ICx.fn Try.mixed Try.func24 rfl (Nat.le_of_ble_eq_true rfl) (u0 (a := actI [x0, x1]) p)
end Z1g
end
end Go.Ideal
namespace Go.Ideal
def SlP (n : Nat) (e : TypeId) (s : IV) (es : List (List IV)) (L : PT) : Prop := (s = .snil ∧ es = [] ∧ L = []) ∨ ∃ b full, s = .sl b 0 es.length ∧ L = [(b, some ⟨n, e, full⟩)] ∧ es.length ≤ full.length ∧ full.take es.length = es
theorem SlP.nil (n : Nat) (e : TypeId) : SlP n e .snil [] [] := .inl ⟨rfl, rfl, rfl⟩
section
variable {n e : Nat} {s x : IV} {es xs : List (List IV)} {L : PT} {h0 h : Heap} {rs : List PT} {P : Program} {t t2 t' : TypeId} {z : List IV} {by_ : Nat} {K : KT}
theorem Sl.toP (l : Sl n e s es L) : SlP n e s es L := by
  rcases l with ⟨rfl, rfl, rfl⟩ | ⟨b, rfl, rfl⟩
  · exact .inl ⟨rfl, rfl, rfl⟩
  · exact .inr ⟨b, es, rfl, rfl, Nat.le_refl _, by simp⟩
theorem SlP.src (l : SlP n e s es L) (S : Own h0 (L :: rs) h) : srcI h n s = some es := by
  rcases l with ⟨rfl, rfl, rfl⟩ | ⟨b, full, rfl, rfl, hl, ht⟩
  · rfl
  · have := (S.get (b, some ⟨n, e, full⟩) (by simp)).2
    simp [srcI, this, hl, ht]
theorem SlP.len (l : SlP n e s es L) (ht : elO P t = some t') : lenI P t s = some (.int .i64 es.length) := by
  rcases l with ⟨rfl, rfl, rfl⟩ | ⟨b, full, rfl, rfl, _⟩ <;> simp [lenI, ht]
theorem SlP.one (l : SlP n e s es L) : Zh s = some [s] ∧ oneI s = true := by
  rcases l with ⟨rfl, rfl, rfl⟩ | ⟨b, full, rfl, rfl, _⟩ <;> exact ⟨rfl, rfl⟩
theorem SlP.append (l : SlP n e s es L) (S : Own h0 (L :: rs) h) (hx : srcI h n x = some xs) (ht : elO P t = some e) (ht2 : elO P t2 = some t') (hz : zrO P e = some z) (hs : szO P e = some n) (hb : byO P e = some by_)
    (hc : (decide (z.length = n) && decide (0 < n) && decide (by_ ≤ 65536)) = true) (ho : Zt xs = true) (hlen : es.length + xs.length ≤ 1073741824)
    (k : ∀ s' L' h', SlP n e s' (es ++ xs) L' → Own h0 (L' :: rs) h' → K s' h') : oA (Zk P t t2 s x h) h K := by
  rcases l with ⟨rfl, rfl, rfl⟩ | ⟨b, full, rfl, rfl, hl, htk⟩
  · exact (Sl.nil n e).append S hx ht ht2 hz hs hb hc ho hlen fun s' L' h' l' S' => k s' L' h' l'.toP S'
  · simp only [Bool.and_eq_true, decide_eq_true_eq] at hc
    unfold Zk
    simp only [ht, ht2, hz, hs, hb, hx]
    rw [if_pos ⟨hc.1.1, hc.1.2, hc.2⟩]
    by_cases hne : xs = []
    · subst hne
      rw [if_pos rfl]
      rw [List.append_nil] at k
      simp only [oA_some]
      exact k _ _ _ (.inr ⟨b, full, rfl, rfl, hl, htk⟩) S
    · rw [if_neg hne]
      have hg := (S.get (b, some ⟨n, e, full⟩) (by simp)).2
      simp only at hg
      simp only [hg]
      rw [if_pos (by simp [ho, hl]; exact hlen)]
      simp only [oA_some, List.drop_zero, htk]
      have := S.move (some ⟨n, e, es ++ xs⟩)
      refine k _ _ _ (Sl.toP ?_) this
      have e1 : es.length + xs.length = (es ++ xs).length := by simp
      rw [e1]
      exact Sl.mk n e _ _
theorem SlP.cut {k1 : IntKind} {m : Int} (l : SlP n e s es L) (S : Own h0 (L :: rs) h) (ht : elO P t = some e) (hs : szO P e = some n) (h0' : 0 ≤ m) (h1 : m ≤ es.length) : ∃ s', sliceI P t s none (some (.int k1 m)) h = some s' ∧ SlP n e s' (es.take m.toNat) L := by
  rcases l with ⟨rfl, rfl, rfl⟩ | ⟨b, full, rfl, rfl, hl, htk⟩
  · have : m = 0 := by simp at h1; omega
    subst this
    exact ⟨.snil, by simp [sliceI, ht, hs], .inl ⟨rfl, by simp, rfl⟩⟩
  · have hg := (S.get (b, some ⟨n, e, full⟩) (by simp)).2
    simp only at hg
    refine ⟨.sl b 0 m.toNat, by simp [sliceI, ht, hs, hg, h0', h1], .inr ⟨b, full, by simp; omega, rfl, by simp; omega, ?_⟩⟩
    rw [← htk]
    simp [List.take_take]
end
end Go.Ideal
namespace Go.Ideal
open Go.Proofs
set_option maxRecDepth 100000
def byt (l : List Int) : List (List IV) := l.map fun x => [.int .u8 x]
@[simp] theorem byt_length (l : List Int) : (byt l).length = l.length := by simp [byt]
theorem byt_append (l m : List Int) : byt (l ++ m) = byt l ++ byt m := by simp [byt]
theorem byt_take (l : List Int) (n : Nat) : byt (l.take n) = (byt l).take n := by simp [byt, List.map_take]
@[simp] theorem ones_byt (l : List Int) : Zt (byt l) = true := ones_map _ (fun x => by simp [oneI]) l
def DV (T : TypeId) (d : Nat) (xs : List Int) (n : Int) (L : PT) : Prop := ∃ s Ls, L = (d, some ⟨2, T, [[s, .n n]]⟩) :: Ls ∧ SlP 1 Zd s (byt xs) Ls
@[simp] theorem dk_st0 (s x y : IV) : splice 0 [y] [s, x] = [y, x] := Z9 rfl
@[simp] theorem dk_st1 (s x y : IV) : splice 1 [y] [s, x] = [s, y] := Z9 rfl
def crashN (xs : List Int) (n keep : Int) : Int := n + max 0 (min keep (xs.length - n))
section
variable {h0 h : Heap} {rs : List PT} {K : KT} {d : Nat} {xs ys : List Int} {n m : Int} {L : PT} {x y : IV}
theorem app_u8 {s : IV} {es zs : List (List IV)} {KH : KT} (l : SlP 1 Zd s es L) (S : Own h0 (L :: rs) h) (hx : srcI h 1 x = some zs) (ho : Zt zs = true) (hlen : es.length + zs.length ≤ 1073741824) (k : ∀ s' L' h', SlP 1 Zd s' (es ++ zs) L' → Own h0 (L' :: rs) h' → KH s' h') : oA (Zk PP Z1 Z1 s x h) h KH :=
  l.append S hx (by kernel_rfl : elO PP Z1 = some Zd) (by kernel_rfl : elO PP Z1 = some Zd) (by kernel_rfl : zrO PP Zd = some [.int .u8 0]) (by kernel_rfl) (by kernel_rfl : byO PP Zd = some 1) rfl ho hlen k
theorem cut_u8 {s : IV} {es : List (List IV)} (l : SlP 1 Zd s es L) (S : Own h0 (L :: rs) h) (h0' : 0 ≤ m) (h1 : m ≤ es.length) : ∃ s', sliceI PP Z1 s none (some (.n m)) h = some s' ∧ SlP 1 Zd s' (es.take m.toNat) L :=
  l.cut S (by kernel_rfl : elO PP Z1 = some Zd) (by kernel_rfl) h0' h1
theorem Z1h (l : DV Z8 d xs n L) (S : Own h0 (L :: rs) h) (hx : srcI h 1 x = some (byt ys)) (hlen : xs.length + ys.length ≤ 1000000)
    (k : ∀ L' h', DV Z8 d (xs ++ ys) n L' → Own h0 (L' :: rs) h' → K (.tup []) h') : Z0 PP ZI [.ptr d 0 0, x] h K := by
  obtain ⟨s, Ls, rfl, l⟩ := l
  refine Z19.call ?_
  have S1 := S.cons1
  try (have G := S1.facts; simp only [factsL, factsP, List.cons_append, List.nil_append, and_true, true_and] at G; simp +contextual (disch := omega) [-getElem?_pos, ld_pb, ix_sb, ix_vs, G, Za, Z19.e])
  refine app_u8 l S1.m1 hx (by simp) (by simp; omega) fun s' L' h' l' S2 => ?_
  try simp +contextual (disch := omega)
  refine S2.st1 (new := [s']) l'.one.1 (by simp) (by simp) (by simp [l'.one.2]) fun h2 S3 => ?_
  try simp +contextual (disch := omega)
  exact k _ h2 ⟨s', L', rfl, by simpa [byt_append] using l'⟩ S3.m1.uncons
theorem Z1p (l : DV Z8 d xs n L) (S : Own h0 (L :: rs) h) (k : ∀ L' h', DV Z8 d xs xs.length L' → Own h0 (L' :: rs) h' → K (.tup []) h') : Z0 PP ZN [.ptr d 0 0] h K := by
  obtain ⟨s, Ls, rfl, l⟩ := l
  refine Z1a.call ?_
  have S1 := S.cons1
  try (have G := S1.facts; simp only [factsL, factsP, List.cons_append, List.nil_append, and_true, true_and] at G; simp +contextual (disch := omega) [-getElem?_pos, ld_pb, ix_sb, ix_vs, G, Za, Z1a.e, l.len Zr])
  refine S1.st0 rfl (by simp) (by simp) (by simp [oneI]) fun h2 S3 => ?_
  try simp +contextual (disch := omega)
  exact k _ h2 ⟨s, Ls, rfl, l⟩ S3.uncons
theorem ZQ (l : DV Z8 d xs n L) (S : Own h0 (L :: rs) h) (k : K (.n n) h) : Z0 PP ZC [.ptr d 0 0] h K := by
  obtain ⟨s, Ls, rfl, l⟩ := l
  refine Z18.call ?_
  have S1 := S.cons1
  try (have G := S1.facts; simp only [factsL, factsP, List.cons_append, List.nil_append, and_true, true_and] at G; simp +contextual (disch := omega) [-getElem?_pos, ld_pb, ix_sb, ix_vs, G, Za, Z18.e])
  exact k
theorem ZE (l : DV Z8 d xs n L) (S : Own h0 (L :: rs) h) (hlen : xs.length ≤ 1000000) (k : ∀ s' L' h', SlP 1 Zd s' (byt xs) L' → Own h0 (L' :: L :: rs) h' → K s' h') : Z0 PP Zv [.ptr d 0 0] h K := by
  obtain ⟨s, Ls, rfl, l⟩ := l
  refine Z17.call ?_
  have S1 := S.cons1
  obtain ⟨s2, e2, l2⟩ := cut_u8 (m := xs.length) l S1.m1 (by omega) (by simp)
  have e3 : (byt xs).take ((xs.length : Int)).toNat = byt xs := by rw [List.take_of_length_le (by simp)]
  rw [e3] at l2
  try (have G := S1.facts; simp only [factsL, factsP, List.cons_append, List.nil_append, and_true, true_and] at G; simp +contextual (disch := omega) [-getElem?_pos, ld_pb, ix_sb, ix_vs, G, Za, Z17.e, l.len Zr, e2])
  refine app_u8 (L := []) (SlP.nil 1 Zd) (S.perm (rs' := [] :: (((d, some ⟨2, Z8, [[s, .n n]]⟩) :: Ls) :: rs)) (by simp)) (l2.src S1.m1) (by simp) (by simp; omega) fun s' L' h' l' S2 => ?_
  try simp +contextual (disch := omega)
  exact k s' L' h' (by simpa using l') S2
theorem Z1v (l : DV Z8 d xs n L) (S : Own h0 (L :: rs) h) (hn : 0 ≤ n ∧ n ≤ xs.length) (hlen : xs.length ≤ 1000000)
    (k : ∀ L' h', if m < 0 ∨ xs.length < m then (DV Z8 d xs n L' → Own h0 (L' :: rs) h' → K (.n 1) h') else (DV Z8 d (xs.take m.toNat) (min n m) L' → Own h0 (L' :: rs) h' → K (.n 0) h')) : Z0 PP ZZ [.ptr d 0 0, .n m] h K := by
  have l0 := l
  obtain ⟨s, Ls, rfl, l⟩ := l
  refine Zx.call ?_
  have S1 := S.cons1
  by_cases hb : m < 0 ∨ xs.length < m
  · simp only [hb, if_true] at k
    have hb' : (decide (m < 0) || decide ((xs.length : Int) < m)) = true := by simpa using hb
    try (have G := S1.facts; simp only [factsL, factsP, List.cons_append, List.nil_append, and_true, true_and] at G; simp +contextual (disch := omega) [-getElem?_pos, ld_pb, ix_sb, ix_vs, G, Za, Zx.eg, Zx.j1g, l.len Zr, hb'])
    exact k _ h l0 S
  · simp only [hb, if_false] at k
    have hb' : (decide (m < 0) || decide ((xs.length : Int) < m)) = false := by simpa using hb
    have h1 : 0 ≤ m ∧ m ≤ xs.length := by omega
    obtain ⟨s2, e2, l2⟩ := cut_u8 (m := m) l S1.m1 h1.1 (by simpa using h1.2)
    try (have G := S1.facts; simp only [factsL, factsP, List.cons_append, List.nil_append, and_true, true_and] at G; simp +contextual (disch := omega) [-getElem?_pos, ld_pb, ix_sb, ix_vs, G, Za, Zx.eg, Zx.j1g, l.len Zr, hb'])
    try (have G := S1.facts; simp only [factsL, factsP, List.cons_append, List.nil_append, and_true, true_and] at G; simp +contextual (disch := omega) [-getElem?_pos, ld_pb, ix_sb, ix_vs, G, Za, Zx.j2, e2])
    refine S1.st0 (new := [s2]) l2.one.1 (by simp) (by simp) (by simp [l2.one.2]) fun h2 S2 => ?_
    try (have G := S2.facts; simp only [factsL, factsP, List.cons_append, List.nil_append, and_true, true_and] at G; simp +contextual (disch := omega) [-getElem?_pos, ld_pb, ix_sb, ix_vs, G, Za, ])
    refine S2.st0 rfl (by simp) (by simp) (by simp [oneI]) fun h3 S3 => ?_
    try simp +contextual (disch := omega)
    exact k _ h3 ⟨s2, Ls, rfl, by rw [byt_take]; exact l2⟩ S3.uncons
theorem Z1q (l : DV Z8 d xs n L) (S : Own h0 (L :: rs) h) (hn : 0 ≤ n ∧ n ≤ xs.length) (hlen : xs.length ≤ 1000000)
    (k : ∀ L' h', DV Z8 d (xs.take (crashN xs n m).toNat) (crashN xs n m) L' → Own h0 (L' :: rs) h' → K (.tup []) h') : Z0 PP ZO [.ptr d 0 0, .n m] h K := by
  obtain ⟨s, Ls, rfl, l⟩ := l
  refine Z1b.call ?_
  have S1 := S.cons1
  have hc : 0 ≤ crashN xs n m ∧ crashN xs n m ≤ xs.length := by unfold crashN; omega
  obtain ⟨s2, e2, l2⟩ := cut_u8 (m := crashN xs n m) l S1.m1 hc.1 (by simpa using hc.2)
  have e3 : n + max 0 (min m ((xs.length : Int) - n)) = crashN xs n m := rfl
  try (have G := S1.facts; simp only [factsL, factsP, List.cons_append, List.nil_append, and_true, true_and] at G; simp +contextual (disch := omega) [-getElem?_pos, ld_pb, ix_sb, ix_vs, G, Za, Z1b.e, l.len Zr, w64, e3, e2])
  refine S1.st0 (new := [s2]) l2.one.1 (by simp) (by simp) (by simp [l2.one.2]) fun h2 S2 => ?_
  have e4 : min (crashN xs n m).toNat xs.length = (crashN xs n m).toNat := by omega
  have e5 : ((crashN xs n m).toNat : Int) = crashN xs n m := by omega
  try (have G := S2.facts; simp only [factsL, factsP, List.cons_append, List.nil_append, and_true, true_and] at G; simp +contextual (disch := omega) [-getElem?_pos, ld_pb, ix_sb, ix_vs, G, Za, l2.len Zr, e4])
  refine S2.st0 rfl (by simp) (by simp) (by simp [oneI]) fun h3 S3 => ?_
  try simp +contextual (disch := omega)
  refine k _ h3 ⟨s2, Ls, rfl, by rw [byt_take]; exact l2⟩ ?_
  have := S3.uncons
  have e6 : max (crashN xs n m) 0 = crashN xs n m := by omega
  simpa [e5, e6] using this
end
end Go.Ideal
namespace Go.Ideal
open Go.Proofs
set_option maxRecDepth 100000
theorem tmod_mod {v n : Int} (hn : 0 < n) : (v.tmod n + n).tmod n = v % n := by
  have h1 : -n < v.tmod n := by
    have := Int.lt_tmod_of_pos v hn
    omega
  rw [Int.tmod_eq_emod_of_nonneg (by omega)]
  rw [Int.add_emod_right]
  rcases Int.le_total 0 v with h | h
  · rw [Int.tmod_eq_emod_of_nonneg h]; exact Int.emod_emod _ _
  · obtain ⟨w, rfl⟩ : ∃ w, v = -w := ⟨-v, by omega⟩
    have hw : 0 ≤ w := by omega
    rw [Int.neg_tmod, Int.tmod_eq_emod_of_nonneg hw]
    have := Int.emod_add_mul_ediv w n
    rw [Int.emod_def, Int.emod_def (-w)]
    have e : -(w % n) = -w + n * (w / n) := by omega
    rw [e, ← Int.emod_def, ← Int.emod_def]
    exact Int.add_mul_emod_self_left _ _ _
theorem Z1r {v n : Int} (hn : 0 < n) (hn' : n ≤ 4611686018427387904) : Fun PP ZP [.n v, .n n] (.n (v % n)) := by
  refine FunQ.intro fun h => Z1d.call ?_
  have h1 : -n < v.tmod n := by
    have := Int.lt_tmod_of_pos v hn
    omega
  have h2 : v.tmod n < n := Int.tmod_lt_of_pos v hn
  simp +contextual [Z1d.e, ar_rem (show n ≠ 0 by omega), w64 (x := v.tmod n + n) (by omega) (by omega), tmod_mod hn]
  exact Ret.val (Own.start h) (by simp [Bel]) rfl
theorem Z1w {v low high : Int} (h0 : -1000000 ≤ low) (h1 : low ≤ high) (h2 : high ≤ 2000000) : Fun PP ZW [.n v, .n low, .n high] (.n (low + v % (high - low + 1))) := by
  refine FunQ.intro fun h => Z1c.call ?_
  have h3 := Int.emod_nonneg v (by omega : high - low + 1 ≠ 0)
  have h4 := Int.emod_lt_of_pos v (by omega : 0 < high - low + 1)
  simp +contextual (disch := omega) [Z1c.e, w64]
  refine (Z1r (by omega) (by omega)).call ?_
  simp +contextual (disch := omega) [w64]
  exact Ret.val (Own.start h) (by simp [Bel]) rfl
section
variable {h0 h : Heap} {rs : List PT} {K : KT} {d : Nat} {xs ys : List Int} {n m : Int} {L : PT} {x y : IV}
theorem lit_u8 {KH : KT} (S : Own h0 rs h) (k : ∀ s L h', SlP 1 Zd s [] L → Own h0 (L :: rs) h' → KH s h') : oA (Zq PP Z1 0 [] h) h KH :=
  S.lit0 (by kernel_rfl : elO PP Z1 = some Zd) (by kernel_rfl : zrO PP Zd = some [.int .u8 0]) (by kernel_rfl) rfl fun s L h' l S' => k s L h' l.toP S'
theorem Z1x (l : DV Z7 d xs n L) (S : Own h0 (L :: rs) h) (hlen : xs.length + ys.length ≤ 1000000)
    (k : ∀ L' h', DV Z7 d (xs ++ ys) n L' → Own h0 (L' :: rs) h' → K (.tup []) h') : Z0 PP ZX [.ptr d 0 0, .vs 1 (byt ys)] h K := by
  obtain ⟨s, Ls, rfl, l⟩ := l
  refine Z1e.call ?_
  have S1 := S.cons1
  unfold Z1e.e
  simp only [oV_eq]
  refine lit_u8 S1 fun s1 L1 h1 l1 S2 => ?_
  try (have G := S2.facts; simp only [factsL, factsP, List.cons_append, List.nil_append, and_true, true_and] at G; simp +contextual (disch := omega) [-getElem?_pos, ld_pb, ix_sb, ix_vs, G, Za, ])
  refine app_u8 l1 S2 (l.src S2.m2) (by simp) (by simp; omega) fun s2 L2 h2 l2 S3 => ?_
  try simp +contextual (disch := omega)
  refine app_u8 l2 S3 (zs := byt ys) (by simp [srcI]) (by simp) (by simp; omega) fun s3 L3 h3 l3 S4 => ?_
  try simp +contextual (disch := omega)
  refine S4.st1 (new := [s3]) l3.one.1 (by simp) (by simp) (by simp [l3.one.2]) fun h4 S5 => ?_
  try simp +contextual (disch := omega)
  exact k _ h4 ⟨s3, L3, rfl, by simpa [byt_append] using l3⟩ S5.dp2.m1.uncons
theorem Z1y (l : DV Z7 d xs n L) (S : Own h0 (L :: rs) h) (k : ∀ L' h', DV Z7 d xs xs.length L' → Own h0 (L' :: rs) h' → K (.tup []) h') : Z0 PP ZY [.ptr d 0 0] h K := by
  obtain ⟨s, Ls, rfl, l⟩ := l
  refine Z1f.call ?_
  have S1 := S.cons1
  try (have G := S1.facts; simp only [factsL, factsP, List.cons_append, List.nil_append, and_true, true_and] at G; simp +contextual (disch := omega) [-getElem?_pos, ld_pb, ix_sb, ix_vs, G, Za, Z1f.e, l.len Zr])
  refine S1.st0 rfl (by simp) (by simp) (by simp [oneI]) fun h2 S3 => ?_
  try simp +contextual (disch := omega)
  exact k _ h2 ⟨s, Ls, rfl, l⟩ S3.uncons
theorem Z1s (l : DV Z7 d xs n L) (S : Own h0 (L :: rs) h) (hn : 0 ≤ n ∧ n ≤ xs.length) (hlen : xs.length ≤ 1000000)
    (k : ∀ L' h', if m < 0 ∨ xs.length < m then (DV Z7 d xs n L' → Own h0 (L' :: rs) h' → K (.n 1) h') else (DV Z7 d (xs.take m.toNat) (min n m) L' → Own h0 (L' :: rs) h' → K (.n 0) h')) : Z0 PP Z10 [.ptr d 0 0, .n m] h K := by
  have l0 := l
  obtain ⟨s, Ls, rfl, l⟩ := l
  refine Zy.call ?_
  have S1 := S.cons1
  by_cases hb : m < 0 ∨ xs.length < m
  · simp only [hb, if_true] at k
    have hb' : (decide (m < 0) || decide ((xs.length : Int) < m)) = true := by simpa using hb
    try (have G := S1.facts; simp only [factsL, factsP, List.cons_append, List.nil_append, and_true, true_and] at G; simp +contextual (disch := omega) [-getElem?_pos, ld_pb, ix_sb, ix_vs, G, Za, Zy.eg, Zy.j1g, l.len Zr, hb'])
    exact k _ h l0 S
  · simp only [hb, if_false] at k
    have hb' : (decide (m < 0) || decide ((xs.length : Int) < m)) = false := by simpa using hb
    have h1 : 0 ≤ m ∧ m ≤ xs.length := by omega
    try (have G := S1.facts; simp only [factsL, factsP, List.cons_append, List.nil_append, and_true, true_and] at G; simp +contextual (disch := omega) [-getElem?_pos, ld_pb, ix_sb, ix_vs, G, Za, Zy.eg, Zy.j1g, l.len Zr, hb'])
    unfold Zy.j2
    simp only [oV_eq]
    refine lit_u8 S1 fun s1 L1 h1' l1 S2 => ?_
    obtain ⟨s2, e2, l2⟩ := cut_u8 (m := m) l S2.m2 h1.1 (by simpa using h1.2)
    try (have G := S2.facts; simp only [factsL, factsP, List.cons_append, List.nil_append, and_true, true_and] at G; simp +contextual (disch := omega) [-getElem?_pos, ld_pb, ix_sb, ix_vs, G, Za, e2])
    refine app_u8 l1 S2 (l2.src S2.m2) (by rw [← byt_take]; simp) (by simp; omega) fun s3 L3 h3 l3 S3 => ?_
    try simp +contextual (disch := omega)
    refine S3.st1 (new := [s3]) l3.one.1 (by simp) (by simp) (by simp [l3.one.2]) fun h4 S4 => ?_
    try (have G := S4.facts; simp only [factsL, factsP, List.cons_append, List.nil_append, and_true, true_and] at G; simp +contextual (disch := omega) [-getElem?_pos, ld_pb, ix_sb, ix_vs, G, Za, ])
    refine S4.st1 rfl (by simp) (by simp) (by simp [oneI]) fun h5 S5 => ?_
    try simp +contextual (disch := omega)
    exact k _ h5 ⟨s3, L3, rfl, by rw [byt_take]; simpa using l3⟩ S5.dp2.m1.uncons
theorem Z1z (l : DV Z7 d xs n L) (S : Own h0 (L :: rs) h) (hn : 0 ≤ n ∧ n ≤ xs.length) (hlen : xs.length ≤ 1000000)
    (k : ∀ L' h', DV Z7 d (xs.take (crashN xs n m).toNat) (crashN xs n m) L' → Own h0 (L' :: rs) h' → K (.tup []) h') : Z0 PP Z11 [.ptr d 0 0, .n m] h K := by
  obtain ⟨s, Ls, rfl, l⟩ := l
  refine Z1g.call ?_
  have S1 := S.cons1
  have hc : 0 ≤ crashN xs n m ∧ crashN xs n m ≤ xs.length := by unfold crashN; omega
  have e3 : n + min (max m 0) ((xs.length : Int) - n) = crashN xs n m := by unfold crashN; omega
  try (have G := S1.facts; simp only [factsL, factsP, List.cons_append, List.nil_append, and_true, true_and] at G; simp +contextual (disch := omega) [-getElem?_pos, ld_pb, ix_sb, ix_vs, G, Za, Z1g.e, l.len Zr, w64, e3])
  refine lit_u8 S1 fun s1 L1 h1' l1 S2 => ?_
  obtain ⟨s2, e2, l2⟩ := cut_u8 (m := crashN xs n m) l S2.m2 hc.1 (by simpa using hc.2)
  try (have G := S2.facts; simp only [factsL, factsP, List.cons_append, List.nil_append, and_true, true_and] at G; simp +contextual (disch := omega) [-getElem?_pos, ld_pb, ix_sb, ix_vs, G, Za, e2])
  refine app_u8 l1 S2 (l2.src S2.m2) (by rw [← byt_take]; simp) (by simp; omega) fun s3 L3 h3 l3 S3 => ?_
  try simp +contextual (disch := omega)
  refine S3.st1 (new := [s3]) l3.one.1 (by simp) (by simp) (by simp [l3.one.2]) fun h4 S4 => ?_
  try (have G := S4.facts; simp only [factsL, factsP, List.cons_append, List.nil_append, and_true, true_and] at G; simp +contextual (disch := omega) [-getElem?_pos, ld_pb, ix_sb, ix_vs, G, Za, ])
  refine S4.st1 rfl (by simp) (by simp) (by simp [oneI]) fun h5 S5 => ?_
  try simp +contextual (disch := omega)
  exact k _ h5 ⟨s3, L3, rfl, by rw [byt_take]; simpa using l3⟩ S5.dp2.m1.uncons
theorem bytes_at (xs : List Int) : bytesI (byt xs) = some xs := by
  induction xs with
  | nil => rfl
  | cons x xs ih => simp only [byt, List.map_cons] at ih ⊢; simp [bytesI, ih]
theorem ZR (hx : srcI h 1 x = some (byt xs)) (hy : srcI h 1 y = some (byt xs)) (k : K (.bool true) h) : Z0 PP ZB [x, y] h K := by
  refine Z16.call ?_
  have e1 : (isU8 PP Zd && strO PP ZJ) = true := by kernel_rfl
  have hc : ∀ z, srcI h 1 z = some (byt xs) → convI PP Z1 ZJ z h = some (.str (strOfNums xs)) := by
    intro z hz
    unfold convI
    cases z <;> first | (simp [srcI] at hz; done) | skip
    all_goals simp only [Zr, e1, hz, Option.bind_some, bytes_at, if_true]
  try simp +contextual (disch := omega) [Z16.e, hc x hx, hc y hy, strI]
  exact k
end
end Go.Ideal
namespace Go.Ideal
open Go.Proofs
set_option maxRecDepth 100000
structure Act where
  which : Int
  num : Int
  b : List Int
def Act.c (x : Act) : List IV := [.n x.which, .n x.num, .vs 1 (byt x.b)]
abbrev Act.v (x : Act) : IV := .agg x.c
@[simp] theorem Act.ld (x : Act) : ldI (some true) (some 3) x.c = some x.v := Z9 rfl
@[simp] theorem Act.len (x : Act) : x.c.length = 3 := Z9 rfl
@[simp] theorem Act.ld0 (x : Act) : ldI (some false) (some 1) x.c = some (.n x.which) := Z9 rfl
@[simp] theorem Act.ld1 (x : Act) : ldI (some false) (some 1) x.c.tail = some (.n x.num) := Z9 rfl
@[simp] theorem Act.ld2 (x : Act) : ldI (some false) (some 1) (x.c.drop 2) = some (.vs 1 (byt x.b)) := Z9 rfl
theorem ar_andg (a b : Int) : arithI .and .i64 a .i64 b = some (.int .i64 (IntKind.i64.wrap (BitVec.ofInt 64 a &&& BitVec.ofInt 64 b).toNat)) := by simp [arithI]; rfl
section
variable {h0 h : Heap} {rs : List PT} {K : KT} {d r : Nat} {xs ys : List Int} {n m : Int} {L La Lb : PT} {x y : IV}
theorem Z1A (l : DV Z8 d xs n L) (S : Own h0 (L :: rs) h) (hlen : xs.length ≤ 1000000) (k : ∀ d' L' h', DV Z8 d' xs n L' → Own h0 (L' :: L :: rs) h' → K (.ptr d' 0 0) h') : Z0 PP ZU [.ptr d 0 0] h K := by
  refine Z14.call ?_
  have l0 := l
  obtain ⟨s, Ls, rfl, l⟩ := l
  have S1 := S.slot.m1.cons1
  try (have G := S1.facts; simp only [factsL, factsP, List.cons_append, List.nil_append, and_true, true_and] at G; simp +contextual (disch := omega) [-getElem?_pos, ld_pb, ix_sb, ix_vs, G, Za, Z14.e])
  refine ZE l0 S.slot.m1 hlen fun s' L' h' l' S2 => ?_
  have S3 := S2.m1.cons1
  have hb : Zs PP Z8 [(0, s'), (1, .n n)] = some (.agg [s', .n n]) := by
    rcases l' with ⟨rfl, _⟩ | ⟨b, full, rfl, _⟩ <;> (simp only [Zs, Z1o, Z1n]; rfl)
  have hB : newB Z8 (.agg [s', .n n]) = some (none, ⟨2, Z8, [[s', .n n]]⟩) := rfl
  try (have G := S3.facts; simp only [factsL, factsP, List.cons_append, List.nil_append, and_true, true_and] at G; simp +contextual (disch := omega) [-getElem?_pos, ld_pb, ix_sb, ix_vs, G, Za, hb, hB])
  exact k _ _ _ ⟨s', L', rfl, l'⟩ (S2.fi2 (some ⟨2, Z8, [[s', .n n]]⟩)).m2.uncons
theorem Z1B (l : DV Z7 d xs n L) (S : Own h0 (L :: rs) h) (hlen : xs.length ≤ 1000000) (k : ∀ d' L' h', DV Z7 d' xs n L' → Own h0 (L' :: L :: rs) h' → K (.ptr d' 0 0) h') : Z0 PP ZV [.ptr d 0 0] h K := by
  refine Z15.call ?_
  obtain ⟨s, Ls, rfl, l⟩ := l
  have S1 := S.cons1.slot2
  have hN : newS PP Z1 0 [] = some (some 0, ⟨1, Zd, []⟩) := by
    simp only [newS, Zr, (by kernel_rfl : zrO PP Zd = some [.int .u8 0]), (by kernel_rfl : szO PP Zd = some 1)]; rfl
  try (have G := S1.facts; simp only [factsL, factsP, List.cons_append, List.nil_append, and_true, true_and] at G; simp +contextual (disch := omega) [-getElem?_pos, ld_pb, ix_sb, ix_vs, G, Za, Z15.e, hN])
  have S2 := S.cons1.push2 (some ⟨1, Zd, []⟩) none
  refine app_u8 (Sl.toP (Sl.mk 1 Zd h.length [])) S2 (l.src S2.m3) (by simp) (by simp; omega) fun s' L' h' l' S3 => ?_
  have hb : Zs PP Z7 [(0, s'), (1, .n n)] = some (.agg [s', .n n]) := by
    rcases l' with ⟨rfl, _⟩ | ⟨b, full, rfl, _⟩ <;> (simp only [Zs, Z1m, Z1l]; rfl)
  have hB : newB Z7 (.agg [s', .n n]) = some (none, ⟨2, Z7, [[s', .n n]]⟩) := rfl
  try (have G := S3.facts; simp only [factsL, factsP, List.cons_append, List.nil_append, and_true, true_and] at G; simp +contextual (disch := omega) [-getElem?_pos, ld_pb, ix_sb, ix_vs, G, Za, hb, hB])
  refine k _ _ _ ⟨s', L', rfl, by simpa using l'⟩ ?_
  exact ((S3.fi1 (some ⟨2, Z7, [[s', .n n]]⟩)).m1.uncons).m2.m2.uncons.m1
theorem Z1C (la : DV Z8 d xs n La) (lb : DV Z7 r xs n Lb) (S : Own h0 (La :: Lb :: rs) h) (hlen : xs.length ≤ 1000000) (k : ∀ h', Own h0 (La :: Lb :: rs) h' → K (.bool true) h') : Zj.j6 K (.ptr d 0 0) (.ptr r 0 0) h := by
  have lb0 := lb
  obtain ⟨s, Ls, rfl, l⟩ := lb
  have S1 := S.m1.cons1
  try (have G := S1.facts; simp only [factsL, factsP, List.cons_append, List.nil_append, and_true, true_and] at G; simp +contextual (disch := omega) [-getElem?_pos, ld_pb, ix_sb, ix_vs, G, Za, Zj.j6])
  refine ZE la S hlen fun s' L' h' l' S2 => ?_
  have S3 := S2.m2.cons1
  try (have G := S3.facts; simp only [factsL, factsP, List.cons_append, List.nil_append, and_true, true_and] at G; simp +contextual (disch := omega) [-getElem?_pos, ld_pb, ix_sb, ix_vs, G, Za, ])
  refine ZR (xs := xs) (l'.src S2) (l.src S3.m1) ?_
  try (have G := S3.facts; simp only [factsL, factsP, List.cons_append, List.nil_append, and_true, true_and] at G; simp +contextual (disch := omega) [-getElem?_pos, ld_pb, ix_sb, ix_vs, G, Za, ])
  refine ZQ la S2.m1 ?_
  try (have G := S3.facts; simp only [factsL, factsP, List.cons_append, List.nil_append, and_true, true_and] at G; simp +contextual (disch := omega) [-getElem?_pos, ld_pb, ix_sb, ix_vs, G, Za, ])
  exact k h' S2.dp0
def DD (d r : Nat) (xs : List Int) (n : Int) (La Lb : PT) : Prop := DV Z8 d xs n La ∧ DV Z7 r xs n Lb ∧ 0 ≤ n ∧ n ≤ xs.length
theorem ZS (l : DD d r xs n La Lb) (S : Own h0 (La :: Lb :: rs) h) (hlen : xs.length ≤ 900000) (a : Act) (ha : a.b.length ≤ 60) (k : ∀ xs' n' La' Lb' h', DD d r xs' n' La' Lb' → xs'.length ≤ xs.length + 60 → Own h0 (La' :: Lb' :: rs) h' → K (.bool true) h') :
    Z0 PP ZA [.ptr d 0 0, .ptr r 0 0, a.v] h K := by
  obtain ⟨la, lb, n0, n1⟩ := l
  refine Zj.call ?_
  unfold Zj.e Zj.eg
  refine S.box fun ba h1 S1 => ?_
  have S2 := S1.b2
  try (have G := S2.facts; simp only [factsL, factsP, List.cons_append, List.nil_append, and_true, true_and] at G; simp +contextual (disch := omega) [-getElem?_pos, ld_pb, ix_sb, ix_vs, G, Za, Zj.j1g])
  have main : ∀ (num : Int), Zj.j3 K (.ptr d 0 0) (.ptr r 0 0) (.ptr ba 0 0) (.n num) h1 := by
    intro num
    try (have G := S2.facts; simp only [factsL, factsP, List.cons_append, List.nil_append, and_true, true_and] at G; simp +contextual (disch := omega) [-getElem?_pos, ld_pb, ix_sb, ix_vs, G, Za, Zj.j3g])
    refine (Z1r (by omega) (by omega)).call ?_
    have m0 := Int.emod_nonneg a.which (show (8 : Int) ≠ 0 by omega)
    have m1 := Int.emod_lt_of_pos a.which (show (0 : Int) < 8 by omega)
    generalize a.which % 8 = w at *
    have fin : ∀ xs' n' La' Lb' h', DD d r xs' n' La' Lb' → xs'.length ≤ xs.length + 60 → Own h0 (La' :: Lb' :: [(ba, some ⟨3, Ze, [a.c]⟩)] :: rs) h' → Zj.j6 K (.ptr d 0 0) (.ptr r 0 0) h' := by
      intro xs' n' La' Lb' h' l' hx S'
      exact Z1C l'.1 l'.2.1 S' (by omega) fun h2 S3 => k xs' n' La' Lb' h2 l' hx S3.dp2
    have app : ∀ v, v = true → Zj.j5 K (.ptr d 0 0) (.ptr r 0 0) (.ptr ba 0 0) (.n num) (.n w) (.bool v) h1 := by
      rintro v rfl
      try (have G := S2.facts; simp only [factsL, factsP, List.cons_append, List.nil_append, and_true, true_and] at G; simp +contextual (disch := omega) [-getElem?_pos, ld_pb, ix_sb, ix_vs, G, Za, Zj.j5g])
      refine Z1h (ys := a.b) la S2 (by simp [srcI]) (by omega) fun La' h2 la' S3 => ?_
      try (have G := S3.facts; simp only [factsL, factsP, List.cons_append, List.nil_append, and_true, true_and] at G; simp +contextual (disch := omega) [-getElem?_pos, ld_pb, ix_sb, ix_vs, G, Za, ])
      refine Z1x (ys := a.b) lb S3.m1 (by omega) fun Lb' h3 lb' S4 => ?_
      exact fin _ _ La' Lb' h3 ⟨la', lb', n0, by simp; omega⟩ (by simp; omega) S4.m1
    have rest : 4 ≤ w → Zj.j5 K (.ptr d 0 0) (.ptr r 0 0) (.ptr ba 0 0) (.n num) (.n w) (.bool false) h1 := by
      intro hw
      try (have G := S2.facts; simp only [factsL, factsP, List.cons_append, List.nil_append, and_true, true_and] at G; simp +contextual (disch := omega) [-getElem?_pos, ld_pb, ix_sb, ix_vs, G, Za, Zj.j5g])
      by_cases h4 : w = 4
      · try simp +contextual (disch := omega) [h4]
        refine Z1p la S2 fun La' h2 la' S3 => ?_
        refine Z1y lb S3.m1 fun Lb' h3 lb' S4 => ?_
        exact fin _ _ La' Lb' h3 ⟨la', lb', by omega, by omega⟩ (by omega) S4.m1
      by_cases h5 : w = 5
      · try simp +contextual (disch := omega) [h5]
        refine Z1v la S2 ⟨n0, n1⟩ (by omega) fun La' h2 => ?_
        by_cases hb : num < 0 ∨ xs.length < num
        · rw [if_pos hb]
          intro la' S3
          refine Z1s lb S3.m1 ⟨n0, n1⟩ (by omega) fun Lb' h3 => ?_
          rw [if_pos hb]
          intro lb' S4
          try simp +contextual (disch := omega)
          exact fin _ _ La' Lb' h3 ⟨la', lb', n0, n1⟩ (by omega) S4.m1
        · rw [if_neg hb]
          intro la' S3
          refine Z1s lb S3.m1 ⟨n0, n1⟩ (by omega) fun Lb' h3 => ?_
          rw [if_neg hb]
          intro lb' S4
          try simp +contextual (disch := omega)
          exact fin _ _ La' Lb' h3 ⟨la', lb', by omega, by simp; omega⟩ (by simp; omega) S4.m1
      · try simp +contextual (disch := omega) [h4, h5]
        have hc : 0 ≤ crashN xs n num ∧ crashN xs n num ≤ xs.length := by unfold crashN; omega
        refine Z1q la S2 ⟨n0, n1⟩ (by omega) fun La' h2 la' S3 => ?_
        refine Z1z lb S3.m1 ⟨n0, n1⟩ (by omega) fun Lb' h3 lb' S4 => ?_
        exact fin _ _ La' Lb' h3 ⟨la', lb', hc.1, by simp; omega⟩ (by simp; omega) S4.m1
    try simp +contextual (disch := omega) [Zj.j4g]
    by_cases w0 : w = 0
    · subst w0; try simp +contextual (disch := omega)
      exact app _ rfl
    by_cases w1 : w = 1
    · subst w1; try simp +contextual (disch := omega)
      exact app _ rfl
    by_cases w2 : w = 2
    · subst w2; try simp +contextual (disch := omega)
      exact app _ rfl
    by_cases w3 : w = 3
    · subst w3; try simp +contextual (disch := omega)
      exact app _ rfl
    · try simp +contextual (disch := omega) [w0, w1, w2, w3]
      exact rest (by omega)
  try (have G := S2.facts; simp only [factsL, factsP, List.cons_append, List.nil_append, and_true, true_and] at G; simp +contextual (disch := omega) [-getElem?_pos, ld_pb, ix_sb, ix_vs, G, Za, Zj.j2g, ar_andg])
  refine bK'_b (fun hc => ?_) (fun hc => ?_)
  · obtain ⟨s, Ls, rfl, l⟩ := lb
    have S3 := S2.m1.cons1
    try (have G := S3.facts; simp only [factsL, factsP, List.cons_append, List.nil_append, and_true, true_and] at G; simp +contextual (disch := omega) [-getElem?_pos, ld_pb, ix_sb, ix_vs, G, Za, l.len Zr, w64])
    refine (Z1w (by omega) (by omega) (by omega)).call ?_
    exact main _
  · exact main _
def fewA (l : List Act) : Bool := decide (l.length ≤ 60) && l.all fun a => decide (a.b.length ≤ 60)
theorem ok_few (l : List Act) : Fun PP ZH [.vs 3 (l.map Act.c)] (.bool (fewA l)) := by
  refine FunQ.intro fun h0 => Zm.call ?_
  have S := Own.start h0
  by_cases hl : l.length ≤ 60
  · have hl' : ¬ (60 : Int) < l.length := by omega
    try simp +contextual (disch := omega) [Zm.eg, Zm.j1g, hl', Zm.j2g]
    have loop : ∀ (m i : Nat), i + m = l.length → (l.take i).all (fun a => decide (a.b.length ≤ 60)) = true → Zm.l1 (Ret (fun x => x = .bool (fewA l)) h0) (.vs 3 (l.map Act.c)) (.n i) h0 := by
      intro m
      induction m with
      | zero =>
        intro i hi ha
        refine Zm.l1_round ?_
        have hlt : ¬ (i : Int) < l.length := by omega
        try simp +contextual (disch := omega) [Zm.b1g, hlt, Zm.j5]
        rw [List.take_of_length_le (by omega)] at ha
        exact Ret.val S (by simp [Bel]) (by simp [fewA, hl, ha])
      | succ m ih =>
        intro i hi ha
        refine Zm.l1_round ?_
        have hlt : (i : Int) < l.length := by omega
        obtain ⟨a, hx⟩ : ∃ a, l[i]? = some a := ⟨_, List.getElem?_eq_getElem (by omega)⟩
        try simp +contextual (disch := omega) [Zm.b1g, hlt]
        try (have G := S.facts; simp only [factsL, factsP, List.cons_append, List.nil_append, and_true, true_and] at G; simp +contextual (disch := omega) [-getElem?_pos, ld_pb, ix_sb, ix_vs, G, Za, Zm.j3g, hx])
        by_cases hb : (60 : Int) < a.b.length
        · try simp +contextual (disch := omega) [hb]
          refine Ret.val S (by simp [Bel]) ?_
          have : l.all (fun a => decide (a.b.length ≤ 60)) = false := by
            rw [List.all_eq_false]
            exact ⟨a, List.mem_of_getElem? hx, by simp; omega⟩
          simp [fewA, this]
        · try simp +contextual (disch := omega) [hb, Zm.j4g, w64]
          have q := ih (i + 1) (by omega) (by rw [List.take_add_one, hx]; simp [ha]; omega)
          simpa using q
    exact loop l.length 0 (by omega) (by simp)
  · have hl' : (60 : Int) < l.length := by omega
    try simp +contextual (disch := omega) [Zm.eg, Zm.j1g, hl']
    exact Ret.val S (by simp [Bel]) (by simp [fewA, hl])
theorem new_disk {T : TypeId} {KH : KT} (S : Own h0 rs h) (k : ∀ d L h', DV T d [] 0 L → Own h0 (L :: rs) h' → KH (.ptr d 0 0) h') : oA (boxI T (.agg [.snil, .n 0]) h) h KH := by
  refine S.box fun d h1 S1 => ?_
  exact k d _ h1 ⟨.snil, [], rfl, SlP.nil 1 _⟩ (S1.perm (by simp))
theorem Z1i (S : Own h0 rs h) (k : ∀ d L h', DV Z8 d [] 0 L → Own h0 (L :: rs) h' → K (.ptr d 0 0) h') : Z0 PP ZG [] h K := by
  refine Z12.call ?_
  have hb : Zs PP Z8 [] = some (.agg [.snil, .n 0]) := by simp only [Zs, Z1o, Z1n]; rfl
  try simp +contextual (disch := omega) [Z12.e, hb]
  exact new_disk S k
theorem Z1t (S : Own h0 rs h) (k : ∀ d L h', DV Z7 d [] 0 L → Own h0 (L :: rs) h' → K (.ptr d 0 0) h') : Z0 PP ZM [] h K := by
  refine Z13.call ?_
  have hb : Zs PP Z7 [] = some (.agg [.snil, .n 0]) := by simp only [Zs, Z1m, Z1l]; rfl
  try simp +contextual (disch := omega) [Z13.e, hb]
  exact new_disk S k
end
end Go.Ideal
namespace Go.Ideal
open Go.Proofs
set_option maxRecDepth 100000
theorem Own.litsD {P : Program} {h0 h : Heap} {rs : List PT} {KH : KT} {t e n m : Nat} {z cs : List IV} {es : List (List IV)} {ps : List (Nat × IV)} (S : Own h0 rs h) (ht : elO P t = some e) (hz : zrO P e = some z) (hs : szO P e = some n)
    (hc : (decide (m * n ≤ 16777216) && decide (0 < n) && decide (z.length = n)) = true) (hf : fillI (fun i => some (i * n, n)) (List.replicate m z).flatten ps = some cs) (he : chunks n m cs = es)
    (k : ∀ s L h', Sl n e s es L → Own h0 (L :: rs) h' → KH s h') : oA (Zq P t m ps h) h KH := by
  simp only [Bool.and_eq_true, decide_eq_true_eq] at hc
  have e1 : Zq P t m ps h = some (.sl h.length 0 m, h ++ [some ⟨n, e, es⟩]) := by
    unfold Zq
    simp only [ht, hz, hs]
    rw [if_pos ⟨hc.1.1, hc.1.2, hc.2⟩, hf, ← he]
    rfl
  rw [e1]
  simp only [oA_some]
  have hl : m = es.length := by rw [← he, chunks_len]
  refine k _ _ _ ?_ (S.push _)
  rw [hl]
  exact Sl.mk n e h.length es
theorem ZF : Fun PP Zw [] (.bool true) := by
  refine FunQ.intro fun h0 => ZD.call ?_
  try simp +contextual (disch := omega) [ZD.eg, ZD.j1g]
  refine Z1i (Own.start h0) fun d L h1 l S1 => ?_
  have hne : Z5 PP .eql Zl (.ptr d 0 0) .nil = some (.bool false) := by
    have : knO PP Zl = .pt := by kernel_rfl
    simp [Z5, eqI, this]
  try simp +contextual (disch := omega) [ZD.j2g, hne]
  try simp +contextual (disch := omega) [ZD.j3]
  have hz : zrO PP Zd = some [.int .u8 0] := by kernel_rfl
  have hs : szO PP Zd = some 1 := by kernel_rfl
  refine S1.litsD (n := 1) (e := Zd) (es := byt [1]) (cs := [.int .u8 1]) rfl hz hs rfl rfl rfl fun s1 L1 h2 l1 S2 => ?_
  refine Z1h (ys := [1]) l S2.m1 (l1.src S2) (by simp) fun L h3 l S3 => ?_
  try simp +contextual (disch := omega)
  refine Z1p l S3 fun L h4 l S4 => ?_
  try simp +contextual (disch := omega)
  refine S4.litsD (n := 1) (e := Zd) (es := byt [2, 3]) (cs := [.int .u8 2, .int .u8 3]) rfl hz hs rfl rfl rfl fun s2 L2 h5 l2 S5 => ?_
  refine Z1h (ys := [2, 3]) l S5.m1 (l2.src S5) (by simp) fun L h6 l S6 => ?_
  try simp +contextual (disch := omega)
  refine Z1q (m := 1) l S6 (by simp) (by simp) fun L h7 l S7 => ?_
  have e1 : crashN (([] ++ [1]) ++ [2, 3]) (([] ++ [1] : List Int).length : Int) 1 = 2 := by decide
  have e2 : ((([] ++ [1]) ++ [2, 3] : List Int).take ((2 : Int)).toNat) = [1, 2] := by decide
  rw [e1, e2] at l
  try simp +contextual (disch := omega)
  refine ZE l S7 (by simp) fun s3 L3 h8 l3 S8 => ?_
  try simp +contextual (disch := omega)
  refine S8.litsD (n := 1) (e := Zd) (es := byt [1, 2]) (cs := [.int .u8 1, .int .u8 2]) rfl hz hs rfl rfl rfl fun s4 L4 h9 l4 S9 => ?_
  try simp +contextual (disch := omega)
  refine ZR (xs := [1, 2]) (l3.src S9.m1) (l4.src S9) ?_
  try simp +contextual (disch := omega)
  refine ZQ l S9.m2 ?_
  try simp +contextual (disch := omega)
  exact Ret.val S9 (by simp [Bel]) rfl
theorem few_at {l : List Act} (h : fewA l = true) : l.length ≤ 60 ∧ ∀ a ∈ l, a.b.length ≤ 60 := by
  simpa [fewA] using h
theorem Z1D (l : List Act) : Fun PP Z1j [.vs 3 (l.map Act.c)] (.bool true) := by
  refine FunQ.intro fun h0 => Zo.call ?_
  try simp +contextual (disch := omega) [Zo.eg, Zo.j1g]
  refine Z1i (Own.start h0) fun d La h1 la S1 => ?_
  try simp +contextual (disch := omega)
  refine Z1t S1 fun r Lb h2 lb S2 => ?_
  have hk : knO PP Zl = .pt := by kernel_rfl
  have hne : Z5 PP .eql Zl (.ptr d 0 0) .nil = some (.bool false) := by simp [Z5, eqI, hk]
  have hnn : Z5 PP .neq Zl (.ptr d 0 0) .nil = some (.bool true) := by simp [Z5, eqI, hk]
  try simp +contextual (disch := omega) [Zo.j2g]
  refine ZF.call ?_
  try simp +contextual (disch := omega)
  first | refine (ok_few l).call ?_ | refine callB_fun (fun _ => ok_few l) ?_
  try simp +contextual (disch := omega) [hne]
  cases hf : fewA l with
  | false =>
    try simp +contextual (disch := omega)
    refine ZF.call ?_
    try simp +contextual (disch := omega) [hnn]
    exact Ret.val S2 (by simp [Bel]) rfl
  | true =>
    obtain ⟨hl, ha⟩ := few_at hf
    try simp +contextual (disch := omega) [Zo.j3g]
    have loop : ∀ (m i : Nat) (xs : List Int) (n : Int) (La Lb : PT) (h : Heap), i + m = l.length → xs.length ≤ 60 * i → DD d r xs n La Lb → Own h0 (La :: Lb :: []) h → Zo.l1 (Ret (fun x => x = .bool true) h0) (.vs 3 (l.map Act.c)) (.ptr d 0 0) (.ptr r 0 0) (.n i) h := by
      intro m
      induction m with
      | zero =>
        intro i xs n La Lb h hi hx dd S
        refine Zo.l1_round ?_
        have hlt : ¬ (i : Int) < l.length := by omega
        try simp +contextual (disch := omega) [Zo.b1g, hlt, Zo.j6]
        exact Ret.val S (by simp [Bel]) rfl
      | succ m ih =>
        intro i xs n La Lb h hi hx dd S
        refine Zo.l1_round ?_
        have hlt : (i : Int) < l.length := by omega
        obtain ⟨a, hxa⟩ : ∃ a, l[i]? = some a := ⟨_, List.getElem?_eq_getElem (by omega)⟩
        try simp +contextual (disch := omega) [Zo.b1g, hlt]
        try (have G := S.facts; simp only [factsL, factsP, List.cons_append, List.nil_append, and_true, true_and] at G; simp +contextual (disch := omega) [-getElem?_pos, ld_pb, ix_sb, ix_vs, G, Za, Zo.j4g, hxa])
        refine ZS dd S (by omega) a (ha a (List.mem_of_getElem? hxa)) fun xs' n' La' Lb' h' dd' hx' S' => ?_
        try simp +contextual (disch := omega) [Zo.j5g, w64]
        have q := ih (i + 1) xs' n' La' Lb' h' (by omega) (by omega) dd' S'
        simpa using q
    exact loop l.length 0 [] 0 La Lb h2 (by omega) (by simp) ⟨la, lb, by simp, by simp⟩ S2.m1
theorem Z1E (l more : List Act) : Fun PP Z1k [.vs 3 (l.map Act.c), .vs 3 (more.map Act.c)] (.bool true) := by
  refine FunQ.intro fun h0 => Zc.call ?_
  try simp +contextual (disch := omega) [Zc.eg, Zc.j1g]
  refine Z1i (Own.start h0) fun d La h1 la S1 => ?_
  try simp +contextual (disch := omega)
  refine Z1t S1 fun r Lb h2 lb S2 => ?_
  have hk : knO PP Zl = .pt := by kernel_rfl
  have hne : ∀ d, Z5 PP .eql Zl (.ptr d 0 0) .nil = some (.bool false) := fun d => by simp [Z5, eqI, hk]
  have hnn : ∀ d, Z5 PP .neq Zl (.ptr d 0 0) .nil = some (.bool true) := fun d => by simp [Z5, eqI, hk]
  try simp +contextual (disch := omega) [Zc.j2g]
  refine ZF.call ?_
  try simp +contextual (disch := omega)
  first | refine (ok_few l).call ?_ | refine callB_fun (fun _ => ok_few l) ?_
  try simp +contextual (disch := omega)
  have bad : ∀ h, Own h0 (Lb :: La :: []) h → Z0 PP Zw [] h fun v17 h4 => oG (gW v17 true) (some (.ptr d 0 0)) h4 fun v19 => oG (gW v17 true) (Z5 PP .neq Zl v19 .nil) h4 fun v20 => oP sT (Zg v17 v20 (.bool false) h4) h4 fun v21 => Zb PP [.v v21] h4 (Ret (fun x => x = .bool true) h0) := by
    intro h S
    refine ZF.call ?_
    try simp +contextual (disch := omega) [hnn]
    exact Ret.val S (by simp [Bel]) rfl
  cases hf : fewA l with
  | false =>
    try simp +contextual (disch := omega)
    refine ZF.call ?_
    try simp +contextual (disch := omega) [hnn]
    exact Ret.val S2 (by simp [Bel]) rfl
  | true =>
  try simp +contextual (disch := omega)
  first | refine (ok_few more).call ?_ | refine callB_fun (fun _ => ok_few more) ?_
  try simp +contextual (disch := omega) [hne]
  cases hg : fewA more with
  | false =>
    try simp +contextual (disch := omega)
    refine ZF.call ?_
    try simp +contextual (disch := omega) [hnn]
    exact Ret.val S2 (by simp [Bel]) rfl
  | true =>
  obtain ⟨hl, ha⟩ := few_at hf
  obtain ⟨hl2, ha2⟩ := few_at hg
  try simp +contextual (disch := omega) [Zc.j3g]
  have loop3 : ∀ (e s : Nat) (was : IV) (zs : List Int) (N : Int) (m i : Nat) (xs : List Int) (n : Int) (La Lb Lc Ld Lw : PT) (h : Heap), i + m = more.length → xs.length ≤ 3600 + 60 * i → zs.length ≤ 900000 → DD d r zs N Lc Ld → SlP 1 Zd was (byt zs) Lw → DD e s xs n La Lb → Own h0 (La :: Lb :: Lc :: Ld :: Lw :: []) h →
      Zc.l3 (Ret (fun x => x = .bool true) h0) (.vs 3 (more.map Act.c)) (.ptr d 0 0) (.ptr r 0 0) (.ptr e 0 0) (.ptr s 0 0) was (.n i) h := by
    intro e s was zs N m
    induction m with
    | zero =>
      intro i xs n La Lb Lc Ld Lw h hi hx hz dc lw dd S
      refine Zc.l3_round ?_
      have hlt : ¬ (i : Int) < more.length := by omega
      try simp +contextual (disch := omega) [Zc.b3g, hlt]
      try simp +contextual (disch := omega) [Zc.j15]
      refine ZE dc.1 S.m2 (by omega) fun s' L' h' l' S3 => ?_
      try simp +contextual (disch := omega)
      refine ZR (xs := zs) (l'.src S3) (lw.src S3.m5) ?_
      obtain ⟨sd, Ls, hLd, ld⟩ := dc.2.1
      subst hLd
      have S4 := S3.m4.cons1
      try (have G := S4.facts; simp only [factsL, factsP, List.cons_append, List.nil_append, and_true, true_and] at G; simp +contextual (disch := omega) [-getElem?_pos, ld_pb, ix_sb, ix_vs, G, Za, ])
      refine ZQ dc.1 S3.m1 ?_
      try (have G := S4.facts; simp only [factsL, factsP, List.cons_append, List.nil_append, and_true, true_and] at G; simp +contextual (disch := omega) [-getElem?_pos, ld_pb, ix_sb, ix_vs, G, Za, ])
      exact Ret.val S3 (by simp [Bel]) rfl
    | succ m ih =>
      intro i xs n La Lb Lc Ld Lw h hi hx hz dc lw dd S
      refine Zc.l3_round ?_
      have hlt : (i : Int) < more.length := by omega
      obtain ⟨a, hxa⟩ : ∃ a, more[i]? = some a := ⟨_, List.getElem?_eq_getElem (by omega)⟩
      try simp +contextual (disch := omega) [Zc.b3g, hlt]
      try (have G := S.facts; simp only [factsL, factsP, List.cons_append, List.nil_append, and_true, true_and] at G; simp +contextual (disch := omega) [-getElem?_pos, ld_pb, ix_sb, ix_vs, G, Za, Zc.j13g, hxa])
      refine ZS dd S (by omega) a (ha2 a (List.mem_of_getElem? hxa)) fun xs' n' La' Lb' h' dd' hx' S' => ?_
      try simp +contextual (disch := omega) [Zc.j14g, w64]
      have q := ih (i + 1) xs' n' La' Lb' Lc Ld Lw h' (by omega) (by omega) hz dc lw dd' S'
      simpa using q
  have loop2 : ∀ (e s : Nat) (zs : List Int) (N : Int) (m i : Nat) (xs : List Int) (n : Int) (La Lb Lc Ld : PT) (h : Heap), i + m = more.length → xs.length ≤ 3600 + 60 * i → zs.length ≤ 3600 → DD e s zs N Lc Ld → DD d r xs n La Lb → Own h0 (La :: Lb :: Lc :: Ld :: []) h →
      Zc.l2 (Ret (fun x => x = .bool true) h0) (.vs 3 (more.map Act.c)) (.ptr d 0 0) (.ptr r 0 0) (.ptr e 0 0) (.ptr s 0 0) (.n i) h := by
    intro e s zs N m
    induction m with
    | zero =>
      intro i xs n La Lb Lc Ld h hi hx hz dc dd S
      refine Zc.l2_round ?_
      have hlt : ¬ (i : Int) < more.length := by omega
      try simp +contextual (disch := omega) [Zc.b2g, hlt]
      try simp +contextual (disch := omega) [Zc.j11g]
      refine ZE dd.1 S (by omega) fun s' L' h' l' S3 => ?_
      try simp +contextual (disch := omega) [Zc.j12g]
      exact loop3 e s s' xs n more.length 0 zs N Lc Ld La Lb L' h' (by omega) (by omega) (by omega) dd l' dc S3.b4.m3.m3
    | succ m ih =>
      intro i xs n La Lb Lc Ld h hi hx hz dc dd S
      refine Zc.l2_round ?_
      have hlt : (i : Int) < more.length := by omega
      obtain ⟨a, hxa⟩ : ∃ a, more[i]? = some a := ⟨_, List.getElem?_eq_getElem (by omega)⟩
      try simp +contextual (disch := omega) [Zc.b2g, hlt]
      try (have G := S.facts; simp only [factsL, factsP, List.cons_append, List.nil_append, and_true, true_and] at G; simp +contextual (disch := omega) [-getElem?_pos, ld_pb, ix_sb, ix_vs, G, Za, Zc.j9g, hxa])
      refine ZS dd S (by omega) a (ha2 a (List.mem_of_getElem? hxa)) fun xs' n' La' Lb' h' dd' hx' S' => ?_
      have dc0 := dc
      obtain ⟨dc1, ⟨sd, Ls, hLd, ld⟩, dc3⟩ := dc
      subst hLd
      have S4 := S'.m3.cons1
      try (have G := S4.facts; simp only [factsL, factsP, List.cons_append, List.nil_append, and_true, true_and] at G; simp +contextual (disch := omega) [-getElem?_pos, ld_pb, ix_sb, ix_vs, G, Za, ])
      refine ZE dc1 S'.m2 (by omega) fun s' L' h2 l' S5 => ?_
      have S6 := S5.m4.cons1
      try (have G := S6.facts; simp only [factsL, factsP, List.cons_append, List.nil_append, and_true, true_and] at G; simp +contextual (disch := omega) [-getElem?_pos, ld_pb, ix_sb, ix_vs, G, Za, ])
      refine ZR (xs := zs) (l'.src S5) (ld.src S6.m1) ?_
      try (have G := S6.facts; simp only [factsL, factsP, List.cons_append, List.nil_append, and_true, true_and] at G; simp +contextual (disch := omega) [-getElem?_pos, ld_pb, ix_sb, ix_vs, G, Za, ])
      refine ZQ dc1 S5.m1 ?_
      try (have G := S6.facts; simp only [factsL, factsP, List.cons_append, List.nil_append, and_true, true_and] at G; simp +contextual (disch := omega) [-getElem?_pos, ld_pb, ix_sb, ix_vs, G, Za, ])
      try simp +contextual (disch := omega) [Zc.j10g, w64]
      have q := ih (i + 1) xs' n' La' Lb' _ _ h2 (by omega) (by omega) hz dc0 dd' (S5.dp0.b2)
      simpa using q
  have loop1 : ∀ (m i : Nat) (xs : List Int) (n : Int) (La Lb : PT) (h : Heap), i + m = l.length → xs.length ≤ 60 * i → DD d r xs n La Lb → Own h0 (La :: Lb :: []) h → Zc.l1 (Ret (fun x => x = .bool true) h0) (.vs 3 (l.map Act.c)) (.vs 3 (more.map Act.c)) (.ptr d 0 0) (.ptr r 0 0) (.n i) h := by
    intro m
    induction m with
    | zero =>
      intro i xs n La Lb h hi hx dd S
      refine Zc.l1_round ?_
      have hlt : ¬ (i : Int) < l.length := by omega
      try simp +contextual (disch := omega) [Zc.b1g, hlt]
      try simp +contextual (disch := omega) [Zc.j6g]
      refine Z1A dd.1 S (by omega) fun e Le h2 le S3 => ?_
      try simp +contextual (disch := omega)
      refine Z1B dd.2.1 S3.m2 (by omega) fun s Ls h3 ls S4 => ?_
      try simp +contextual (disch := omega) [Zc.j7g, hne]
      try simp +contextual (disch := omega) [Zc.j8g]
      exact loop2 e s xs n more.length 0 xs n La Lb Le Ls h3 (by omega) (by omega) (by omega) ⟨le, ls, dd.2.2⟩ dd S4.m3.m1.b3
    | succ m ih =>
      intro i xs n La Lb h hi hx dd S
      refine Zc.l1_round ?_
      have hlt : (i : Int) < l.length := by omega
      obtain ⟨a, hxa⟩ : ∃ a, l[i]? = some a := ⟨_, List.getElem?_eq_getElem (by omega)⟩
      try simp +contextual (disch := omega) [Zc.b1g, hlt]
      try (have G := S.facts; simp only [factsL, factsP, List.cons_append, List.nil_append, and_true, true_and] at G; simp +contextual (disch := omega) [-getElem?_pos, ld_pb, ix_sb, ix_vs, G, Za, Zc.j4g, hxa])
      refine ZS dd S (by omega) a (ha a (List.mem_of_getElem? hxa)) fun xs' n' La' Lb' h' dd' hx' S' => ?_
      try simp +contextual (disch := omega) [Zc.j5g, w64]
      have q := ih (i + 1) xs' n' La' Lb' h' (by omega) (by omega) dd' S'
      simpa using q
  exact loop1 l.length 0 [] 0 La Lb h2 (by omega) (by simp) ⟨la, lb, by simp, by simp⟩ S2.m1
end Go.Ideal
namespace Go.Ideal
theorem shd_Act {v : IV} (h : Shd (.sl 3 [.i .i64, .i .i64, .sl 1 [.i .u8]]) v) : ∃ l : List Act, v = .vs 3 (l.map Act.c) := by
  refine shd_list (fun e h => ?_) h
  simp only [Shds] at h
  obtain ⟨_, _, rfl, h1, _, _, rfl, h2, _, _, rfl, h3, rfl⟩ := h
  obtain ⟨a, rfl⟩ := shd_i h1
  obtain ⟨b, rfl⟩ := shd_i h2
  obtain ⟨l, rfl, _⟩ := shd_bytes h3
  exact ⟨⟨a, b, l⟩, rfl⟩
end Go.Ideal
