/- Part of a proof: functions of the program over an ideal memory, and what they compute. No condition. -/
import Derived.Test.YtcbcdjfbcihgoaaLE5
set_option linter.unusedVariables false
set_option linter.unusedSimpArgs false
namespace Go.Ideal
open Go.Proofs
set_option maxRecDepth 100000
@[simp] theorem pick_and011 {a b e c : Bool} {h : Heap} : Ze (.bool (a && !b && !e)) (.bool true) (gv (!a || b || e) (.bool c)) h = some (.bool (a && !b && !e || c), h) := by cases a <;> cases b <;> cases e <;> rfl
structure EBd (e : Entry) : Prop where
  tick : -1099511627776 ≤ e.tick ∧ e.tick ≤ 1099511627776
  start : -1099511627776 ≤ e.start ∧ e.start ≤ 1099511627776
  till : -1099511627776 ≤ e.till ∧ e.till ≤ 1099511627776
def grantedR (c : Config) (e : Entry) (x : TState) (y : CState) : Int :=
  if (decide (y.mode = 3) || decide (y.mode = 2) && !decide (e.cell = x.home)) = true then 6
  else if (decide (e.cell = x.home) && !decide (e.epoch = x.epoch) && !decide (e.epoch = x.epoch + 1) || !decide (e.cell = x.home) && !decide (e.epoch = x.epoch + 1)) = true then 7
  else if (!decide (e.num = y.running) || !decide (y.running = y.wanted)) = true then 8
  else if (decide (e.start < e.tick) || decide (e.tick + c.lease < e.start) || decide (e.till ≤ e.start) || decide (c.lease < e.till - e.start) || decide (e.start < x.window.till)) = true then 9
  else if (!decide (e.cell = x.home) && decide (e.tick < x.window.till)) = true then 9
  else 0
theorem Z5Y {c : Config} {s : State} {e : Entry} {x : TState} {y : CState} (hx : gt s.tenants e.tenant = some x) (hy : gt s.cells e.cell = some y) (he : EBd e)
    (hl : -1099511627776 ≤ c.lease ∧ c.lease ≤ 1099511627776) (hp : -1099511627776 ≤ x.epoch ∧ x.epoch ≤ 1099511627776) :
    Fun PP Z3Q [c.v, s.v, e.v] (.n (grantedR c e x y)) := by
  refine FunQ.intro fun h => Z11.call ?_
  have eb1 := he.tick
  have eb2 := he.start
  have eb3 := he.till
  refine (Own.start h).box fun b1 h1 S1 => ?_
  refine S1.box fun b2 h2 S2 => ?_
  refine S2.box fun b3 h3 S3 => ?_
  obtain ⟨i0, hx'⟩ := gt_some.1 hx
  obtain ⟨j0, hy'⟩ := gt_some.1 hy
  have g3 := S3.at0; have g2 := S3.at1; have g1 := S3.at2
  have it : ∀ h, Zf PP Zh (.vs 12 (s.tenants.map TState.c)) (.n e.tenant) h = some (.fptr x.c) := fun h => Z2m i0 (by simp [hx'])
  have ic : ∀ h, Zf PP Zl (.vs 4 (s.cells.map CState.c)) (.n e.cell) h = some (.fptr y.c) := fun h => Z3d j0 (by simp [hy'])
  try simp +contextual (disch := omega) [Z11.j1g, ld_b g2, ld_b g3, it]
  refine S3.alloc Z1D fun b4 h4 S4 => ?_
  try simp +contextual (disch := omega)
  refine S4.put (new := x.c) rfl (by simp) rfl (by simp) fun h5 S5 => ?_
  have g2 := S5.at2; have g3 := S5.at1
  try simp +contextual (disch := omega) [Z11.j2g, ld_b g2, ld_b g3, ic]
  refine S5.alloc Z21 fun b5 h6 S6 => ?_
  try simp +contextual (disch := omega)
  refine S6.put (new := y.c) rfl (by simp) rfl (by simp) fun h7 S7 => ?_
  have gy := S7.at0; have gx := S7.at1; have g3 := S7.at2; have g1 := S7.at4
  generalize hq : grantedR c e x y = q
  unfold grantedR at hq
  simp +contextual (disch := omega) [Z11.j3g, Z11.j4g, ld_b gy, ld_b gx, ld_b g3, Z11.j5]
  refine bK'_b (fun hc => ?_) (fun hc => ?_)
  · rw [if_pos hc] at hq
    subst q
    simp +contextual (disch := omega) [Z11.j6g]
    exact Ret.val S7 (by simp [Bel, Bels]) (by first | rfl | simp)
  rw [if_neg (by simp [hc])] at hq
  simp +contextual (disch := omega) [Z11.j7g, ld_b gy, ld_b gx, ld_b g3, Z11.j8, w64]
  refine bK'_b (fun hc => ?_) (fun hc => ?_)
  · rw [if_pos hc] at hq
    subst q
    simp +contextual (disch := omega) [Z11.j9g]
    exact Ret.val S7 (by simp [Bel, Bels]) (by first | rfl | simp)
  rw [if_neg (by simp [hc])] at hq
  simp +contextual (disch := omega) [Z11.j10g, ld_b gy, ld_b gx, ld_b g3, Z11.j11, -Bool.not_or, -Bool.not_and]
  refine bK'_b (fun hc => ?_) (fun hc => ?_)
  · rw [if_pos hc] at hq
    subst q
    simp +contextual (disch := omega) [Z11.j12g]
    exact Ret.val S7 (by simp [Bel, Bels]) (by first | rfl | simp)
  rw [if_neg (by simp [hc])] at hq
  simp +contextual (disch := omega) [Z11.j13g, ld_b gy, ld_b gx, ld_b g3, ld_b g1, Z11.j14, w64, -Bool.not_or, -Bool.not_and]
  refine bK'_b (fun hc => ?_) (fun hc => ?_)
  · rw [if_pos hc] at hq
    subst q
    simp +contextual (disch := omega) [Z11.j15g]
    exact Ret.val S7 (by simp [Bel, Bels]) (by first | rfl | simp)
  rw [if_neg (by simp [hc])] at hq
  simp +contextual (disch := omega) [Z11.j16g, ld_b gy, ld_b gx, ld_b g3, ld_b g1]
  refine bK'_b (fun hc => ?_) (fun hc => ?_)
  · rw [if_pos hc] at hq
    subst q
    try simp +contextual (disch := omega)
    exact Ret.val S7 (by simp [Bel, Bels]) (by first | rfl | simp)
  · rw [if_neg (by simp [hc])] at hq
    subst q
    exact Ret.val S7 (by simp [Bel, Bels, tupI]) (by first | rfl | simp)
@[simp] theorem build_window (a b c d e : Int) : Zo PP Zu [(0, .n a), (1, .n b), (2, .n c), (3, .n d), (4, .n e)] = some (Window.mk a b c d e).v := by
  simp only [Zo, Z3f, Z20]
  rfl
def moved (e : Entry) (x : TState) : TState :=
  let w : Window := ⟨e.cell, e.epoch, e.num, e.start, e.till⟩
  if e.cell = x.home then { x with window := w, epoch := e.epoch }
  else if e.cell = x.standby then { x with window := w, epoch := e.epoch, home := e.cell, standby := -1, next := -1, target := -1, shed := false }
  else { x with window := w, epoch := e.epoch, home := e.cell, target := -1 }
def grantS (c : Config) (s : State) (e : Entry) (x : TState) (y : CState) : State × Int :=
  if (!x.placed || x.shed && !decide (e.cell = x.standby)) = true then err 4
  else if (!decide (e.cell = x.home) && !decide (e.cell = x.standby) && !decide (e.cell = x.target)) = true then err 5
  else if grantedR c e x y ≠ 0 then err (grantedR c e x y)
  else fitS c (setT s e.tenant (moved e x))
theorem fz_cse {c : Config} {s : State} {v : IV} {L1 L2 : PT} {h0 h : Heap} {rs : List PT} (r : Rep s v L1 L2) (S : Own h0 (L1 :: L2 :: rs) h) (e : Entry) : Fzs h (geB h0.length) [c.v, s.v, e.v] [c.v, v, e.v] :=
  Fzs.cons (Fz.refl _ _ _ (by simp [Bel])) (Fzs.cons (r.fz S) (Fzs.cons (Fz.refl _ _ _ (by simp [Bel])) (Fzs.nil _ _)))
theorem Z5Z {c : Config} {s : State} {e : Entry} {x : TState} {y : CState} (hm : Small c s) (hl : s.tenants.length = c.tenants.length) (hx : gt s.tenants e.tenant = some x) (hy : gt s.cells e.cell = some y) (he : EBd e)
    (hls : -1099511627776 ≤ c.lease ∧ c.lease ≤ 1099511627776) (hp : -1099511627776 ≤ x.epoch ∧ x.epoch ≤ 1099511627776) :
    StT Z3D (fun v => [c.v, v, e.v]) s (grantS c s e x y) := by
  intro h0 h rs L1 L2 v K r S k
  refine ZV.call ?_
  obtain ⟨bt, b, rfl, rfl, l2, hx', i0, ilt⟩ := r.tenant hx
  refine S.box fun b1 h1 S1 => ?_
  refine S1.box fun b2 h2 S2 => ?_
  refine S2.box fun b3 h3 S3 => ?_
  refine S3.alloc ZH fun b4 h4 S4 => ?_
  have S5 := S4.six
  clear S S1 S2 S3 S4
  have gt' := S5.at0; have g3 := S5.at3; have g2 := S5.at4; have g1 := S5.at5
  have qt := fun (o : Nat) (t : TypeId) => ld_p (P := PP) (o := o) t gt' hx'
  have it := Z1C (k := .i64) (lo := 0) i0 ilt gt'
  have zap : ∀ {A B C : PT}, (∀ h' M N, Own h0 (M :: N :: A :: B :: C :: rs) h' → Own h0 (M :: N :: rs) h') := fun _ _ _ S => ((S.del 2).del 2).del 2
  generalize hq : grantS c s e x y = q at k
  unfold grantS at hq
  simp +contextual (disch := omega) [ZV.j1g, ZV.j2g, ld_b g2, ld_b g3, it, qt, ZV.j3]
  refine bK'_b (fun hc => ?_) (fun hc => ?_)
  · rw [if_pos hc] at hq
    subst q
    simp +contextual (disch := omega) [ZV.j4g]
    first | exact no_tail S5 rfl zap k | exact no_tail' S5 rfl zap k
  rw [if_neg (by simp [hc])] at hq
  simp +contextual (disch := omega) [ZV.j5g, ld_b g3, qt]
  refine bK'_b (fun hc => ?_) (fun hc => ?_)
  · rw [if_pos (by simpa using hc)] at hq
    subst q
    first | exact no_tail S5 rfl zap k | exact no_tail' S5 rfl zap k
  rw [if_neg (by simpa using hc)] at hq
  simp +contextual (disch := omega) [ZV.j6g, ld_b g1, ld_b g2, ld_b g3]
  refine (Z5Y hx hy he hls hp).lend rfl (fz_cse r S5 e) ?_
  generalize grantedR c e x y = gr at hq
  simp +contextual (disch := omega) [ZV.j7g]
  by_cases hg : gr = 0
  · rw [if_neg (by simp [hg])] at hq
    subst q
    have last : ∀ (z : TState) (h6 : Heap), z = moved e x → Own h0 ([(bt, some ⟨12, Za, (s.tenants.map TState.c).set e.tenant.toNat z.c⟩)] :: L2 :: [(b4, some ⟨8, Z3, [svc emptyS .snil .snil]⟩)] :: [(b3, some ⟨9, Z8, [e.c]⟩)] :: [(b2, some ⟨8, Z3, [svc s (.sl bt 0 s.tenants.length) b]⟩)] :: [(b1, some ⟨10, Z6, [c.c]⟩)] :: rs) h6 →
        ZV.j18 K (.ptr b1 0 0) (.ptr b2 0 0) (.ptr b4 0 0) h6 := by
      intro z h6 hz S6
      subst z
      have g1 := S6.at5; have g2 := S6.at4
      simp +contextual (disch := omega) [ZV.j18, ld_b g1, ld_b g2]
      have rr := Rep.setT (bt := bt) l2 e.tenant (moved e x)
      exact fit_tail (rs := rs) (s := setT s e.tenant (moved e x)) (hm.setT _ _) (by simpa [setT] using hl) rr S6 rfl zap k
    simp +contextual (disch := omega) [hg, ZV.j8g, ld_b g3]
    refine S5.storeE hx' rfl (by simp) (by simp) (by simp [oneI]) fun h5 S6 => ?_
    have hx6 := set_at (y := splice 7 (Window.mk e.cell e.epoch e.num e.start e.till).c x.c) hx'
    have g3 := S6.at3
    try simp +contextual (disch := omega) [ZV.j9g, ld_b g3]
    refine S6.storeE hx6 rfl (by simp) (by simp) (by simp [oneI]) fun h6 S7 => ?_
    have hx7 := set_at (y := TState.c { x with window := ⟨e.cell, e.epoch, e.num, e.start, e.till⟩, epoch := e.epoch }) hx'
    rw [set_set] at S7
    have ⟨x1, hx1⟩ : ∃ x1 : TState, x1 = { x with window := ⟨e.cell, e.epoch, e.num, e.start, e.till⟩, epoch := e.epoch } := ⟨_, rfl⟩
    have S8 : Own h0 ([(bt, some ⟨12, Za, (s.tenants.map TState.c).set e.tenant.toNat x1.c⟩)] :: L2 :: [(b4, some ⟨8, Z3, [svc emptyS .snil .snil]⟩)] :: [(b3, some ⟨9, Z8, [e.c]⟩)] :: [(b2, some ⟨8, Z3, [svc s (.sl bt 0 s.tenants.length) b]⟩)] :: [(b1, some ⟨10, Z6, [c.c]⟩)] :: rs) h6 := by subst hx1; exact S7
    clear S7
    have hx8 : ((s.tenants.map TState.c).set e.tenant.toNat x1.c)[e.tenant.toNat]? = some x1.c := set_at hx'
    have g3 := S8.at3
    have gt8 := S8.at0
    have qt8 := fun (o : Nat) (t : TypeId) => ld_p (P := PP) (o := o) t gt8 hx8
    have eh : x1.home = x.home := by subst hx1; rfl
    have es : x1.standby = x.standby := by subst hx1; rfl
    try simp +contextual (disch := omega) [ZV.j10g, ZV.j11g, ld_b g3, qt8, eh, ZV.j12]
    by_cases c1 : e.cell = x.home
    · simp +contextual (disch := omega) [c1, ZV.j13g]
      exact last x1 h6 (by subst hx1; simp [moved, c1]) S8
    · simp +contextual (disch := omega) [c1, ZV.j14g, ld_b g3, qt8, es, ZV.j15]
      by_cases c2 : e.cell = x.standby
      · simp +contextual (disch := omega) [c2, ZV.j16g, ld_b g3]
        refine S8.storeE hx8 rfl (by simp) (by simp) (by simp [oneI]) fun h7 S9 => ?_
        rw [set_set] at S9
        have hx9 := set_at (y := (splice 2 [.n x.standby] x1.c)) hx'
        try simp +contextual (disch := omega)
        refine S9.storeE hx9 rfl (by simp) (by simp) (by simp [oneI]) fun h8 S10 => ?_
        rw [set_set] at S10
        have hx10 := set_at (y := (splice 3 [.n (-1)] (splice 2 [.n x.standby] x1.c))) hx'
        try simp +contextual (disch := omega)
        refine S10.storeE hx10 rfl (by simp) (by simp) (by simp [oneI]) fun h9 S11 => ?_
        rw [set_set] at S11
        have hx11 := set_at (y := (splice 4 [.n (-1)] (splice 3 [.n (-1)] (splice 2 [.n x.standby] x1.c)))) hx'
        try simp +contextual (disch := omega)
        refine S11.storeE hx11 rfl (by simp) (by simp) (by simp [oneI]) fun h10 S12 => ?_
        rw [set_set] at S12
        have hx12 := set_at (y := (splice 5 [.n (-1)] (splice 4 [.n (-1)] (splice 3 [.n (-1)] (splice 2 [.n x.standby] x1.c))))) hx'
        try simp +contextual (disch := omega)
        refine S12.storeE hx12 rfl (by simp) (by simp) (by simp [oneI]) fun h11 S13 => ?_
        rw [set_set] at S13
        have hx13 := set_at (y := (splice 1 [.bool false] (splice 5 [.n (-1)] (splice 4 [.n (-1)] (splice 3 [.n (-1)] (splice 2 [.n x.standby] x1.c)))))) hx'
        try simp +contextual (disch := omega)
        exact last { x1 with home := x.standby, standby := -1, next := -1, target := -1, shed := false } h11 (by subst hx1; simp only [moved]; rw [if_neg c1, if_pos c2, c2]) S13
      · simp +contextual (disch := omega) [c2, ZV.j17g, ld_b g3]
        refine S8.storeE hx8 rfl (by simp) (by simp) (by simp [oneI]) fun h7 S9 => ?_
        rw [set_set] at S9
        have hx9 := set_at (y := (splice 2 [.n e.cell] x1.c)) hx'
        try simp +contextual (disch := omega)
        refine S9.storeE hx9 rfl (by simp) (by simp) (by simp [oneI]) fun h8 S10 => ?_
        rw [set_set] at S10
        have hx10 := set_at (y := (splice 5 [.n (-1)] (splice 2 [.n e.cell] x1.c))) hx'
        try simp +contextual (disch := omega)
        exact last { x1 with home := e.cell, target := -1 } h8 (by subst hx1; simp [moved, c1, c2]) S10
  · rw [if_pos hg] at hq
    subst q
    simp +contextual (disch := omega) [hg]
    first | exact no_tail S5 rfl zap k | exact no_tail' S5 rfl zap k
end Go.Ideal
namespace Go.Ideal
open Go.Proofs
set_option maxRecDepth 100000
def setC (s : State) (i : Int) (x : CState) : State := { s with cells := s.cells.set i.toNat x }
theorem Rep.cell {s : State} {v : IV} {L1 L2 : PT} (r : Rep s v L1 L2) {i : Int} {x : CState} (hx : gt s.cells i = some x) :
    ∃ bc a, v = SV s a (.sl bc 0 s.cells.length) ∧ L2 = [(bc, some ⟨4, Zj, s.cells.map CState.c⟩)] ∧ Sl 12 Za a (s.tenants.map TState.c) L1 ∧ (s.cells.map CState.c)[i.toNat]? = some x.c ∧ 0 ≤ i ∧ i < (s.cells.length : Int) := by
  obtain ⟨a, b, rfl, l1, l2⟩ := r.ex
  have h1 := (gt_some.1 hx).2
  have h2 : (s.cells.map CState.c)[i.toNat]? = some x.c := by simp [h1]
  obtain ⟨bt, rfl, rfl, _⟩ := l2.at_ h2
  exact ⟨bt, a, by simp, rfl, l1, h2, gt_lt hx⟩
theorem Rep.setC {s : State} {bt : Nat} {a : IV} {L1 : PT} (l1 : Sl 12 Za a (s.tenants.map TState.c) L1) (i : Int) (x : CState) :
    Rep (setC s i x) (SV s a (.sl bt 0 s.cells.length)) L1 [(bt, some ⟨4, Zj, (s.cells.map CState.c).set i.toNat x.c⟩)] := by
  refine ⟨_, _, rfl, l1, ?_⟩
  have e1 : (s.cells.map CState.c).set i.toNat x.c = (s.cells.set i.toNat x).map CState.c := by simp [List.map_set]
  have e2 : s.cells.length = ((s.cells.set i.toNat x).map CState.c).length := by simp
  rw [e1]
  show Sl 4 _ _ ((Ideal.setC s i x).cells.map CState.c) _
  rw [e2]
  exact Sl.mk 4 _ bt _
section
variable {h0 h : Heap} {X L1 L2 M : PT} {rs : List PT}
theorem Own.dn3 (S : Own h0 (X :: L1 :: L2 :: M :: rs) h) : Own h0 (L1 :: L2 :: M :: X :: rs) h := S.perm (by
  simp only [List.flatten_cons, ← List.append_assoc]
  exact List.Perm.append_right _ (by rw [List.append_assoc X, List.append_assoc X]; exact List.perm_append_comm.symm))
end
def oth (s : State) (cell : Int) : Nat → Nat → Int
  | 0, _ => 0
  | n + 1, i => (if !decide ((i : Int) = cell) && openR s i then 1 else 0) + oth s cell n (i + 1)
def others (s : State) (cell : Int) : Int := oth s cell s.cells.length 0
def wantS (c : Config) (s : State) (e : Entry) (y : CState) (w : Version) : State × Int :=
  if y.wanted = e.num then err 4
  else if (decide (s.low < w.low) || decide (w.high < s.high)) = true then err 13
  else if (!decide (e.num = y.running) && !provenR s e.num && !decide (s.evacuating = 0)) = true then err 12
  else if (!decide (e.num = y.running) && !provenR s e.num && decide (c.blast ≤ others s e.cell)) = true then err 14
  else (setC s e.cell { y with wanted := e.num }, 0)
theorem Z60 {c : Config} {s : State} {e : Entry} {y : CState} {w : Version} (hm : Small c s) (hy : gt s.cells e.cell = some y) (hw : gt c.versions e.num = some w) :
    StT Z3K (fun v => [c.v, v, e.v]) s (wantS c s e y w) := by
  intro h0 h rs L1 L2 v K r S k
  refine ZQ.call ?_
  obtain ⟨bc, a, rfl, rfl, l1, hy', i0, ilt⟩ := r.cell hy
  refine S.box fun b1 h1 S1 => ?_
  refine S1.box fun b2 h2 S2 => ?_
  refine S2.box fun b3 h3 S3 => ?_
  refine S3.alloc ZH fun b4 h4 S4 => ?_
  have S5 := S4.six
  clear S S1 S2 S3 S4
  have g3 := S5.at3; have g2 := S5.at4; have g1 := S5.at5; have gc := S5.at1
  have ic := Z1a (k := .i64) (lo := 0) i0 ilt gc
  have qc := fun (o : Nat) (t : TypeId) => ld_p (P := PP) (o := o) t gc hy'
  obtain ⟨w0, hw'⟩ := gt_some.1 hw
  have iw : ∀ h, Zf PP ZI (.vs 2 (c.versions.map Version.c)) (.n e.num) h = some (.fptr w.c) := fun h => Z4c w0 (by simp [hw'])
  have zap : ∀ {A B C : PT}, (∀ h' M N, Own h0 (M :: N :: A :: B :: C :: rs) h' → Own h0 (M :: N :: rs) h') := fun _ _ _ S => ((S.del 2).del 2).del 2
  generalize hq : wantS c s e y w = q at k
  unfold wantS at hq
  try simp +contextual (disch := omega) [ZQ.j1g, ld_b g2, ld_b g3, ic, ZQ.j2g, ld_b g1, iw]
  refine S5.alloc Z2a fun b5 h5 S6 => ?_
  try simp +contextual (disch := omega)
  refine S6.put (new := w.c) rfl (by simp) rfl (by simp) fun h6 S7 => ?_
  have S8 := S7.dn3
  clear S5 S6 S7 g1 g2 g3 gc ic qc
  have g1 := S8.at6; have g2 := S8.at5; have g3 := S8.at4; have gw := S8.at3; have gc := S8.at1
  have ic := Z1a (k := .i64) (lo := 0) i0 ilt gc
  have qc := fun (o : Nat) (t : TypeId) => ld_p (P := PP) (o := o) t gc hy'
  have sc := hm.scells
  have loop : ∀ (n i : Nat) (acc : Int), n + i = s.cells.length → 0 ≤ acc → acc + n ≤ 1000 →
      ZQ.j7 K (.ptr b1 0 0) (.ptr b2 0 0) (.ptr b3 0 0) (.ptr b4 0 0) (.ptr bc e.cell.toNat 0) (.ptr b5 0 0) (.n (acc + oth s e.cell n i)) h6 →
      ZQ.l1 K (.ptr b1 0 0) (.ptr b2 0 0) (.ptr b3 0 0) (.ptr b4 0 0) (.ptr bc e.cell.toNat 0) (.ptr b5 0 0) (.n acc) (.n i) h6 := by
    intro n
    induction n with
    | zero =>
      intro i acc hi ha hb kk
      refine ZQ.l1_round ?_
      have : i = s.cells.length := by omega
      simp +contextual (disch := omega) [ZQ.b1g, ld_b g2, this]
      simpa [oth] using kk
    | succ n ih =>
      intro i acc hi ha hb kk
      refine ZQ.l1_round ?_
      have hlt : i < s.cells.length := by omega
      obtain ⟨x, hx⟩ : ∃ x, s.cells[i]? = some x := ⟨_, List.getElem?_eq_getElem hlt⟩
      simp only [oth] at kk
      simp +contextual (disch := omega) [ZQ.b1g, ld_b g2, hlt, ZQ.j5g, ld_b g3]
      refine callB_lend (fun _ => Z5O s (cell := (i : Int)) (x := x) (by rw [gt_nat]; exact hx)) rfl (fz_sn r S8 i) ?_
      simp +contextual (disch := omega)
      refine bK'_b (fun hc => ?_) (fun hc => ?_)
      · rw [if_pos hc] at kk
        simp +contextual (disch := omega) [ZQ.j6g, w64]
        refine ih (i + 1) (acc + 1) (by omega) (by omega) (by omega) ?_
        rw [show acc + 1 + oth s e.cell n (i + 1) = acc + (1 + oth s e.cell n (i + 1)) by omega]
        exact kk
      · rw [if_neg (by simp [hc])] at kk
        simp +contextual (disch := omega) [ZQ.j6g, w64]
        refine ih (i + 1) acc (by omega) (by omega) (by omega) ?_
        simpa using kk
  try simp +contextual (disch := omega) [ZQ.j3g, ZQ.j4g]
  refine loop s.cells.length 0 0 (by omega) (by omega) (by omega) ?_
  clear loop
  have zap : ∀ {A B C D : PT}, (∀ h' M N, Own h0 (M :: N :: A :: B :: C :: D :: rs) h' → Own h0 (M :: N :: rs) h') := fun _ _ _ S => (((S.del 2).del 2).del 2).del 2
  rw [show (0 : Int) + oth s e.cell s.cells.length 0 = others s e.cell by simp [others]]
  simp +contextual (disch := omega) [ZQ.j7g, ld_b g3, qc, ZQ.j8]
  by_cases h1 : y.wanted = e.num
  · rw [if_pos h1] at hq
    subst q
    simp +contextual (disch := omega) [h1, ZQ.j9g]
    first | exact no_tail S8 rfl zap k | exact no_tail' S8 rfl zap k
  rw [if_neg h1] at hq
  simp +contextual (disch := omega) [h1, ZQ.j10g, ld_b g2, ld_b gw, ZQ.j11]
  refine bK'_b (fun hc => ?_) (fun hc => ?_)
  · rw [if_pos hc] at hq
    subst q
    simp +contextual (disch := omega) [ZQ.j12g]
    first | exact no_tail S8 rfl zap k | exact no_tail' S8 rfl zap k
  rw [if_neg (by simp [hc])] at hq
  simp +contextual (disch := omega) [ZQ.j13g, ld_b g2, ld_b g3, qc]
  refine callB_lend (fun _ => Z2s s e.num) rfl (fz_sn r S8 e.num) ?_
  simp +contextual (disch := omega) [ZQ.j14, ld_b g2, -Bool.not_or, -Bool.not_and]
  refine bK'_b (fun hc => ?_) (fun hc => ?_)
  · rw [if_pos hc] at hq
    subst q
    simp +contextual (disch := omega) [ZQ.j15g]
    first | exact no_tail S8 rfl zap k | exact no_tail' S8 rfl zap k
  rw [if_neg (by simp [hc])] at hq
  simp +contextual (disch := omega) [ZQ.j16g, ld_b g2, ld_b g3, qc]
  refine callB_lend (fun _ => Z2s s e.num) rfl (fz_sn r S8 e.num) ?_
  simp +contextual (disch := omega) [ZQ.j17, ld_b g1, -Bool.not_or, -Bool.not_and]
  refine bK'_b (fun hc => ?_) (fun hc => ?_)
  · rw [if_pos hc] at hq
    subst q
    first | exact no_tail S8 rfl zap k | exact no_tail' S8 rfl zap k
  rw [if_neg (by simp [hc])] at hq
  subst q
  simp +contextual (disch := omega) [ZQ.j17, ld_b g3]
  refine S8.swap.storeE hy' rfl (by simp) (by simp) (by simp [oneI]) fun h7 S9 => ?_
  have g2 := S9.at5
  try simp +contextual (disch := omega) [ld_b g2]
  refine S9.up2.put (new := svc s a (.sl bc 0 s.cells.length)) rfl (by simp) rfl (svc_ones s a _ l1.one.2 rfl) fun h8 S10 => ?_
  have g4 := S10.at0
  try simp +contextual (disch := omega) [ld_b g4]
  have rr := Rep.setC (bt := bc) l1 e.cell { y with wanted := e.num }
  exact k _ _ _ _ rr (zap _ _ _ S10.drop.swap)
end Go.Ideal
namespace Go.Ideal
open Go.Proofs
set_option maxRecDepth 100000
section
variable {h0 h : Heap} {X L1 L2 M : PT} {rs : List PT}
theorem Own.dn2 (S : Own h0 (X :: L1 :: L2 :: rs) h) : Own h0 (L1 :: L2 :: X :: rs) h := S.perm (by
  simp only [List.flatten_cons, ← List.append_assoc]
  exact List.Perm.append_right _ (by rw [List.append_assoc X]; exact List.perm_append_comm.symm))
end
theorem any_drop {α : Type} (p : α → Bool) {l : List α} {i : Nat} {x : α} (h : l[i]? = some x) : (l.drop i).any p = (p x || (l.drop (i + 1)).any p) := by
  obtain ⟨hi, hx⟩ := List.getElem?_eq_some_iff.1 h
  rw [List.drop_eq_getElem_cons hi, hx]; simp
def busyW (s : State) (e : Entry) (x : TState) : Bool := decide (x.window.cell = e.cell) && decide (e.tick < x.window.till)
def runsS (s : State) (e : Entry) (y : CState) : State × Int :=
  if (!decide (e.num = y.wanted) || decide (y.running = y.wanted)) = true then err 4
  else if (!provenR s e.num && !decide (s.evacuating = 0)) = true then err 12
  else if s.tenants.any (busyW s e) = true then err 9
  else (setC s e.cell { y with running := e.num, since := e.tick }, 0)
theorem Z61 {s : State} {e : Entry} {y : CState} (hm : (s.tenants.length : Int) ≤ 1000) (hy : gt s.cells e.cell = some y) :
    StT Z3L (fun v => [v, e.v]) s (runsS s e y) := by
  intro h0 h rs L1 L2 v K r S k
  refine Z19.call ?_
  obtain ⟨bc, a, rfl, rfl, l1, hy', i0, ilt⟩ := r.cell hy
  refine S.box fun b2 h2 S2 => ?_
  refine S2.box fun b3 h3 S3 => ?_
  refine S3.alloc ZH fun b4 h4 S4 => ?_
  have S5 := S4.five
  clear S S2 S3 S4
  have zap : ∀ {A B : PT}, (∀ h' M N, Own h0 (M :: N :: A :: B :: rs) h' → Own h0 (M :: N :: rs) h') := fun _ _ _ S => (S.del 2).del 2
  generalize hq : runsS s e y = q at k
  unfold runsS at hq
  have g3 := S5.at3; have g2 := S5.at4; have gc := S5.at1
  have ic := Z1a (k := .i64) (lo := 0) i0 ilt gc
  have qc := fun (o : Nat) (t : TypeId) => ld_p (P := PP) (o := o) t gc hy'
  simp +contextual (disch := omega) [Z19.j1g, Z19.j2g, ld_b g2, ld_b g3, ic, qc, Z19.j3]
  refine bK'_b (fun hc => ?_) (fun hc => ?_)
  · rw [if_pos hc] at hq
    subst q
    simp +contextual (disch := omega) [Z19.j4g]
    first | exact no_tail S5 rfl zap k | exact no_tail' S5 rfl zap k
  rw [if_neg (by simp [hc])] at hq
  simp +contextual (disch := omega) [Z19.j5g, ld_b g2, ld_b g3]
  refine Fun.lend (Z2s s e.num) rfl (fz_sn r S5 e.num) ?_
  simp +contextual (disch := omega) [ld_b g2]
  refine bK'_b (fun hc => ?_) (fun hc => ?_)
  · rw [if_pos hc] at hq
    subst q
    first | exact no_tail S5 rfl zap k | exact no_tail' S5 rfl zap k
  rw [if_neg (by simp [hc])] at hq
  clear g2 g3 gc ic qc
  have loop : ∀ (n i : Nat) (h5 : Heap), n + i = s.tenants.length → Own h0 (L1 :: [(bc, some ⟨4, Zj, s.cells.map CState.c⟩)] :: [(b4, some ⟨8, Z3, [svc emptyS .snil .snil]⟩)] :: [(b3, some ⟨9, Z8, [e.c]⟩)] :: [(b2, some ⟨8, Z3, [svc s a (.sl bc 0 s.cells.length)]⟩)] :: rs) h5 →
      ((s.tenants.drop i).any (busyW s e) = s.tenants.any (busyW s e)) →
      Z19.l1 K (.ptr b2 0 0) (.ptr b3 0 0) (.ptr b4 0 0) (.ptr bc e.cell.toNat 0) (.n i) h5 := by
    intro n
    induction n with
    | zero =>
      intro i h5 hi S5 ha
      refine Z19.l1_round ?_
      have g3 := S5.at3; have g2 := S5.at4; have gc := S5.at1
      have ic := Z1a (k := .i64) (lo := 0) i0 ilt gc
      have qc := fun (o : Nat) (t : TypeId) => ld_p (P := PP) (o := o) t gc hy'
      have : i = s.tenants.length := by omega
      rw [this, List.drop_length] at ha
      rw [← ha, if_neg (by simp)] at hq
      subst q
      simp +contextual (disch := omega) [Z19.b1g, ld_b g2, this, l1.len Z29, Z19.j9, ld_b g3]
      refine S5.swap.storeE hy' rfl (by simp) (by simp) (by simp [oneI]) fun h6 S6 => ?_
      have g2 := S6.at4; have g3 := S6.at3
      have hy6 := set_at (y := splice 1 [.n e.num] y.c) hy'
      try simp +contextual (disch := omega) [ld_b g2, ld_b g3, Zb]
      refine S6.storeE hy6 rfl (by simp) (by simp) (by simp [oneI]) fun h7 S7 => ?_
      have g2 := S7.at4
      rw [set_set] at S7
      try simp +contextual (disch := omega) [ld_b g2]
      refine S7.up2.put (new := svc s a (.sl bc 0 s.cells.length)) rfl (by simp) rfl (svc_ones s a _ l1.one.2 rfl) fun h8 S8 => ?_
      have g4 := S8.at0
      try simp +contextual (disch := omega) [ld_b g4]
      have rr := Rep.setC (bt := bc) l1 e.cell { y with running := e.num, since := e.tick }
      exact k _ _ _ _ rr (zap _ _ _ S8.drop.swap)
    | succ n ih =>
      intro i h5 hi S5 ha
      refine Z19.l1_round ?_
      have hlt : i < s.tenants.length := by omega
      obtain ⟨x, hx⟩ : ∃ x, s.tenants[i]? = some x := ⟨_, List.getElem?_eq_getElem hlt⟩
      have hx2 : (s.tenants.map TState.c)[i]? = some x.c := by simp [hx]
      have g3 := S5.at3; have g2 := S5.at4
      obtain ⟨bt, ea, rfl, _⟩ := l1.at_ hx2
      subst ea
      have gt' := S5.at0
      have it := Z1C (k := .i64) (lo := 0) (i := (i : Int)) (len := s.tenants.length) (by omega) (by omega) gt'
      have qt := fun (o : Nat) (t : TypeId) => ld_p (P := PP) (o := o) t gt' hx2
      simp +contextual (disch := omega) [Z19.b1g, ld_b g2, hlt, Z19.j7g, it, qt]
      refine S5.alloc Z20 fun b5 h6 S6 => ?_
      try simp +contextual (disch := omega)
      refine S6.put (new := x.window.c) rfl (by simp) rfl (by simp) fun h7 S7 => ?_
      have gw := S7.at0
      have S8 := S7.dn3
      clear gt' it qt g2 g3
      have g3 := S8.at4; have g2 := S8.at5
      simp +contextual (disch := omega) [ld_b g2, ld_b g3, ld_b gw]
      refine bK'_b (fun hc => ?_) (fun hc => ?_)
      · have hb : s.tenants.any (busyW s e) = true := List.any_eq_true.2 ⟨x, List.mem_of_getElem? hx, hc⟩
        rw [if_pos hb] at hq
        subst q
        have zap : ∀ {A B C : PT}, (∀ h' M N, Own h0 (M :: N :: A :: B :: C :: rs) h' → Own h0 (M :: N :: rs) h') := fun _ _ _ S => ((S.del 2).del 2).del 2
        first | exact no_tail S8 rfl zap k | exact no_tail' S8 rfl zap k
      · simp +contextual (disch := omega) [Z19.j8g, w64]
        refine ih (i + 1) _ (by omega) S7.drop ?_
        rw [← ha, any_drop _ hx, show busyW s e x = false from hc]; simp
  try simp +contextual (disch := omega) [Z19.j6g]
  refine loop s.tenants.length 0 h4 (by omega) S5 (by simp)
end Go.Ideal
namespace Go.Ideal
def factsP (h : Heap) : PT → Prop
  | [] => True
  | p :: l => h[p.1]? = some p.2 ∧ factsP h l
def factsL (h : Heap) : List PT → Prop
  | [] => True
  | L :: rs => factsP h L ∧ factsL h rs
theorem factsP_of {h : Heap} : ∀ {L : PT}, (∀ p ∈ L, h[p.1]? = some p.2) → factsP h L
  | [], _ => trivial
  | p :: l, k => ⟨k p (by simp), factsP_of fun q hq => k q (by simp [hq])⟩
theorem factsL_of {h : Heap} : ∀ {rs : List PT}, (∀ p ∈ rs.flatten, h[p.1]? = some p.2) → factsL h rs
  | [], _ => trivial
  | L :: rs, k => ⟨factsP_of fun p hp => k p (by simp [hp]), factsL_of fun q hq => k q (by rw [List.flatten_cons]; exact List.mem_append_right _ hq)⟩
theorem Own.facts {h0 h : Heap} {rs : List PT} (S : Own h0 rs h) : factsL h rs := factsL_of fun p hp => (S.get p hp).2
def ldB (P : Program) (t : TypeId) (i o : Nat) (x : Option (Option Blk)) : Option IV := match x with
  | some (some k) => match k.es[i]? with
    | some e => ldI (agO P t) (szO P t) (e.drop o)
    | none => none
  | _ => none
theorem ld_pb {P : Program} {t : TypeId} {b i o : Nat} {h : Heap} : Z1 P t (.ptr b i o) h = ldB P t i o h[b]? := by
  unfold ldB
  cases e : h[b]? with
  | none =>
    unfold Z1 cellsOf
    simp only [e]
    try (cases agO P t with
      | none => rfl
      | some a => cases a <;> cases szO P t <;> rfl)
  | some x =>
    cases x with
    | none =>
      unfold Z1 cellsOf
      simp only [e]
      try (cases agO P t with
        | none => rfl
        | some a => cases a <;> cases szO P t <;> rfl)
    | some k =>
      cases e2 : k.es[i]? with
      | none =>
        unfold Z1 cellsOf
        simp only [e, e2]
        try (cases agO P t with
          | none => rfl
          | some a => cases a <;> cases szO P t <;> rfl)
      | some c => simp only [e2]; exact ld_p t e e2
@[simp] theorem ldB_one {P : Program} {t n T : Nat} {o : Nat} {cs : List IV} : ldB P t 0 o (some (some ⟨n, T, [cs]⟩)) = ldI (agO P t) (szO P t) (cs.drop o) := Zc rfl
theorem ldB_gen {P : Program} {t n T i : Nat} {o : Nat} {es : List (List IV)} : ldB P t i o (some (some ⟨n, T, es⟩)) = (es[i]?).bind fun c => ldI (agO P t) (szO P t) (c.drop o) := by
  show (match es[i]? with | some e => ldI (agO P t) (szO P t) (e.drop o) | none => none) = _
  cases es[i]? <;> rfl
def ixB (n : Option Nat) (b lo len : Nat) (i : Int) (x : Option (Option Blk)) : Option IV := match n, x with
  | some n, some (some k) => if 0 ≤ i ∧ i < len ∧ k.size = n then some (.ptr b (lo + i.toNat) 0) else none
  | _, _ => none
theorem ix_sb {P : Program} {t : TypeId} {b lo len : Nat} {k : IntKind} {i : Int} {h : Heap} : Zf P t (.sl b lo len) (.int k i) h = ixB ((elO P t).bind (szO P)) b lo len i h[b]? := by
  unfold Zf ixB
  cases (elO P t).bind (szO P) with
  | none => rfl
  | some n =>
    cases e : h[b]? with
    | none => simp only [e]; split <;> rfl
    | some x =>
      cases x with
      | none => simp only [e]; split <;> rfl
      | some k =>
        simp only [e]
        by_cases h0 : 0 ≤ i ∧ i < (len : Int)
        · rw [if_pos h0]
          by_cases h1 : k.size = n
          · rw [if_pos h1, if_pos ⟨h0.1, h0.2, h1⟩]
          · rw [if_neg h1, if_neg fun h => h1 h.2.2]
        · rw [if_neg h0, if_neg fun h => h0 ⟨h.1, h.2.1⟩]
@[simp] theorem ixB_one {n b lo len T : Nat} {i : Int} {es : List (List IV)} (h0 : 0 ≤ i) (h1 : i < len) : ixB (some n) b lo len i (some (some ⟨n, T, es⟩)) = some (.ptr b (lo + i.toNat) 0) := by
  simp [ixB, h0, h1]
def ixV (n : Option Nat) (s : Nat) (i : Int) (x : Option (List IV)) : Option IV := match n, x with
  | some n, some e => if 0 ≤ i ∧ s = n then some (.fptr e) else none
  | _, _ => none
theorem ix_vs {P : Program} {t : TypeId} {s : Nat} {es : List (List IV)} {k : IntKind} {i : Int} {h : Heap} : Zf P t (.vs s es) (.int k i) h = ixV ((elO P t).bind (szO P)) s i es[i.toNat]? := by
  unfold Zf ixV
  cases (elO P t).bind (szO P) with
  | none => rfl
  | some n =>
    cases e : es[i.toNat]? with
    | none => simp only [e, Option.map_none]; split <;> rfl
    | some e => simp only [e, Option.map_some]
@[simp] theorem ixV_one {n : Nat} {i : Int} {e : List IV} (h0 : 0 ≤ i) : ixV (some n) n i (some e) = some (.fptr e) := by
  simp [ixV, h0]
section
variable {P : Program} {h0 h : Heap} {r : PT} {rs : List PT} {KP : Heap → Prop} {n T t b o i : Nat} {x : IV} {e c cs new : List IV} {es : List (List IV)} {k : Option Blk}
variable {A0 A1 A2 A3 A4 A5 A6 A7 A8 A9 A10 A11 A12 : PT}
theorem flat_mv {α : Type} : ∀ {rs : List (List α)} {i : Nat} {L : List α}, rs[i]? = some L → rs.flatten.Perm (L :: rs.eraseIdx i).flatten
  | _ :: _, 0, _, h => by simp at h; subst h; simp
  | M :: rs, i + 1, L, h => by
    simp at h
    have := flat_mv h
    simp only [List.flatten_cons, List.eraseIdx_cons_succ] at this ⊢
    refine (List.Perm.append_left M this).trans ?_
    rw [← List.append_assoc, ← List.append_assoc]
    exact List.Perm.append_right _ List.perm_append_comm
theorem Own.mv {L : PT} (S : Own h0 rs h) (i : Nat) (hi : rs[i]? = some L) : Own h0 (L :: rs.eraseIdx i) h := S.perm (flat_mv hi).symm
theorem Own.seM {α : Type} {f : α → List IV} {l : List α} {y y' : α} (S : Own h0 (((b, some ⟨n, T, l.map f⟩) :: r) :: rs) h) (hc : l[i]? = some y) (hx : ZC x = some new) (hs : szO P t = some new.length) (hl : o + new.length ≤ (f y).length) (ho : new.all oneI = true) (e : splice o new (f y) = f y')
    (k : ∀ h', Own h0 (((b, some ⟨n, T, (l.set i y').map f⟩) :: r) :: rs) h' → KP h') : oS (Z9 P t (.ptr b i o) x h) h KP := by
  refine S.storeE (c := f y) (by simp [hc]) hx hs hl ho fun h' S' => k h' ?_
  rw [e] at S'
  rw [List.map_set]
  exact S'
theorem Own.st0 (S : Own h0 (((b, some ⟨n, T, [cs]⟩) :: r) :: rs) h) (hx : ZC x = some new) (hs : szO P t = some new.length) (hl : o + new.length ≤ cs.length) (ho : new.all oneI = true) (k : ∀ h', Own h0 (((b, some ⟨n, T, [splice o new cs]⟩) :: r) :: rs) h' → KP h') : oS (Z9 P t (.ptr b 0 o) x h) h KP := by
  refine (S.mv 0 rfl).store hx hs hl ho fun h' S' => k h' (S'.perm ?_)
  exact (flat_mv (rs := (((b, some ⟨n, T, [splice o new cs]⟩) :: r) :: rs)) (i := 0) rfl)
theorem Own.pu0 (S : Own h0 (((b, some ⟨n, T, [cs]⟩) :: r) :: rs) h) (hx : ZC x = some new) (hs : szO P t = some new.length) (hl : new.length = cs.length) (ho : new.all oneI = true) (k : ∀ h', Own h0 (((b, some ⟨n, T, [new]⟩) :: r) :: rs) h' → KP h') : oS (Z9 P t (.ptr b 0 0) x h) h KP := by
  refine (S.mv 0 rfl).put hx hs hl ho fun h' S' => k h' (S'.perm ?_)
  exact (flat_mv (rs := (((b, some ⟨n, T, [new]⟩) :: r) :: rs)) (i := 0) rfl)
theorem Own.dp0 (S : Own h0 (r :: rs) h) : Own h0 (rs) h := S.del 0
theorem Own.st1 (S : Own h0 (A0 :: ((b, some ⟨n, T, [cs]⟩) :: r) :: rs) h) (hx : ZC x = some new) (hs : szO P t = some new.length) (hl : o + new.length ≤ cs.length) (ho : new.all oneI = true) (k : ∀ h', Own h0 (A0 :: ((b, some ⟨n, T, [splice o new cs]⟩) :: r) :: rs) h' → KP h') : oS (Z9 P t (.ptr b 0 o) x h) h KP := by
  refine (S.mv 1 rfl).store hx hs hl ho fun h' S' => k h' (S'.perm ?_)
  exact (flat_mv (rs := (A0 :: ((b, some ⟨n, T, [splice o new cs]⟩) :: r) :: rs)) (i := 1) rfl)
theorem Own.pu1 (S : Own h0 (A0 :: ((b, some ⟨n, T, [cs]⟩) :: r) :: rs) h) (hx : ZC x = some new) (hs : szO P t = some new.length) (hl : new.length = cs.length) (ho : new.all oneI = true) (k : ∀ h', Own h0 (A0 :: ((b, some ⟨n, T, [new]⟩) :: r) :: rs) h' → KP h') : oS (Z9 P t (.ptr b 0 0) x h) h KP := by
  refine (S.mv 1 rfl).put hx hs hl ho fun h' S' => k h' (S'.perm ?_)
  exact (flat_mv (rs := (A0 :: ((b, some ⟨n, T, [new]⟩) :: r) :: rs)) (i := 1) rfl)
theorem Own.fi1 (S : Own h0 (A0 :: ((b, none) :: r) :: rs) h) (k : Option Blk) : Own h0 (A0 :: ((b, k) :: r) :: rs) (h.set b k) := (((S.mv 1 rfl).set k).perm (flat_mv (rs := (A0 :: ((b, k) :: r) :: rs)) (i := 1) rfl))
theorem Own.dp1 (S : Own h0 (A0 :: r :: rs) h) : Own h0 (A0 :: rs) h := S.del 1
theorem Own.st2 (S : Own h0 (A0 :: A1 :: ((b, some ⟨n, T, [cs]⟩) :: r) :: rs) h) (hx : ZC x = some new) (hs : szO P t = some new.length) (hl : o + new.length ≤ cs.length) (ho : new.all oneI = true) (k : ∀ h', Own h0 (A0 :: A1 :: ((b, some ⟨n, T, [splice o new cs]⟩) :: r) :: rs) h' → KP h') : oS (Z9 P t (.ptr b 0 o) x h) h KP := by
  refine (S.mv 2 rfl).store hx hs hl ho fun h' S' => k h' (S'.perm ?_)
  exact (flat_mv (rs := (A0 :: A1 :: ((b, some ⟨n, T, [splice o new cs]⟩) :: r) :: rs)) (i := 2) rfl)
theorem Own.pu2 (S : Own h0 (A0 :: A1 :: ((b, some ⟨n, T, [cs]⟩) :: r) :: rs) h) (hx : ZC x = some new) (hs : szO P t = some new.length) (hl : new.length = cs.length) (ho : new.all oneI = true) (k : ∀ h', Own h0 (A0 :: A1 :: ((b, some ⟨n, T, [new]⟩) :: r) :: rs) h' → KP h') : oS (Z9 P t (.ptr b 0 0) x h) h KP := by
  refine (S.mv 2 rfl).put hx hs hl ho fun h' S' => k h' (S'.perm ?_)
  exact (flat_mv (rs := (A0 :: A1 :: ((b, some ⟨n, T, [new]⟩) :: r) :: rs)) (i := 2) rfl)
theorem Own.dp2 (S : Own h0 (A0 :: A1 :: r :: rs) h) : Own h0 (A0 :: A1 :: rs) h := S.del 2
theorem Own.st3 (S : Own h0 (A0 :: A1 :: A2 :: ((b, some ⟨n, T, [cs]⟩) :: r) :: rs) h) (hx : ZC x = some new) (hs : szO P t = some new.length) (hl : o + new.length ≤ cs.length) (ho : new.all oneI = true) (k : ∀ h', Own h0 (A0 :: A1 :: A2 :: ((b, some ⟨n, T, [splice o new cs]⟩) :: r) :: rs) h' → KP h') : oS (Z9 P t (.ptr b 0 o) x h) h KP := by
  refine (S.mv 3 rfl).store hx hs hl ho fun h' S' => k h' (S'.perm ?_)
  exact (flat_mv (rs := (A0 :: A1 :: A2 :: ((b, some ⟨n, T, [splice o new cs]⟩) :: r) :: rs)) (i := 3) rfl)
theorem Own.pu4 (S : Own h0 (A0 :: A1 :: A2 :: A3 :: ((b, some ⟨n, T, [cs]⟩) :: r) :: rs) h) (hx : ZC x = some new) (hs : szO P t = some new.length) (hl : new.length = cs.length) (ho : new.all oneI = true) (k : ∀ h', Own h0 (A0 :: A1 :: A2 :: A3 :: ((b, some ⟨n, T, [new]⟩) :: r) :: rs) h' → KP h') : oS (Z9 P t (.ptr b 0 0) x h) h KP := by
  refine (S.mv 4 rfl).put hx hs hl ho fun h' S' => k h' (S'.perm ?_)
  exact (flat_mv (rs := (A0 :: A1 :: A2 :: A3 :: ((b, some ⟨n, T, [new]⟩) :: r) :: rs)) (i := 4) rfl)
theorem Own.pu5 (S : Own h0 (A0 :: A1 :: A2 :: A3 :: A4 :: ((b, some ⟨n, T, [cs]⟩) :: r) :: rs) h) (hx : ZC x = some new) (hs : szO P t = some new.length) (hl : new.length = cs.length) (ho : new.all oneI = true) (k : ∀ h', Own h0 (A0 :: A1 :: A2 :: A3 :: A4 :: ((b, some ⟨n, T, [new]⟩) :: r) :: rs) h' → KP h') : oS (Z9 P t (.ptr b 0 0) x h) h KP := by
  refine (S.mv 5 rfl).put hx hs hl ho fun h' S' => k h' (S'.perm ?_)
  exact (flat_mv (rs := (A0 :: A1 :: A2 :: A3 :: A4 :: ((b, some ⟨n, T, [new]⟩) :: r) :: rs)) (i := 5) rfl)
theorem Own.dp7 (S : Own h0 (A0 :: A1 :: A2 :: A3 :: A4 :: A5 :: A6 :: r :: rs) h) : Own h0 (A0 :: A1 :: A2 :: A3 :: A4 :: A5 :: A6 :: rs) h := S.del 7
theorem Own.m1 (S : Own h0 (A0 :: A1 :: rs) h) : Own h0 (A1 :: A0 :: rs) h := S.mv 1 rfl
theorem Own.b1 (S : Own h0 (A1 :: A0 :: rs) h) : Own h0 (A0 :: A1 :: rs) h := S.perm (flat_mv (rs := A0 :: A1 :: rs) (i := 1) rfl)
theorem Own.b2 (S : Own h0 (A2 :: A0 :: A1 :: rs) h) : Own h0 (A0 :: A1 :: A2 :: rs) h := S.perm (flat_mv (rs := A0 :: A1 :: A2 :: rs) (i := 2) rfl)
theorem Own.m3 (S : Own h0 (A0 :: A1 :: A2 :: A3 :: rs) h) : Own h0 (A3 :: A0 :: A1 :: A2 :: rs) h := S.mv 3 rfl
theorem Own.m4 (S : Own h0 (A0 :: A1 :: A2 :: A3 :: A4 :: rs) h) : Own h0 (A4 :: A0 :: A1 :: A2 :: A3 :: rs) h := S.mv 4 rfl
theorem Own.b4 (S : Own h0 (A4 :: A0 :: A1 :: A2 :: A3 :: rs) h) : Own h0 (A0 :: A1 :: A2 :: A3 :: A4 :: rs) h := S.perm (flat_mv (rs := A0 :: A1 :: A2 :: A3 :: A4 :: rs) (i := 4) rfl)
theorem Own.m5 (S : Own h0 (A0 :: A1 :: A2 :: A3 :: A4 :: A5 :: rs) h) : Own h0 (A5 :: A0 :: A1 :: A2 :: A3 :: A4 :: rs) h := S.mv 5 rfl
theorem Own.b5 (S : Own h0 (A5 :: A0 :: A1 :: A2 :: A3 :: A4 :: rs) h) : Own h0 (A0 :: A1 :: A2 :: A3 :: A4 :: A5 :: rs) h := S.perm (flat_mv (rs := A0 :: A1 :: A2 :: A3 :: A4 :: A5 :: rs) (i := 5) rfl)
theorem Own.m6 (S : Own h0 (A0 :: A1 :: A2 :: A3 :: A4 :: A5 :: A6 :: rs) h) : Own h0 (A6 :: A0 :: A1 :: A2 :: A3 :: A4 :: A5 :: rs) h := S.mv 6 rfl
theorem Own.b6 (S : Own h0 (A6 :: A0 :: A1 :: A2 :: A3 :: A4 :: A5 :: rs) h) : Own h0 (A0 :: A1 :: A2 :: A3 :: A4 :: A5 :: A6 :: rs) h := S.perm (flat_mv (rs := A0 :: A1 :: A2 :: A3 :: A4 :: A5 :: A6 :: rs) (i := 6) rfl)
theorem Own.m7 (S : Own h0 (A0 :: A1 :: A2 :: A3 :: A4 :: A5 :: A6 :: A7 :: rs) h) : Own h0 (A7 :: A0 :: A1 :: A2 :: A3 :: A4 :: A5 :: A6 :: rs) h := S.mv 7 rfl
theorem Own.b7 (S : Own h0 (A7 :: A0 :: A1 :: A2 :: A3 :: A4 :: A5 :: A6 :: rs) h) : Own h0 (A0 :: A1 :: A2 :: A3 :: A4 :: A5 :: A6 :: A7 :: rs) h := S.perm (flat_mv (rs := A0 :: A1 :: A2 :: A3 :: A4 :: A5 :: A6 :: A7 :: rs) (i := 7) rfl)
theorem Own.m8 (S : Own h0 (A0 :: A1 :: A2 :: A3 :: A4 :: A5 :: A6 :: A7 :: A8 :: rs) h) : Own h0 (A8 :: A0 :: A1 :: A2 :: A3 :: A4 :: A5 :: A6 :: A7 :: rs) h := S.mv 8 rfl
theorem Own.b8 (S : Own h0 (A8 :: A0 :: A1 :: A2 :: A3 :: A4 :: A5 :: A6 :: A7 :: rs) h) : Own h0 (A0 :: A1 :: A2 :: A3 :: A4 :: A5 :: A6 :: A7 :: A8 :: rs) h := S.perm (flat_mv (rs := A0 :: A1 :: A2 :: A3 :: A4 :: A5 :: A6 :: A7 :: A8 :: rs) (i := 8) rfl)
theorem Own.m9 (S : Own h0 (A0 :: A1 :: A2 :: A3 :: A4 :: A5 :: A6 :: A7 :: A8 :: A9 :: rs) h) : Own h0 (A9 :: A0 :: A1 :: A2 :: A3 :: A4 :: A5 :: A6 :: A7 :: A8 :: rs) h := S.mv 9 rfl
end
end Go.Ideal
namespace Go.Ideal
open Go.Proofs
set_option maxRecDepth 100000
def shl1 (n : Int) : Int := IntKind.i64.wrap (1 * 2 ^ (min n.toNat 64))
def orI (a b : Int) : Int := IntKind.i64.wrap (BitVec.ofInt 64 a ||| BitVec.ofInt 64 b).toNat
def xorI (a b : Int) : Int := IntKind.i64.wrap (BitVec.ofInt 64 a ^^^ BitVec.ofInt 64 b).toNat
theorem ar_shl1 {k : IntKind} {b : Int} (h0 : 0 ≤ b) : arithI .shl .i64 1 k b = some (.int .i64 (shl1 b)) := by simp [arithI, h0, shl1]; rfl
theorem ar_or (a b : Int) : arithI .or .i64 a .i64 b = some (.int .i64 (orI a b)) := by simp [arithI, orI]; rfl
theorem ar_xor (a b : Int) : arithI .xor .i64 a .i64 b = some (.int .i64 (xorI a b)) := by simp [arithI, xorI]; rfl
def bakedB (c : Config) (e : Entry) (x : CState) : Bool := !decide (x.mode = 3) && decide (x.running = e.num) && decide (x.wanted = e.num) && decide (c.bake ≤ e.tick - x.since)
def proveS (c : Config) (s : State) (e : Entry) : State × Int :=
  if provenR s e.num = true then err 4
  else if s.cells.any (bakedB c e) = true then ({ s with proven := orI s.proven (shl1 e.num) }, 0)
  else err 15
theorem Z62 {c : Config} {s : State} {e : Entry} (hm : Small c s) (h0n : 0 ≤ e.num ∧ e.num < 64) (he : EBd e) (hs : ∀ x ∈ s.cells, -1099511627776 ≤ x.since ∧ x.since ≤ 1099511627776) :
    StT Z3M (fun v => [c.v, v, e.v]) s (proveS c s e) := by
  intro h0 h rs L1 L2 v K r S k
  have eb := he.tick
  refine Z1x.call ?_
  obtain ⟨a, b, rfl, l1, l2⟩ := r.ex
  refine S.box fun b1 h1 S1 => ?_
  refine S1.box fun b2 h2 S2 => ?_
  refine S2.box fun b3 h3 S3 => ?_
  refine S3.alloc ZH fun b4 h4 S4 => ?_
  have S5 := S4.six
  clear S S1 S2 S3 S4
  have zap : ∀ {A B C : PT}, (∀ h' M N, Own h0 (M :: N :: A :: B :: C :: rs) h' → Own h0 (M :: N :: rs) h') := fun _ _ _ S => ((S.del 2).del 2).del 2
  generalize hq : proveS c s e = q at k
  unfold proveS at hq
  have g3 := S5.at3; have g2 := S5.at4
  try simp +contextual (disch := omega) [Z1x.j1g, ld_b g2, ld_b g3]
  refine Fun.lend (Z2s s e.num) rfl (fz_sn r S5 e.num) ?_
  try simp +contextual (disch := omega)
  refine bK'_b (fun hc => ?_) (fun hc => ?_)
  · rw [if_pos hc] at hq
    subst q
    first | exact no_tail S5 rfl zap k | exact no_tail' S5 rfl zap k
  rw [if_neg (by simp [hc])] at hq
  clear g2 g3
  have sc := hm.scells
  have loop : ∀ (n i : Nat) (h5 : Heap), n + i = s.cells.length → Own h0 (L1 :: L2 :: [(b4, some ⟨8, Z3, [svc emptyS .snil .snil]⟩)] :: [(b3, some ⟨9, Z8, [e.c]⟩)] :: [(b2, some ⟨8, Z3, [svc s a b]⟩)] :: [(b1, some ⟨10, Z6, [c.c]⟩)] :: rs) h5 →
      ((s.cells.drop i).any (bakedB c e) = s.cells.any (bakedB c e)) →
      Z1x.l1 K (.ptr b1 0 0) (.ptr b2 0 0) (.ptr b3 0 0) (.ptr b4 0 0) (.n i) h5 := by
    intro n
    induction n with
    | zero =>
      intro i h5 hi S5 ha
      refine Z1x.l1_round ?_
      have g3 := S5.at3; have g2 := S5.at4
      have : i = s.cells.length := by omega
      rw [this, List.drop_length] at ha
      rw [← ha, if_neg (by simp)] at hq
      subst q
      simp +contextual (disch := omega) [Z1x.b1g, ld_b g2, this, l2.len Z4T, Z1x.j5]
      first | exact no_tail S5 rfl zap k | exact no_tail' S5 rfl zap k
    | succ n ih =>
      intro i h5 hi S5 ha
      refine Z1x.l1_round ?_
      have hlt : i < s.cells.length := by omega
      obtain ⟨x, hx⟩ : ∃ x, s.cells[i]? = some x := ⟨_, List.getElem?_eq_getElem hlt⟩
      have hsx := hs x (List.mem_of_getElem? hx)
      have hx2 : (s.cells.map CState.c)[i]? = some x.c := by simp [hx]
      have g3 := S5.at3; have g2 := S5.at4
      obtain ⟨bc, eb, rfl, _⟩ := l2.at_ hx2
      subst eb
      have gc := S5.at1
      have ic := Z1a (k := .i64) (lo := 0) (i := (i : Int)) (len := s.cells.length) (by omega) (by omega) gc
      have qc := fun (o : Nat) (t : TypeId) => ld_p (P := PP) (o := o) t gc hx2
      simp +contextual (disch := omega) [Z1x.b1g, ld_b g2, hlt, Z1x.j3g, ic, qc]
      refine S5.alloc Z21 fun b5 h6 S6 => ?_
      try simp +contextual (disch := omega)
      refine S6.put (new := x.c) rfl (by simp) rfl (by simp) fun h7 S7 => ?_
      have gw := S7.at0
      have S8 := S7.dn3
      clear gc ic qc g2 g3
      have g3 := S8.at4; have g2 := S8.at5; have g1 := S8.at6
      simp +contextual (disch := omega) [ld_b g1, ld_b g2, ld_b g3, ld_b gw, w64]
      refine bK'_b (fun hc => ?_) (fun hc => ?_)
      · have hb : s.cells.any (bakedB c e) = true := List.any_eq_true.2 ⟨x, List.mem_of_getElem? hx, hc⟩
        rw [if_pos hb] at hq
        subst q
        have zap : ∀ {A B C D : PT}, (∀ h' M N, Own h0 (M :: N :: A :: B :: C :: D :: rs) h' → Own h0 (M :: N :: rs) h') := fun _ _ _ S => (((S.del 2).del 2).del 2).del 2
        try simp +contextual (disch := omega) [ld_b g2, ld_b g3, convI, wu64, ar_shl1, ar_or]
        refine (S8.mv 5 rfl).store rfl (by simp) (by simp) (by simp [oneI]) fun h8 S9 => ?_
        have g2 := S9.at0
        try simp +contextual (disch := omega) [ld_b g2]
        refine (S9.mv 3 rfl).put (new := svc { s with proven := orI s.proven (shl1 e.num) } a (.sl bc 0 s.cells.length)) rfl (by simp) rfl (svc_ones _ a _ l1.one.2 rfl) fun h9 S10 => ?_
        have g4 := S10.at0
        try simp +contextual (disch := omega) [ld_b g4]
        exact k _ _ _ _ ⟨_, _, rfl, l1, by simpa using l2⟩ (((S10.drop.drop.del 2).del 2).del 2)
      · simp +contextual (disch := omega) [Z1x.j4g, w64]
        refine ih (i + 1) _ (by omega) S7.drop ?_
        rw [← ha, any_drop _ hx, show bakedB c e x = false from hc]; simp
  try simp +contextual (disch := omega) [Z1x.j2g]
  refine loop s.cells.length 0 h4 (by omega) S5 (by simp)
def highOf (c : Config) (i : Int) : Int := ((gt c.versions i).map (·.high)).getD 0
def tooLow (c : Config) (s : State) (x : CState) : Bool := decide (highOf c x.running ≤ s.high) || decide (highOf c x.wanted ≤ s.high)
def expandS (c : Config) (s : State) : State × Int :=
  if s.low < s.high then err 4
  else if 30 ≤ s.high then err 2
  else if s.cells.any (tooLow c s) = true then err 13
  else ({ s with high := s.high + 1 }, 0)
theorem Z63 {c : Config} {s : State} (hm : Small c s) (hh : -1099511627776 ≤ s.high) (hs : ∀ x ∈ s.cells, (0 ≤ x.running ∧ x.running < c.versions.length) ∧ (0 ≤ x.wanted ∧ x.wanted < c.versions.length)) :
    StT Z3N (fun v => [c.v, v]) s (expandS c s) := by
  intro h0 h rs L1 L2 v K r S k
  refine Z1f.call ?_
  obtain ⟨a, b, rfl, l1, l2⟩ := r.ex
  refine S.box fun b1 h1 S1 => ?_
  refine S1.box fun b2 h2 S2 => ?_
  refine S2.alloc ZH fun b4 h4 S4 => ?_
  have S5 := S4.five
  clear S S1 S2 S4
  have zap : ∀ {A B : PT}, (∀ h' M N, Own h0 (M :: N :: A :: B :: rs) h' → Own h0 (M :: N :: rs) h') := fun _ _ _ S => (S.del 2).del 2
  generalize hq : expandS c s = q at k
  unfold expandS at hq
  have g2 := S5.at3
  try simp +contextual (disch := omega) [Z1f.j1g, ld_b g2, Z1f.j2]
  by_cases c1 : s.low < s.high
  · rw [if_pos c1] at hq
    subst q
    simp +contextual (disch := omega) [c1, Z1f.j3g]
    first | exact no_tail S5 rfl zap k | exact no_tail' S5 rfl zap k
  rw [if_neg c1] at hq
  try simp +contextual (disch := omega) [c1, Z1f.j4g, ld_b g2]
  by_cases c2 : 30 ≤ s.high
  · rw [if_pos c2] at hq
    subst q
    simp +contextual (disch := omega) [c2]
    first | exact no_tail S5 rfl zap k | exact no_tail' S5 rfl zap k
  rw [if_neg c2] at hq
  clear g2
  have sc := hm.scells
  have loop : ∀ (n i : Nat) (h5 : Heap), n + i = s.cells.length → Own h0 (L1 :: L2 :: [(b4, some ⟨8, Z3, [svc emptyS .snil .snil]⟩)] :: [(b2, some ⟨8, Z3, [svc s a b]⟩)] :: [(b1, some ⟨10, Z6, [c.c]⟩)] :: rs) h5 →
      ((s.cells.drop i).any (tooLow c s) = s.cells.any (tooLow c s)) →
      Z1f.l1 K (.ptr b1 0 0) (.ptr b2 0 0) (.ptr b4 0 0) (.n i) h5 := by
    intro n
    induction n with
    | zero =>
      intro i h5 hi S5 ha
      refine Z1f.l1_round ?_
      have g2 := S5.at3
      have : i = s.cells.length := by omega
      rw [this, List.drop_length] at ha
      rw [← ha, if_neg (by simp)] at hq
      subst q
      simp +contextual (disch := omega) [Z1f.b1g, ld_b g2, this, l2.len Z4T, Z1f.j8, w64]
      refine (S5.mv 3 rfl).store rfl (by simp) (by simp) (by simp [oneI]) fun h8 S9 => ?_
      have g2 := S9.at0
      try simp +contextual (disch := omega) [ld_b g2]
      refine (S9.mv 3 rfl).put (new := svc { s with high := s.high + 1 } a b) rfl (by simp) rfl (svc_ones _ a _ l1.one.2 l2.one.2) fun h9 S10 => ?_
      have g4 := S10.at0
      try simp +contextual (disch := omega) [ld_b g4]
      exact k _ _ _ _ ⟨_, _, rfl, l1, by simpa using l2⟩ (S10.drop.drop.del 2)
    | succ n ih =>
      intro i h5 hi S5 ha
      refine Z1f.l1_round ?_
      have hlt : i < s.cells.length := by omega
      obtain ⟨x, hx⟩ : ∃ x, s.cells[i]? = some x := ⟨_, List.getElem?_eq_getElem hlt⟩
      have hsx := hs x (List.mem_of_getElem? hx)
      have hx2 : (s.cells.map CState.c)[i]? = some x.c := by simp [hx]
      have g2 := S5.at3
      obtain ⟨bc, eb, rfl, _⟩ := l2.at_ hx2
      subst eb
      have gc := S5.at1
      have ic := Z1a (k := .i64) (lo := 0) (i := (i : Int)) (len := s.cells.length) (by omega) (by omega) gc
      have qc := fun (o : Nat) (t : TypeId) => ld_p (P := PP) (o := o) t gc hx2
      simp +contextual (disch := omega) [Z1f.b1g, ld_b g2, hlt, Z1f.j6g, ic, qc]
      refine S5.alloc Z21 fun b5 h6 S6 => ?_
      try simp +contextual (disch := omega)
      refine S6.put (new := x.c) rfl (by simp) rfl (by simp) fun h7 S7 => ?_
      have gw := S7.at0
      have S8 := S7.dn3
      clear gc ic qc g2
      have g2 := S8.at4; have g1 := S8.at5
      obtain ⟨vr, hvr⟩ : ∃ w, c.versions[x.running.toNat]? = some w := ⟨_, List.getElem?_eq_getElem (by omega)⟩
      obtain ⟨vw, hvw⟩ : ∃ w, c.versions[x.wanted.toNat]? = some w := ⟨_, List.getElem?_eq_getElem (by omega)⟩
      have ir : ∀ h, Zf PP ZI (.vs 2 (c.versions.map Version.c)) (.n x.running) h = some (.fptr vr.c) := fun h => Z4c hsx.1.1 (by simp [hvr])
      have iw : ∀ h, Zf PP ZI (.vs 2 (c.versions.map Version.c)) (.n x.wanted) h = some (.fptr vw.c) := fun h => Z4c hsx.2.1 (by simp [hvw])
      have er : highOf c x.running = vr.high := by simp [highOf, gt_some.2 ⟨hsx.1.1, hvr⟩]
      have ew : highOf c x.wanted = vw.high := by simp [highOf, gt_some.2 ⟨hsx.2.1, hvw⟩]
      simp +contextual (disch := omega) [ld_b g1, ld_b g2, ld_b gw, ir, iw]
      have et : tooLow c s x = (decide (vr.high ≤ s.high) || decide (vw.high ≤ s.high)) := by simp [tooLow, er, ew]
      refine bK'_b (fun hc => ?_) (fun hc => ?_)
      · have hb : s.cells.any (tooLow c s) = true := List.any_eq_true.2 ⟨x, List.mem_of_getElem? hx, et.trans hc⟩
        rw [if_pos hb] at hq
        subst q
        have zap : ∀ {A B C : PT}, (∀ h' M N, Own h0 (M :: N :: A :: B :: C :: rs) h' → Own h0 (M :: N :: rs) h') := fun _ _ _ S => ((S.del 2).del 2).del 2
        first | exact no_tail S8 rfl zap k | exact no_tail' S8 rfl zap k
      · simp +contextual (disch := omega) [Z1f.j7g, w64]
        refine ih (i + 1) _ (by omega) S7.drop ?_
        rw [← ha, any_drop _ hx, et, hc]; simp
  have c2' : decide (30 ≤ s.high) = false := by simpa using c2
  have lp := loop s.cells.length 0 h4 (by omega) S5 (by simp)
  rw [c2']
  try simp +contextual (disch := omega) [Z1f.j5g]
  exact lp
end Go.Ideal
namespace Go.Ideal
open Go.Proofs
set_option maxRecDepth 100000
@[simp] theorem hasU_1_67 : hasU 1 67 = false := by decide
@[simp] theorem hasU_1_98 : hasU 1 98 = false := by decide
@[simp] theorem hasU_1_99 : hasU 1 99 = true := by decide
@[simp] theorem hasU_1_101 : hasU 1 101 = false := by decide
@[simp] theorem hasU_1_109 : hasU 1 109 = false := by decide
@[simp] theorem hasU_1_110 : hasU 1 110 = false := by decide
@[simp] theorem hasU_1_111 : hasU 1 111 = true := by decide
@[simp] theorem hasU_1_114 : hasU 1 114 = false := by decide
@[simp] theorem hasU_1_116 : hasU 1 116 = true := by decide
@[simp] theorem hasU_1_118 : hasU 1 118 = false := by decide
@[simp] theorem hasU_1_119 : hasU 1 119 = false := by decide
@[simp] theorem hasU_2_67 : hasU 2 67 = false := by decide
@[simp] theorem hasU_2_99 : hasU 2 99 = true := by decide
@[simp] theorem hasU_2_101 : hasU 2 101 = true := by decide
@[simp] theorem hasU_2_111 : hasU 2 111 = false := by decide
@[simp] theorem hasU_2_114 : hasU 2 114 = false := by decide
@[simp] theorem hasU_2_116 : hasU 2 116 = true := by decide
@[simp] theorem hasU_2_118 : hasU 2 118 = true := by decide
@[simp] theorem hasU_2_119 : hasU 2 119 = true := by decide
@[simp] theorem hasU_3_67 : hasU 3 67 = false := by decide
@[simp] theorem hasU_3_98 : hasU 3 98 = false := by decide
@[simp] theorem hasU_3_99 : hasU 3 99 = false := by decide
@[simp] theorem hasU_3_101 : hasU 3 101 = true := by decide
@[simp] theorem hasU_3_109 : hasU 3 109 = false := by decide
@[simp] theorem hasU_3_110 : hasU 3 110 = false := by decide
@[simp] theorem hasU_3_111 : hasU 3 111 = false := by decide
@[simp] theorem hasU_3_114 : hasU 3 114 = false := by decide
@[simp] theorem hasU_3_116 : hasU 3 116 = true := by decide
@[simp] theorem hasU_3_118 : hasU 3 118 = false := by decide
@[simp] theorem hasU_3_119 : hasU 3 119 = false := by decide
@[simp] theorem hasU_4_67 : hasU 4 67 = true := by decide
@[simp] theorem hasU_4_98 : hasU 4 98 = false := by decide
@[simp] theorem hasU_4_99 : hasU 4 99 = false := by decide
@[simp] theorem hasU_4_101 : hasU 4 101 = false := by decide
@[simp] theorem hasU_4_109 : hasU 4 109 = false := by decide
@[simp] theorem hasU_4_110 : hasU 4 110 = false := by decide
@[simp] theorem hasU_4_111 : hasU 4 111 = false := by decide
@[simp] theorem hasU_4_114 : hasU 4 114 = false := by decide
@[simp] theorem hasU_4_116 : hasU 4 116 = true := by decide
@[simp] theorem hasU_4_118 : hasU 4 118 = false := by decide
@[simp] theorem hasU_4_119 : hasU 4 119 = false := by decide
@[simp] theorem hasU_5_67 : hasU 5 67 = false := by decide
@[simp] theorem hasU_5_98 : hasU 5 98 = false := by decide
@[simp] theorem hasU_5_99 : hasU 5 99 = true := by decide
@[simp] theorem hasU_5_101 : hasU 5 101 = false := by decide
@[simp] theorem hasU_5_109 : hasU 5 109 = false := by decide
@[simp] theorem hasU_5_110 : hasU 5 110 = false := by decide
@[simp] theorem hasU_5_111 : hasU 5 111 = false := by decide
@[simp] theorem hasU_5_114 : hasU 5 114 = false := by decide
@[simp] theorem hasU_5_116 : hasU 5 116 = true := by decide
@[simp] theorem hasU_5_118 : hasU 5 118 = false := by decide
@[simp] theorem hasU_5_119 : hasU 5 119 = false := by decide
@[simp] theorem hasU_6_67 : hasU 6 67 = false := by decide
@[simp] theorem hasU_6_98 : hasU 6 98 = false := by decide
@[simp] theorem hasU_6_99 : hasU 6 99 = true := by decide
@[simp] theorem hasU_6_101 : hasU 6 101 = false := by decide
@[simp] theorem hasU_6_109 : hasU 6 109 = false := by decide
@[simp] theorem hasU_6_110 : hasU 6 110 = false := by decide
@[simp] theorem hasU_6_111 : hasU 6 111 = false := by decide
@[simp] theorem hasU_6_114 : hasU 6 114 = false := by decide
@[simp] theorem hasU_6_116 : hasU 6 116 = true := by decide
@[simp] theorem hasU_6_118 : hasU 6 118 = false := by decide
@[simp] theorem hasU_6_119 : hasU 6 119 = false := by decide
@[simp] theorem hasU_7_67 : hasU 7 67 = false := by decide
@[simp] theorem hasU_7_98 : hasU 7 98 = false := by decide
@[simp] theorem hasU_7_99 : hasU 7 99 = false := by decide
@[simp] theorem hasU_7_101 : hasU 7 101 = false := by decide
@[simp] theorem hasU_7_109 : hasU 7 109 = false := by decide
@[simp] theorem hasU_7_110 : hasU 7 110 = false := by decide
@[simp] theorem hasU_7_111 : hasU 7 111 = false := by decide
@[simp] theorem hasU_7_114 : hasU 7 114 = false := by decide
@[simp] theorem hasU_7_116 : hasU 7 116 = true := by decide
@[simp] theorem hasU_7_118 : hasU 7 118 = false := by decide
@[simp] theorem hasU_7_119 : hasU 7 119 = false := by decide
@[simp] theorem hasU_8_67 : hasU 8 67 = false := by decide
@[simp] theorem hasU_8_98 : hasU 8 98 = true := by decide
@[simp] theorem hasU_8_99 : hasU 8 99 = false := by decide
@[simp] theorem hasU_8_101 : hasU 8 101 = false := by decide
@[simp] theorem hasU_8_111 : hasU 8 111 = false := by decide
@[simp] theorem hasU_8_114 : hasU 8 114 = false := by decide
@[simp] theorem hasU_8_116 : hasU 8 116 = true := by decide
@[simp] theorem hasU_8_118 : hasU 8 118 = false := by decide
@[simp] theorem hasU_8_119 : hasU 8 119 = false := by decide
@[simp] theorem hasU_9_67 : hasU 9 67 = false := by decide
@[simp] theorem hasU_9_98 : hasU 9 98 = false := by decide
@[simp] theorem hasU_9_99 : hasU 9 99 = true := by decide
@[simp] theorem hasU_9_101 : hasU 9 101 = false := by decide
@[simp] theorem hasU_9_109 : hasU 9 109 = true := by decide
@[simp] theorem hasU_9_111 : hasU 9 111 = false := by decide
@[simp] theorem hasU_9_114 : hasU 9 114 = false := by decide
@[simp] theorem hasU_9_116 : hasU 9 116 = false := by decide
@[simp] theorem hasU_9_118 : hasU 9 118 = false := by decide
@[simp] theorem hasU_9_119 : hasU 9 119 = false := by decide
@[simp] theorem hasU_10_67 : hasU 10 67 = false := by decide
@[simp] theorem hasU_10_99 : hasU 10 99 = true := by decide
@[simp] theorem hasU_10_101 : hasU 10 101 = false := by decide
@[simp] theorem hasU_10_111 : hasU 10 111 = false := by decide
@[simp] theorem hasU_10_114 : hasU 10 114 = false := by decide
@[simp] theorem hasU_10_116 : hasU 10 116 = false := by decide
@[simp] theorem hasU_10_118 : hasU 10 118 = true := by decide
@[simp] theorem hasU_10_119 : hasU 10 119 = false := by decide
@[simp] theorem hasU_11_67 : hasU 11 67 = false := by decide
@[simp] theorem hasU_11_99 : hasU 11 99 = true := by decide
@[simp] theorem hasU_11_101 : hasU 11 101 = false := by decide
@[simp] theorem hasU_11_111 : hasU 11 111 = false := by decide
@[simp] theorem hasU_11_114 : hasU 11 114 = false := by decide
@[simp] theorem hasU_11_116 : hasU 11 116 = false := by decide
@[simp] theorem hasU_11_118 : hasU 11 118 = true := by decide
@[simp] theorem hasU_11_119 : hasU 11 119 = false := by decide
@[simp] theorem hasU_12_67 : hasU 12 67 = false := by decide
@[simp] theorem hasU_12_99 : hasU 12 99 = false := by decide
@[simp] theorem hasU_12_101 : hasU 12 101 = false := by decide
@[simp] theorem hasU_12_111 : hasU 12 111 = false := by decide
@[simp] theorem hasU_12_114 : hasU 12 114 = false := by decide
@[simp] theorem hasU_12_116 : hasU 12 116 = false := by decide
@[simp] theorem hasU_12_118 : hasU 12 118 = true := by decide
@[simp] theorem hasU_12_119 : hasU 12 119 = false := by decide
@[simp] theorem hasU_13_67 : hasU 13 67 = false := by decide
@[simp] theorem hasU_13_98 : hasU 13 98 = true := by decide
@[simp] theorem hasU_13_99 : hasU 13 99 = false := by decide
@[simp] theorem hasU_13_101 : hasU 13 101 = false := by decide
@[simp] theorem hasU_13_111 : hasU 13 111 = false := by decide
@[simp] theorem hasU_13_114 : hasU 13 114 = true := by decide
@[simp] theorem hasU_13_116 : hasU 13 116 = false := by decide
@[simp] theorem hasU_13_118 : hasU 13 118 = false := by decide
@[simp] theorem hasU_13_119 : hasU 13 119 = false := by decide
@[simp] theorem hasU_14_67 : hasU 14 67 = false := by decide
@[simp] theorem hasU_14_98 : hasU 14 98 = false := by decide
@[simp] theorem hasU_14_99 : hasU 14 99 = false := by decide
@[simp] theorem hasU_14_101 : hasU 14 101 = false := by decide
@[simp] theorem hasU_14_109 : hasU 14 109 = false := by decide
@[simp] theorem hasU_14_110 : hasU 14 110 = false := by decide
@[simp] theorem hasU_14_111 : hasU 14 111 = false := by decide
@[simp] theorem hasU_14_114 : hasU 14 114 = false := by decide
@[simp] theorem hasU_14_116 : hasU 14 116 = false := by decide
@[simp] theorem hasU_14_118 : hasU 14 118 = false := by decide
@[simp] theorem hasU_14_119 : hasU 14 119 = false := by decide
@[simp] theorem hasU_15_67 : hasU 15 67 = false := by decide
@[simp] theorem hasU_15_98 : hasU 15 98 = false := by decide
@[simp] theorem hasU_15_99 : hasU 15 99 = false := by decide
@[simp] theorem hasU_15_101 : hasU 15 101 = false := by decide
@[simp] theorem hasU_15_109 : hasU 15 109 = false := by decide
@[simp] theorem hasU_15_110 : hasU 15 110 = false := by decide
@[simp] theorem hasU_15_111 : hasU 15 111 = false := by decide
@[simp] theorem hasU_15_114 : hasU 15 114 = false := by decide
@[simp] theorem hasU_15_116 : hasU 15 116 = false := by decide
@[simp] theorem hasU_15_118 : hasU 15 118 = false := by decide
@[simp] theorem hasU_15_119 : hasU 15 119 = false := by decide
@[simp] theorem hasU_16_67 : hasU 16 67 = false := by decide
@[simp] theorem hasU_16_98 : hasU 16 98 = false := by decide
@[simp] theorem hasU_16_99 : hasU 16 99 = false := by decide
@[simp] theorem hasU_16_101 : hasU 16 101 = false := by decide
@[simp] theorem hasU_16_109 : hasU 16 109 = false := by decide
@[simp] theorem hasU_16_110 : hasU 16 110 = true := by decide
@[simp] theorem hasU_16_111 : hasU 16 111 = false := by decide
@[simp] theorem hasU_16_114 : hasU 16 114 = false := by decide
@[simp] theorem hasU_16_116 : hasU 16 116 = false := by decide
@[simp] theorem hasU_16_118 : hasU 16 118 = false := by decide
@[simp] theorem hasU_16_119 : hasU 16 119 = false := by decide
structure Right (e : Entry) (T C R V : Int) : Prop where
  kind : 1 ≤ e.kind ∧ e.kind ≤ 16
  tick : 0 ≤ e.tick ∧ e.tick ≤ 1073741824
  epoch : 0 ≤ e.epoch ∧ e.epoch ≤ 1048576
  start : 0 ≤ e.start ∧ e.start ≤ 1073741824
  till : 0 ≤ e.till ∧ e.till ≤ 1073741824
  tenant : e.kind ≤ 8 → 0 ≤ e.tenant ∧ e.tenant < T
  cell : e.kind = 1 ∨ e.kind = 2 ∨ e.kind = 5 ∨ e.kind = 6 ∨ e.kind = 9 ∨ e.kind = 10 ∨ e.kind = 11 → 0 ≤ e.cell ∧ e.cell < C
  cell4 : e.kind = 4 → -1 ≤ e.cell ∧ e.cell < C
  other : e.kind = 1 → -1 ≤ e.other ∧ e.other < C
  region : e.kind = 13 → 0 ≤ e.other ∧ e.other < R
  num : e.kind = 2 ∨ e.kind = 10 ∨ e.kind = 11 ∨ e.kind = 12 → 0 ≤ e.num ∧ e.num < V
  mode : e.kind = 9 → 1 ≤ e.num ∧ e.num ≤ 3
theorem right_of {e : Entry} {T C R V : Int} (h : rightB e T C R V = true) : Right e T C R V := by
  have hk : 1 ≤ e.kind ∧ e.kind ≤ 16 := by
    simp only [rightB, inB, Bool.and_eq_true, decide_eq_true_eq] at h
    exact h.1.1.1
  obtain ⟨kind, tick, tenant, cell, other, epoch, start, till, num⟩ := e
  simp only at hk
  have : kind = 1 ∨ kind = 2 ∨ kind = 3 ∨ kind = 4 ∨ kind = 5 ∨ kind = 6 ∨ kind = 7 ∨ kind = 8 ∨ kind = 9 ∨ kind = 10 ∨ kind = 11 ∨ kind = 12 ∨ kind = 13 ∨ kind = 14 ∨ kind = 15 ∨ kind = 16 := by omega
  rcases this with rfl | rfl | rfl | rfl | rfl | rfl | rfl | rfl | rfl | rfl | rfl | rfl | rfl | rfl | rfl | rfl <;>
    simp [rightB, inB, placesB, numbersB, nB] at h <;> constructor <;> simp <;> omega
end Go.Ideal
namespace Go.Ideal
open Go.Proofs
set_option maxRecDepth 100000
theorem Own.trans {h0 h h' : Heap} {rs Ls : List PT} (S : Own h0 rs h) (T : Own h Ls h') : Own h0 (Ls ++ rs) h' := by
  refine ⟨S.pre.trans T.pre, ?_, fun p hp => ?_⟩
  · simp only [List.flatten_append, List.map_append]
    refine List.nodup_append.2 ⟨T.nd, S.nd, fun a ha b hb e => ?_⟩
    subst e
    obtain ⟨p, hp, e1⟩ := List.mem_map.1 ha
    obtain ⟨q, hq, e2⟩ := List.mem_map.1 hb
    have := (T.get p hp).1
    have := S.lt hq
    have e1 : p.1 = a := e1
    have e2 : q.1 = a := e2
    omega
  · simp only [List.flatten_append, List.mem_append] at hp
    rcases hp with hp | hp
    · have g := T.get p hp
      exact ⟨Nat.le_trans S.len g.1, g.2⟩
    · have g := S.get p hp
      exact ⟨g.1, by obtain ⟨t, rfl⟩ := T.pre; rw [List.getElem?_append_left (S.lt hp)]; exact g.2⟩
theorem FunP.call {P : Program} {f : FuncId} {args : List IV} {R : IV → List PT → Prop} {h0 h : Heap} {rs : List PT} {K : KT} (hf : FunP P f args R) (S : Own h0 rs h)
    (k : ∀ r Ls h', R r Ls → Own h0 (Ls ++ rs) h' → K r h') : Z5 P f args h K := hf h K fun r Ls h' l T => k r Ls h' l (S.trans T)
def RepR (out : State × Int) (r : IV) (Ls : List PT) : Prop := ∃ v L1 L2, r = .tup [v, .n out.2] ∧ Ls = [L1, L2] ∧ Rep out.1 v L1 L2
def RepV (s : State) (r : IV) (Ls : List PT) : Prop := ∃ L1 L2, Ls = [L1, L2] ∧ Rep s r L1 L2
theorem nofs_T (x : TState) : Nofs x.c = true := by simp [TState.c, Nofs, Nof]
theorem nofs_C (x : CState) : Nofs x.c = true := by simp [CState.c, Nofs, Nof]
theorem Rep.nof {s : State} {v : IV} {L1 L2 : PT} (r : Rep s v L1 L2) : Nof v = true ∧ ∀ p ∈ [L1, L2].flatten, ∀ k, p.2 = some k → Nofss k.es = true := by
  obtain ⟨a, b, rfl, l1, l2⟩ := r.ex
  have n1 : Nofss (s.tenants.map TState.c) = true := by simp [Nofss, nofs_T]
  have n2 : Nofss (s.cells.map CState.c) = true := by simp [Nofss, nofs_C]
  rcases l1 with ⟨rfl, _, rfl⟩ | ⟨x, rfl, rfl⟩ <;> rcases l2 with ⟨rfl, _, rfl⟩ | ⟨y, rfl, rfl⟩ <;>
    refine ⟨by simp [Nof, Nofs, svc], fun p hp k hk => ?_⟩ <;> simp at hp
  · subst hp; cases hk; exact n2
  · subst hp; cases hk; exact n1
  · rcases hp with rfl | rfl <;> cases hk
    · exact n1
    · exact n2
theorem RepR.nof {o : State × Int} : ∀ r Ls, RepR o r Ls → Nof r = true ∧ ∀ p ∈ Ls.flatten, ∀ k, p.2 = some k → Nofss k.es = true := by
  rintro r _ ⟨v, L1, L2, rfl, rfl, h⟩
  exact ⟨by simp [Nof, Nofs, h.nof.1], h.nof.2⟩
theorem Z64 {s : State} (hl : (s.tenants.length : Int) ≤ 1000 ∧ (s.cells.length : Int) ≤ 1000) : FunP PP Z3B [s.v] (RepV s) := by
  intro h K k
  refine Z4G.call ?_
  refine (Own.start h).box fun b1 h1 S1 => ?_
  refine S1.alloc ZH fun b2 h2 S2 => ?_
  refine Z5k S2 fun s1 L1 h3 l1 S3 => ?_
  have g1 := S3.at2
  try simp +contextual (disch := omega) [ld_b g1]
  refine Z4S l1 S3 (xs := s.tenants.map TState.c) (by first | rfl | simp [srcI]) (by simp) (by simp; omega) fun s2 L2 h4 l2 S4 => ?_
  try simp +contextual (disch := omega)
  have e0 : s.c = svc s (.vs 12 (s.tenants.map TState.c)) (.vs 4 (s.cells.map CState.c)) := rfl
  rw [e0] at S4
  refine (S4.mv 2 rfl).store (new := [s2]) (by rcases l2 with ⟨rfl, _⟩ | ⟨x, rfl, _⟩ <;> rfl) (by simp) (by simp) (by simp [l2.one.2]) fun h5 S5 => ?_
  refine Z5o S5 fun s3 L3 h6 l3 S6 => ?_
  have g1 := S6.at1
  try simp +contextual (disch := omega) [ld_b g1]
  refine Z5m l3 S6 (xs := s.cells.map CState.c) (by first | rfl | simp [srcI]) (by simp) (by simp; omega) fun s4 L4 h7 l4 S7 => ?_
  try simp +contextual (disch := omega)
  simp only [svc_st2] at S7
  refine (S7.mv 1 rfl).store (new := [s4]) (by rcases l4 with ⟨rfl, _⟩ | ⟨x, rfl, _⟩ <;> rfl) (by simp) (by simp) (by simp [l4.one.2]) fun h8 S8 => ?_
  have g1 := S8.at0
  try simp +contextual (disch := omega) [ld_b g1]
  refine (S8.mv 3 rfl).put (new := svc s s2 s4) (by simp) (by simp) rfl (svc_ones _ _ _ l2.one.2 l4.one.2) fun h9 S9 => ?_
  have g1 := S9.at0
  try simp +contextual (disch := omega) [ld_b g1]
  refine k _ [L2, L4] _ ⟨L2, L4, rfl, _, _, rfl, by simpa using l2, by simpa using l4⟩ ?_
  exact S9.drop.drop.swap
end Go.Ideal
namespace Go.Ideal
open Go.Proofs
set_option maxRecDepth 100000
def liveT (tick : Int) (acc : List Int) (p : TState × Tenant) : List Int :=
  if (decide (p.1.window.start ≤ tick) && decide (tick < p.1.window.till)) = true then addAt acc p.1.window.cell p.2.load else acc
def live (c : Config) (s : State) (tick : Int) : List Int := (s.tenants.zip c.tenants).foldl (liveT tick) (zeros c)
theorem Z65 {h0 h : Heap} {rs : List PT} {Ls : PT} {K : KT} {b bt : Nat} {tick : Int} {xs : List Int} {x : TState} {t : Tenant} (l : SumVar b xs Ls) (S : Own h0 (((bt, some ⟨1, Z0, [[.n tick]]⟩) :: Ls) :: rs) h)
    (k : ∀ L' h', SumVar b (liveT tick xs (x, t)) L' → Own h0 (((bt, some ⟨1, Z0, [[.n tick]]⟩) :: L') :: rs) h' → K (.tup []) h') : Z5 PP Z3s [x.v, t.v, .ptr bt 0 0, .ptr b 0 0] h K := by
  obtain ⟨s, L0, rfl, ls⟩ := l
  refine Z42.call ?_
  refine S.box fun b1 h1 S1 => ?_
  refine S1.box fun b2 h2 S2 => ?_
  have g1 := S2.at1
  unfold liveT at k
  try simp +contextual (disch := omega) [Z42.e, ld_b g1]
  refine S2.alloc Z20 fun b3 h3 S3 => ?_
  refine S3.put (new := x.window.c) rfl (by simp) rfl (by simp) fun h4 S4 => ?_
  have S5 := (S4.up3.cons1.up1.cons1).swap
  have gb := S5.at1; have gt := S5.at2; have gw := S5.at3; have g2 := S5.at4
  try simp +contextual (disch := omega) [ld_b gb, ld_b gt, ld_b gw, ld_b g2]
  refine bK'_b (fun hc => ?_) (fun hc => ?_)
  · simp only [hc, if_true] at k
    refine Z2r ls S5 fun M h6 l6 S6 => ?_
    exact k _ _ ⟨s, M, rfl, l6⟩ (((((S6.del 3).del 3).del 3).swap.uncons).swap.uncons)
  · simp only [hc] at k
    exact k _ _ ⟨s, L0, rfl, ls⟩ (((((S5.del 3).del 3).del 3).swap.uncons).swap.uncons)
theorem Z59 {c : Config} {s : State} (hm : Small c s) (tick : Int) : FunSl PP Z24 [c.v, s.v, .n tick] 1 Z0 (ints (live c s tick)) := by
  intro h K k
  refine Z4x.call ?_
  refine (Own.start h).box fun b1 h1 S1 => ?_
  refine S1.box fun b2 h2 S2 => ?_
  refine S2.box1 rfl fun b3 h3 S3 => ?_
  have g2 := S3.at1
  have g1 := S3.at2
  have q := hm.cells
  try simp +contextual (disch := omega) [ld_b g1]
  refine Z4k S3 (by omega) (by omega) fun sv Ls h4 ls S4 => ?_
  rw [zeros_eq] at ls
  refine S4.alloc Z4j fun b5 h5 S5 => ?_
  refine S5.put (new := [sv]) ls.one.1 (by simp) rfl (by simp [ls.one.2]) fun h6 S6 => ?_
  have g1 := S6.at4
  have g2 := S6.at3
  try simp +contextual (disch := omega) [ld_b g1, ld_b g2]
  refine Z3h (by unfold Len; have := hm.tenants; omega) (by unfold Len; have := hm.stenants; omega) (by kernel_rfl) (fun i L => ∃ L0, L = (b3, some ⟨1, Z0, [[.n tick]]⟩) :: L0 ∧ SumVar b5 (partB c s (liveT tick) i) L0) ?_
    (L := (b3, some ⟨1, Z0, [[.n tick]]⟩) :: (b5, some ⟨1, ZF, [[sv]]⟩) :: Ls) ⟨_, rfl, sv, Ls, rfl, ls⟩ (S6.uncons.up1.uncons) ?_
  · rintro i x t h0 h rs L K hx ht ⟨L0, rfl, l⟩ S k
    rw [partB_succ hx ht] at k
    exact Z65 l S fun L' h' l' S' => k _ _ ⟨L', rfl, l'⟩ S'
  · rintro L' h7 ⟨L0, rfl, s2, L2, rfl, l2⟩ S7
    have S8 := S7.cons1.up1.cons1
    have q := S8.at0
    try simp +contextual (disch := omega) [ld_b q]
    rw [partB_all] at l2
    exact k _ _ _ l2 S8.drop.only
theorem Z2Q {c : Config} {s : State} (hm : Small c s) (tick : Int) : Fun PP Z24 [c.v, s.v, .n tick] (.vs 1 (ints (live c s tick))) := (Z59 hm tick).fn (by simp)
theorem Z3j {c : Config} {s : State} (hm : Small c s) (hl : s.tenants.length = c.tenants.length) (tick : Int) : Fun PP Z2V [c.v, s.v, .n tick] (.vs 1 (ints (live c s tick))) := by
  refine FunQ.intro fun h0 => Z1p.call ?_
  refine (Own.start h0).box fun b1 h1 S1 => ?_
  refine S1.box fun b2 h2 S2 => ?_
  have g1 := S2.at1
  have q := hm.cells
  have q2 := hm.tenants
  have loop : ∀ (n i : Nat) (sv : IV) (L : PT) (h : Heap), n + i = s.tenants.length → Sl 1 Z0 sv (ints (partB c s (liveT tick) i)) L →
      Own h0 (L :: [(b2, some ⟨s.c.length, Z3, [s.c]⟩)] :: [(b1, some ⟨c.c.length, Z6, [c.c]⟩)] :: []) h →
      Z1p.l1 (Ret (fun x => x = .vs 1 (ints (live c s tick))) h0) (.n tick) (.ptr b1 0 0) (.ptr b2 0 0) sv (.n i) h := by
    intro n
    induction n with
    | zero =>
      intro i sv L h hi l S
      refine Z1p.l1_round ?_
      have e2 := S.at1
      have : i = s.tenants.length := by omega
      subst this
      simp +contextual (disch := omega) [Z1p.b1g, ld_b e2, Z1p.j5]
      have : partB c s (liveT tick) s.tenants.length = live c s tick := by
        have := partB_all (c := c) (s := s) (f := liveT tick)
        rw [hl, Nat.min_self] at this
        rw [hl]; exact this
      rw [this] at l
      exact Ret.sl l S (by simp) rfl
    | succ n ih =>
      intro i sv L h hi l S
      refine Z1p.l1_round ?_
      have hlt : i < s.tenants.length := by omega
      obtain ⟨x, hx⟩ : ∃ x, s.tenants[i]? = some x := ⟨_, List.getElem?_eq_getElem hlt⟩
      obtain ⟨t, ht⟩ : ∃ t, c.tenants[i]? = some t := ⟨_, List.getElem?_eq_getElem (by omega)⟩
      have e2 := S.at1; have e1 := S.at2
      have ix1 : ∀ h, Zf PP Zh (.vs 12 (s.tenants.map TState.c)) (.n i) h = some (.fptr x.c) := fun h => Z2m (by omega) (by simp [hx])
      have ix2 : ∀ h, Zf PP Zw (.vs 7 (c.tenants.map Tenant.c)) (.n i) h = some (.fptr t.c) := fun h => Z2I (by omega) (by simp [ht])
      simp +contextual (disch := omega) [Z1p.b1g, ld_b e2, hlt, Z1p.j3g, ix1]
      refine S.alloc Z20 fun b3 h3 S3 => ?_
      refine S3.put (new := x.window.c) rfl (by simp) rfl (by simp) fun h4 S4 => ?_
      have S5 := S4.up1
      have gw := S5.at1; have e1 := S5.at3; have e2 := S5.at2
      try simp +contextual (disch := omega) [ld_b gw, ld_b e1, ld_b e2, ix2]
      have next : ∀ (sv : IV) (M : PT) (h7 : Heap), Sl 1 Z0 sv (ints (liveT tick (partB c s (liveT tick) i) (x, t))) M → Own h0 (M :: [(b3, some ⟨5, Zu, [x.window.c]⟩)] :: [(b2, some ⟨s.c.length, Z3, [s.c]⟩)] :: [(b1, some ⟨c.c.length, Z6, [c.c]⟩)] :: []) h7 →
          Z1p.j4 (Ret (fun x => x = .vs 1 (ints (live c s tick))) h0) (.n tick) (.ptr b1 0 0) (.ptr b2 0 0) sv (.n i) h7 := by
        intro sv M h7 l7 S7
        simp +contextual (disch := omega) [Z1p.j4g, w64]
        rw [← partB_succ (f := liveT tick) hx ht] at l7
        exact ih (i + 1) sv M h7 (by omega) l7 (S7.del 1)
      refine bK'_b (fun hc => ?_) (fun hc => ?_)
      · refine Z2q l S5 fun M h6 l6 S6 => ?_
        try simp +contextual (disch := omega)
        exact next sv M h6 (by simp only [liveT, hc, if_true]; exact l6) S6
      · exact next sv L h4 (by simp only [liveT, hc]; exact l) S5
  simp +contextual (disch := omega) [Z1p.j1g, ld_b g1]
  refine Z3c S2 (by omega) (by omega) fun sv Ls h3 ls S3 => ?_
  rw [zeros_eq] at ls
  try simp +contextual (disch := omega) [Z1p.j2g]
  exact loop s.tenants.length 0 sv Ls h3 (by omega) (by simpa [partB] using ls) S3
end Go.Ideal
namespace Go.Ideal
open Go.Proofs
set_option maxRecDepth 100000
structure RegOk (c : Config) : Prop where
  zones : ZonesOk c
  regs : ∀ z ∈ c.zones, 0 ≤ z.region ∧ z.region < 62
theorem regionOf_rng {c : Config} (hr : RegOk c) (i : Int) : (regionOf c i = -1 ∧ (i < 0 ∨ (c.cells.length : Int) ≤ i)) ∨ (0 ≤ regionOf c i ∧ regionOf c i < 62 ∧ 0 ≤ i ∧ i < c.cells.length) := by
  unfold regionOf
  cases e : gt c.cells i with
  | none =>
    have : zoneOf c i = -1 := by simp [zoneOf, e]
    rw [this]
    exact .inl ⟨by simp [regionOfZ, gt], gt_none.1 e⟩
  | some x =>
    have hz : zoneOf c i = x.zone := by simp [zoneOf, e]
    obtain ⟨h0, h1⟩ := hr.zones x (List.mem_of_getElem? (gt_some.1 e).2)
    obtain ⟨z, hz'⟩ := gt_ex h0 h1
    have hg : regionOfZ c (zoneOf c i) = z.region := by rw [hz]; simp [regionOfZ, hz']
    have := hr.regs z (List.mem_of_getElem? (gt_some.1 hz').2)
    have := gt_lt e
    exact .inr (by rw [hg]; omega)
structure Fits (c : Config) (s : State) : Prop where
  tn : s.tenants.length = c.tenants.length
  cl : s.cells.length = c.cells.length
  at_ : ∀ x ∈ s.tenants, (-1 ≤ x.home ∧ x.home < c.cells.length) ∧ (-1 ≤ x.standby ∧ x.standby < c.cells.length)
def extraT (c : Config) (r : Int) (acc : List Int) (p : TState × Tenant) : List Int :=
  if (active p.1 && inside c p.1.home r && !inside c p.1.standby r) = true then addAt acc p.1.standby (IntKind.i64.wrap (p.2.load - p.2.shadow)) else acc
def extra (c : Config) (s : State) (r : Int) : List Int := (s.tenants.zip c.tenants).foldl (extraT c r) (zeros c)
theorem extraT_length (c : Config) (r : Int) (acc : List Int) (p : TState × Tenant) : (extraT c r acc p).length = acc.length := by
  unfold extraT; split <;> simp
@[simp] theorem extra_length (c : Config) (s : State) (r : Int) : (extra c s r).length = c.cells.length := by
  unfold extra; rw [foldl_length _ (extraT_length c r)]; simp [zeros]
theorem Small.lc {c : Config} {s : State} (hm : Small c s) : Len c.cells := by unfold Len; have := hm.cells; omega
theorem Small.lz {c : Config} {s : State} (hm : Small c s) : Len c.zones := by unfold Len; have := hm.zones; omega
theorem Z66 {h0 h : Heap} {rs : List PT} {Ls : PT} {K : KT} {b bc br : Nat} {c : Config} {r : Int} {xs : List Int} {x : TState} {t : Tenant} (hl : Len c.cells) (hz : Len c.zones) (l : SumVar b xs Ls)
    (S : Own h0 (((bc, some ⟨c.c.length, Z6, [c.c]⟩) :: (br, some ⟨1, Z0, [[.n r]]⟩) :: Ls) :: rs) h)
    (k : ∀ L' h', SumVar b (extraT c r xs (x, t)) L' → Own h0 (((bc, some ⟨c.c.length, Z6, [c.c]⟩) :: (br, some ⟨1, Z0, [[.n r]]⟩) :: L') :: rs) h' → K (.tup []) h') : Z5 PP Z3p [x.v, t.v, .ptr bc 0 0, .ptr br 0 0, .ptr b 0 0] h K := by
  obtain ⟨s, L0, rfl, ls⟩ := l
  refine Z4z.call ?_
  refine S.box fun b1 h1 S1 => ?_
  refine S1.box fun b2 h2 S2 => ?_
  unfold extraT at k
  have S5 := (((S2.up2.cons1.up1.cons1).up1.cons1).swap)
  have gb := S5.at1; have gr := S5.at2; have gc := S5.at3; have g2 := S5.at4; have g1 := S5.at5
  try simp +contextual (disch := omega) [ld_b gb, ld_b gr, ld_b gc, ld_b g2, ld_b g1]
  refine (Z4l x).call ?_
  try simp +contextual (disch := omega) [ld_b gb, ld_b gr, ld_b gc, ld_b g2, ld_b g1]
  refine callB_fun (fun _ => Z2L hl hz x.home r) ?_
  try simp +contextual (disch := omega) [ld_b gb, ld_b gr, ld_b gc, ld_b g2, ld_b g1]
  refine callB_fun (fun _ => Z2L hl hz x.standby r) ?_
  try simp +contextual (disch := omega) [ld_b gb, ld_b gr, ld_b gc, ld_b g2, ld_b g1]
  refine bK'_b (fun hc => ?_) (fun hc => ?_)
  · simp only [hc, if_true] at k
    refine Z2r ls S5 fun M h6 l6 S6 => ?_
    exact k _ _ ⟨s, M, rfl, l6⟩ ((((S6.del 4).del 4).up1.uncons).up1.uncons.up1.uncons)
  · simp only [hc] at k
    exact k _ _ ⟨s, L0, rfl, ls⟩ ((((S5.del 4).del 4).up1.uncons).up1.uncons.up1.uncons)
theorem Z2R {c : Config} {s : State} (hm : Small c s) (r : Int) : Fun PP Z2w [c.v, s.v, .n r] (.vs 1 (ints (extra c s r))) := by
  refine FunQ.intro fun h => Z4w.call ?_
  refine (Own.start h).box fun b1 h1 S1 => ?_
  refine S1.box fun b2 h2 S2 => ?_
  refine S2.box1 rfl fun b3 h3 S3 => ?_
  have g2 := S3.at1
  have g1 := S3.at2
  have q := hm.cells
  try simp +contextual (disch := omega) [ld_b g1]
  refine Z4k S3 (by omega) (by omega) fun sv Ls h4 ls S4 => ?_
  rw [zeros_eq] at ls
  refine S4.alloc Z4j fun b5 h5 S5 => ?_
  refine S5.put (new := [sv]) ls.one.1 (by simp) rfl (by simp [ls.one.2]) fun h6 S6 => ?_
  have g1 := S6.at4
  have g2 := S6.at3
  try simp +contextual (disch := omega) [ld_b g1, ld_b g2]
  refine Z3h (by unfold Len; have := hm.tenants; omega) (by unfold Len; have := hm.stenants; omega) (by kernel_rfl) (fun i L => ∃ L0, L = (b1, some ⟨c.c.length, Z6, [c.c]⟩) :: (b3, some ⟨1, Z0, [[.n r]]⟩) :: L0 ∧ SumVar b5 (partB c s (extraT c r) i) L0) ?_
    (L := (b1, some ⟨c.c.length, Z6, [c.c]⟩) :: (b3, some ⟨1, Z0, [[.n r]]⟩) :: (b5, some ⟨1, ZF, [[sv]]⟩) :: Ls) ⟨_, rfl, sv, Ls, rfl, ls⟩ ((S6.uncons.up1.uncons).up2.uncons) ?_
  · rintro i x t h0 h rs L K hx ht ⟨L0, rfl, l⟩ S k
    rw [partB_succ hx ht] at k
    exact Z66 hm.lc hm.lz l S fun L' h' l' S' => k _ _ ⟨L', rfl, l'⟩ S'
  · rintro L' h7 ⟨L0, rfl, s2, L2, rfl, l2⟩ S7
    have S8 := (S7.cons1.up1.cons1).up1.cons1
    have q := S8.at0
    try simp +contextual (disch := omega) [ld_b q]
    rw [partB_all] at l2
    exact Ret.sl l2 S8.drop (by simp) rfl
def lost (c : Config) (r : Int) (x : TState) : Bool := x.placed && !x.shed && decide (0 ≤ x.home) && decide (regionOf c x.home = r)
theorem Z5a {c : Config} (hz : ZonesOk c) (x : TState) (r : Int) : Fun PP Z2W [c.v, x.v, .n r] (.bool (lost c r x)) := by
  refine FunQ.intro fun h => Z4B.call ?_
  refine (Own.start h).box fun b1 h1 S1 => ?_
  refine S1.box fun b2 h2 S2 => ?_
  have g2 := S2.at0; have g1 := S2.at1
  try simp +contextual (disch := omega) [ld_b g1, ld_b g2]
  refine callB_fun (fun _ => Z1E hz x.home) ?_
  try simp +contextual (disch := omega) [ld_b g1, ld_b g2]
  exact Ret.val S2 (by simp [Bel]) (by simp [lost])
def extraR (c : Config) (r : Int) (acc : List Int) (p : TState × Tenant) : List Int :=
  if (lost c r p.1 && decide (0 ≤ p.1.standby) && !decide (regionOf c p.1.standby = r)) = true then addAt acc p.1.standby (IntKind.i64.wrap (p.2.load - p.2.shadow)) else acc
theorem extraR_eq {c : Config} (hr : RegOk c) (r : Int) (acc : List Int) (x : TState) (t : Tenant) (hh : x.home < c.cells.length) (hs : x.standby < c.cells.length) : extraR c r acc (x, t) = extraT c r acc (x, t) := by
  unfold extraR extraT
  have e1 : lost c r x = (active x && inside c x.home r) := by
    unfold lost active inside
    have := regionOf_rng hr x.home
    have : decide (0 ≤ x.home) = decide (0 ≤ regionOf c x.home) := by
      rw [decide_eq_decide]; omega
    rw [this]; simp [Bool.and_assoc]
  simp only [e1]
  by_cases hst : 0 ≤ x.standby
  · have : (!decide (regionOf c x.standby = r)) = !inside c x.standby r := by
      unfold inside
      have := regionOf_rng hr x.standby
      have h0 : 0 ≤ regionOf c x.standby := by omega
      simp [h0]
    rw [this]; simp [hst]
  · have h1 : addAt acc x.standby (IntKind.i64.wrap (t.load - t.shadow)) = acc := by
      unfold addAt; rw [gt_none.2 (.inl (by omega))]
    simp [hst, h1]
theorem Z2S {c : Config} {s : State} (hm : Small c s) (hf : Fits c s) (hr : RegOk c) (r : Int) : Fun PP Z2x [c.v, s.v, .n r] (.vs 1 (ints (extra c s r))) := by
  refine FunQ.intro fun h0 => Z1o.call ?_
  refine (Own.start h0).box fun b1 h1 S1 => ?_
  refine S1.box fun b2 h2 S2 => ?_
  have g1 := S2.at1
  have q := hm.cells
  have q2 := hm.tenants
  have hl := hf.tn
  have loop : ∀ (n i : Nat) (sv : IV) (L : PT) (h : Heap), n + i = s.tenants.length → Sl 1 Z0 sv (ints (partB c s (extraT c r) i)) L →
      Own h0 (L :: [(b2, some ⟨s.c.length, Z3, [s.c]⟩)] :: [(b1, some ⟨c.c.length, Z6, [c.c]⟩)] :: []) h →
      Z1o.l1 (Ret (fun x => x = .vs 1 (ints (extra c s r))) h0) (.n r) (.ptr b1 0 0) (.ptr b2 0 0) sv (.n i) h := by
    intro n
    induction n with
    | zero =>
      intro i sv L h hi l S
      refine Z1o.l1_round ?_
      have e2 := S.at1
      have : i = s.tenants.length := by omega
      subst this
      simp +contextual (disch := omega) [Z1o.b1g, ld_b e2, Z1o.j5]
      have : partB c s (extraT c r) s.tenants.length = extra c s r := by
        have := partB_all (c := c) (s := s) (f := extraT c r)
        rw [hl, Nat.min_self] at this
        rw [hl]; exact this
      rw [this] at l
      exact Ret.sl l S (by simp) rfl
    | succ n ih =>
      intro i sv L h hi l S
      refine Z1o.l1_round ?_
      have hlt : i < s.tenants.length := by omega
      obtain ⟨x, hx⟩ : ∃ x, s.tenants[i]? = some x := ⟨_, List.getElem?_eq_getElem hlt⟩
      obtain ⟨t, ht⟩ : ∃ t, c.tenants[i]? = some t := ⟨_, List.getElem?_eq_getElem (by omega)⟩
      have hfx := hf.at_ x (List.mem_of_getElem? hx)
      have e2 := S.at1; have e1 := S.at2
      have ix1 : ∀ h, Zf PP Zh (.vs 12 (s.tenants.map TState.c)) (.n i) h = some (.fptr x.c) := fun h => Z2m (by omega) (by simp [hx])
      have ix2 : ∀ h, Zf PP Zw (.vs 7 (c.tenants.map Tenant.c)) (.n i) h = some (.fptr t.c) := fun h => Z2I (by omega) (by simp [ht])
      simp +contextual (disch := omega) [Z1o.b1g, ld_b e2, hlt, Z1o.j3g, ix1]
      refine S.alloc Z1D fun b3 h3 S3 => ?_
      refine S3.put (new := x.c) rfl (by simp) rfl (by simp) fun h4 S4 => ?_
      have S5 := S4.up1
      have gw := S5.at1; have e1 := S5.at3; have e2 := S5.at2
      try simp +contextual (disch := omega) [ld_b gw, ld_b e1, ld_b e2, ix2]
      refine (Z5a hr.zones x r).call ?_
      try simp +contextual (disch := omega) [ld_b gw, ld_b e1, ld_b e2, ix2]
      refine callB_fun (fun _ => Z1E hr.zones x.standby) ?_
      try simp +contextual (disch := omega) [ld_b gw, ld_b e1, ld_b e2, ix2]
      have next : ∀ (sv : IV) (M : PT) (h7 : Heap), Sl 1 Z0 sv (ints (extraR c r (partB c s (extraT c r) i) (x, t))) M → Own h0 (M :: [(b3, some ⟨12, Za, [x.c]⟩)] :: [(b2, some ⟨s.c.length, Z3, [s.c]⟩)] :: [(b1, some ⟨c.c.length, Z6, [c.c]⟩)] :: []) h7 →
          Z1o.j4 (Ret (fun x => x = .vs 1 (ints (extra c s r))) h0) (.n r) (.ptr b1 0 0) (.ptr b2 0 0) sv (.n i) h7 := by
        intro sv M h7 l7 S7
        simp +contextual (disch := omega) [Z1o.j4g, w64]
        rw [extraR_eq hr r _ x t hfx.1.2 hfx.2.2, ← partB_succ (f := extraT c r) hx ht] at l7
        exact ih (i + 1) sv M h7 (by omega) l7 (S7.del 1)
      refine bK'_b (fun hc => ?_) (fun hc => ?_)
      · refine Z2q l S5 fun M h6 l6 S6 => ?_
        try simp +contextual (disch := omega)
        exact next sv M h6 (by simp only [extraR, hc, if_true]; exact l6) S6
      · exact next sv L h4 (by simp only [extraR, hc]; exact l) S5
  simp +contextual (disch := omega) [Z1o.j1g, ld_b g1]
  refine Z3c S2 (by omega) (by omega) fun sv Ls h3 ls S3 => ?_
  rw [zeros_eq] at ls
  try simp +contextual (disch := omega) [Z1o.j2g]
  exact loop s.tenants.length 0 sv Ls h3 (by omega) (by simpa [partB] using ls) S3
end Go.Ideal
namespace Go.Ideal
open Go.Proofs
set_option maxRecDepth 100000
theorem bit_not (a i : Int) : decide ((a / 2 ^ i.toNat) % 2 = 0) = !bit a i := by
  unfold bit
  have := Int.emod_two_eq (a / 2 ^ i.toNat)
  by_cases h : (a / 2 ^ i.toNat) % 2 = 0
  · simp [h]
  · have : (a / 2 ^ i.toNat) % 2 = 1 := by omega
    simp [this]
def readyP (c : Config) (s : State) (cell r : Int) : Bool := match gt s.cells cell with
  | some x => !inside c cell r && (decide (0 ≤ regionOf c cell) && decide (x.mode = 1) && decide (x.running = x.wanted) && !bit s.evacuating (regionOf c cell))
  | none => false
theorem Z67 {c : Config} {s : State} (hm : Small c s) (hr : RegOk c) (cell r : Int) : Fun PP Z3r [c.v, s.v, .n cell, .n r] (.bool (readyP c s cell r)) := by
  refine FunQ.intro fun h => Z2E.call ?_
  refine (Own.start h).box fun b1 h1 S1 => ?_
  refine S1.box fun b2 h2 S2 => ?_
  have g2 := S2.at0; have g1 := S2.at1
  unfold readyP
  cases e : gt s.cells cell with
  | none =>
    have : (decide (cell < 0) || decide ((s.cells.length : Int) ≤ cell)) = true := by
      rcases gt_none.1 e with h | h <;> simp <;> omega
    simp +contextual (disch := omega) [Z2E.j1g, ld_b g1, ld_b g2, this]
    exact Ret.val S2 (by simp [Bel, Bels]) (by first | rfl | simp)
  | some x =>
    obtain ⟨i0, hx⟩ := gt_some.1 e
    obtain ⟨_, hlt⟩ := gt_lt e
    have h1 : (decide (cell < 0) || decide ((s.cells.length : Int) ≤ cell)) = false := by simp; omega
    have ix1 : ∀ h, Zf PP Zl (.vs 4 (s.cells.map CState.c)) (.n cell) h = some (.fptr x.c) := fun h => Z3d i0 (by simp [hx])
    simp +contextual (disch := omega) [Z2E.j1g, ld_b g1, ld_b g2, h1]
    refine (Z2L hm.lc hm.lz cell r).call ?_
    try simp +contextual (disch := omega)
    refine bK'_b (fun hc => ?_) (fun hc => ?_)
    · simp only [hc]
      exact Ret.val S2 (by simp [Bel, Bels]) (by first | rfl | simp)
    · have d2 := S2.slot.at1; have d1 := S2.slot.at2
      try simp +contextual (disch := omega) [Z2E.j2, ld_b d1, ld_b d2, ix1, newA]
      refine (Z53 hm.lc hm.lz cell).call ?_
      try simp +contextual (disch := omega) [ld_b d1, ld_b d2, ix1]
      refine (S2.push _).put (new := x.c) rfl (by simp) rfl (by simp) fun h5 S5 => ?_
      have e0 := S5.at0; have e2 := S5.at1
      have hrg := regionOf_rng hr cell
      by_cases h0 : 0 ≤ regionOf c cell
      · have hb : regionOf c cell < 64 := by omega
        try simp +contextual (disch := omega) [ld_b e0, ld_b e2, h0, ar_shr, ar_and1, hb, bit_not]
        exact Ret.val S5 (by simp [Bel]) (by simp [hc])
      · try simp +contextual (disch := omega) [ld_b e0, ld_b e2, h0]
        exact Ret.val S5 (by simp [Bel]) (by simp)
def allN (n : Nat) (p : Nat → Bool) : Bool := (List.range n).all p
theorem allN_succ (n : Nat) (p : Nat → Bool) : allN (n + 1) p = (allN n p && p n) := by simp [allN, List.range_succ]
theorem allN_false {n i : Nat} {p : Nat → Bool} (hi : i < n) (h : p i = false) : allN n p = false := by
  unfold allN
  rw [List.all_eq_false]
  exact ⟨i, by simp [hi], by simp [h]⟩
def roomP (c : Config) (s : State) (r : Int) (i : Nat) : Bool := match c.cells[i]?, (booked c s)[i]?, (extra c s r)[i]? with
  | some x, some b, some e => !(!inside c i r && decide (x.capacity < IntKind.i64.wrap (b + e)))
  | _, _, _ => false
def goodT (c : Config) (s : State) (r : Int) (p : TState × Tenant) : Bool := !(active p.1 && inside c p.1.home r && !readyP c s p.1.standby r)
def headroom (c : Config) (s : State) (r : Int) : Bool :=
  !(decide (r < 0) || decide (c.regions ≤ r)) && (allN c.cells.length (roomP c s r) && (s.tenants.zip c.tenants).all (goodT c s r))
theorem Z68 {h0 h : Heap} {rs : List PT} {K : KT} {b bc br bs : Nat} {c : Config} {s : State} {r : Int} {ok : Bool} {x : TState} {t : Tenant} (hm : Small c s) (hr : RegOk c)
    (S : Own h0 ([(bc, some ⟨c.c.length, Z6, [c.c]⟩), (br, some ⟨1, Z0, [[.n r]]⟩), (bs, some ⟨s.c.length, Z3, [s.c]⟩), (b, some ⟨1, Zy, [[.bool ok]]⟩)] :: rs) h)
    (k : ∀ h', Own h0 ([(bc, some ⟨c.c.length, Z6, [c.c]⟩), (br, some ⟨1, Z0, [[.n r]]⟩), (bs, some ⟨s.c.length, Z3, [s.c]⟩), (b, some ⟨1, Zy, [[.bool (ok && goodT c s r (x, t))]]⟩)] :: rs) h' → K (.tup []) h') : Z5 PP Z3q [x.v, t.v, .ptr bc 0 0, .ptr br 0 0, .ptr bs 0 0, .ptr b 0 0] h K := by
  refine Z4C.call ?_
  refine S.box fun b1 h1 S1 => ?_
  refine S1.box fun b2 h2 S2 => ?_
  have S5 := ((S2.up2.cons1.up1.cons1).up1.cons1).up1
  have gb := S5.at0; have gs := S5.at1; have gr := S5.at2; have gc := S5.at3; have g2 := S5.at4; have g1 := S5.at5
  unfold goodT at k
  try simp +contextual (disch := omega) [ld_b gb, ld_b gs, ld_b gr, ld_b gc, ld_b g2, ld_b g1]
  refine (Z4l x).call ?_
  try simp +contextual (disch := omega) [ld_b gb, ld_b gs, ld_b gr, ld_b gc, ld_b g2, ld_b g1]
  refine callB_fun (fun _ => Z2L hm.lc hm.lz x.home r) ?_
  try simp +contextual (disch := omega) [ld_b gb, ld_b gs, ld_b gr, ld_b gc, ld_b g2, ld_b g1]
  refine callB_fun (fun _ => Z67 hm hr x.standby r) ?_
  try simp +contextual (disch := omega) [ld_b gb, ld_b gs, ld_b gr, ld_b gc, ld_b g2, ld_b g1]
  refine bK'_b (fun hc => ?_) (fun hc => ?_)
  · simp only [hc, Bool.not_true, Bool.and_false] at k
    refine S5.put (new := [.bool false]) rfl (by simp) rfl (by simp [oneI]) fun h6 S6 => ?_
    exact k _ (((((S6.del 4).del 4).up1.uncons).up1.uncons).up1.uncons)
  · simp only [hc, Bool.not_false, Bool.and_true] at k
    exact k _ (((((S5.del 4).del 4).up1.uncons).up1.uncons).up1.uncons)
theorem zip_all {α β : Type} {l : List α} {m : List β} {p : α × β → Bool} : (l.zip m).all p = ((l.zip m).take (min l.length m.length)).all p := by
  rw [List.take_of_length_le (by simp)]
theorem take_all_succ {α β : Type} {l : List α} {m : List β} {p : α × β → Bool} {i : Nat} {x : α} {y : β} (hx : l[i]? = some x) (hy : m[i]? = some y) : ((l.zip m).take (i + 1)).all p = (((l.zip m).take i).all p && p (x, y)) := by
  have : (l.zip m)[i]? = some (x, y) := by simp [List.getElem?_zip_eq_some, hx, hy]
  rw [List.take_add_one, this]; simp
theorem Z2d {c : Config} {s : State} (hm : Small c s) (hr : RegOk c) (r : Int) : Fun PP Z23 [c.v, s.v, .n r] (.bool (headroom c s r)) := by
  refine FunQ.intro fun h0 => Z15.call ?_
  refine (Own.start h0).box fun b1 h1 S1 => ?_
  refine S1.box fun b2 h2 S2 => ?_
  refine S2.box1 rfl fun b3 h3 S3 => ?_
  have g3 := S3.at0; have g2 := S3.at1; have g1 := S3.at2
  have q := hm.cells
  unfold headroom
  cases hg : (decide (r < 0) || decide (c.regions ≤ r)) with
  | true =>
    try simp +contextual (disch := omega) [Z15.j1g, ld_b g1, ld_b g2, ld_b g3, hg]
    exact Ret.val S3 (by simp [Bel, Bels]) (by first | rfl | simp)
  | false =>
  try simp +contextual (disch := omega) [Z15.j1g, ld_b g1, ld_b g2, ld_b g3, hg, Z15.j2g]
  refine (Z22 hm).call ?_
  try simp +contextual (disch := omega) [ld_b g1, ld_b g2, ld_b g3]
  refine (Z2R hm r).call ?_
  try simp +contextual (disch := omega) [Z15.j3g, ld_b g1]
  generalize hQ : (allN c.cells.length (roomP c s r) && (s.tenants.zip c.tenants).all (goodT c s r)) = Q
  have last : ∀ h, allN c.cells.length (roomP c s r) = true → Own h0 ([(b3, some ⟨1, Z0, [[.n r]]⟩)] :: [(b2, some ⟨s.c.length, Z3, [s.c]⟩)] :: [(b1, some ⟨c.c.length, Z6, [c.c]⟩)] :: []) h →
      Z15.j7 (Ret (fun x => x = .bool Q) h0) (.ptr b1 0 0) (.ptr b2 0 0) (.ptr b3 0 0) h := by
    intro h ha S
    unfold Z15.j7
    refine S.alloc zr_t_bool fun b5 h5 S5 => ?_
    refine S5.put (new := [.bool true]) rfl (by simp) rfl (by simp [oneI]) fun h6 S6 => ?_
    have g1 := S6.at3; have g2 := S6.at2
    try simp +contextual (disch := omega) [ld_b g1, ld_b g2]
    refine Z3h (by unfold Len; have := hm.tenants; omega) (by unfold Len; have := hm.stenants; omega) (by kernel_rfl)
      (fun i L => L = [(b1, some ⟨c.c.length, Z6, [c.c]⟩), (b3, some ⟨1, Z0, [[.n r]]⟩), (b2, some ⟨s.c.length, Z3, [s.c]⟩), (b5, some ⟨1, Zy, [[.bool (((s.tenants.zip c.tenants).take i).all (goodT c s r))]]⟩)]) ?_ rfl ((((S6.up2.uncons).up1.uncons).up1).uncons) ?_
    · rintro i x t h0 h rs L K hx ht rfl S k
      refine Z68 hm hr S fun h' S' => k _ _ ?_ S'
      rw [take_all_succ hx ht]
    · rintro L' h7 rfl S7
      have S8 := (((S7.cons1.up1.cons1).up1.cons1).up1)
      have q := S8.at0
      rw [← zip_all] at q
      try simp +contextual (disch := omega) [ld_b q]
      refine Ret.val S8 (by simp [Bel]) ?_
      rw [← hQ, ha]; simp
  have loop : ∀ (n i : Nat) (h : Heap), n + i = c.cells.length → allN i (roomP c s r) = true →
      Own h0 ([(b3, some ⟨1, Z0, [[.n r]]⟩)] :: [(b2, some ⟨s.c.length, Z3, [s.c]⟩)] :: [(b1, some ⟨c.c.length, Z6, [c.c]⟩)] :: []) h →
      Z15.l1 (Ret (fun x => x = .bool Q) h0) (.ptr b1 0 0) (.ptr b2 0 0) (.ptr b3 0 0) (.vs 1 (ints (booked c s))) (.vs 1 (ints (extra c s r))) (.vs 2 (c.cells.map CellC.c)) (.n c.cells.length) (.n i) h := by
    intro n
    induction n with
    | zero =>
      intro i h hi ha S
      refine Z15.l1_round ?_
      have : i = c.cells.length := by omega
      subst this
      simp +contextual (disch := omega) [Z15.b1g, Z15.j4g]
      exact last h ha S
    | succ n ih =>
      intro i h hi ha S
      refine Z15.l1_round ?_
      have hlt : i < c.cells.length := by omega
      obtain ⟨x, hx⟩ : ∃ x, c.cells[i]? = some x := ⟨_, List.getElem?_eq_getElem hlt⟩
      obtain ⟨m, hb⟩ : ∃ m, (booked c s)[i]? = some m := ⟨_, List.getElem?_eq_getElem (by simpa using hlt)⟩
      obtain ⟨e, he⟩ : ∃ e, (extra c s r)[i]? = some e := ⟨_, List.getElem?_eq_getElem (by simpa using hlt)⟩
      have ix1 : ∀ h, Zf PP Zk (.vs 1 (ints (booked c s))) (.n i) h = some (.fptr [.n m]) := fun h => Z1y (by omega) (ints_get (by simpa using hb))
      have ix2 : ∀ h, Zf PP Zk (.vs 1 (ints (extra c s r))) (.n i) h = some (.fptr [.n e]) := fun h => Z1y (by omega) (ints_get (by simpa using he))
      have ix3 : ∀ h, Zf PP Zn (.vs 2 (c.cells.map CellC.c)) (.n i) h = some (.fptr x.c) := fun h => Z1Z (by omega) (by simp [hx])
      have hp : roomP c s r i = !(!inside c i r && decide (x.capacity < IntKind.i64.wrap (m + e))) := by simp [roomP, hx, hb, he]
      simp +contextual (disch := omega) [Z15.b1g, hlt, Z15.j4g, Z15.j5g, ix3]
      refine S.alloc Z2n fun b5 h5 S5 => ?_
      refine S5.put (new := x.c) rfl (by simp) rfl (by simp) fun h6 S6 => ?_
      have g5 := S6.at0; have g3 := S6.at1; have g1 := S6.at3
      try simp +contextual (disch := omega) [ld_b g1, ld_b g3, ld_b g5]
      refine (Z2L hm.lc hm.lz i r).call ?_
      try simp +contextual (disch := omega) [ld_b g5, ix1, ix2]
      refine bK'_b (fun hc => ?_) (fun hc => ?_)
      · refine Ret.val S6 (by simp [Bel]) ?_
        rw [← hQ, allN_false hlt (by rw [hp, hc]; rfl)]; simp
      · try simp +contextual (disch := omega) [Z15.j6g, w64]
        exact ih (i + 1) h6 (by omega) (by rw [allN_succ, ha, hp, hc]; rfl) S6.drop
  have := loop c.cells.length 0 h3 (by omega) rfl S3
  simpa using this
end Go.Ideal
namespace Go.Ideal
open Go.Proofs
set_option maxRecDepth 100000
theorem lost_eq {c : Config} (hr : RegOk c) (r : Int) (x : TState) (hh : x.home < c.cells.length) : lost c r x = (active x && inside c x.home r) := by
  unfold lost active inside
  have := regionOf_rng hr x.home
  have : decide (0 ≤ x.home) = decide (0 ≤ regionOf c x.home) := by
    rw [decide_eq_decide]; omega
  rw [this]; simp [Bool.and_assoc]
def bad1 (c : Config) (s : State) (r st : Int) : Bool := decide (regionOf c st < 0) || decide (regionOf c st = r) || hasB s.evacuating (regionOf c st)
theorem readyP_eq {c : Config} {s : State} (hr : RegOk c) (hcl : s.cells.length = c.cells.length) (r st : Int) (x : CState) (hx : gt s.cells st = some x) : readyP c s st r = (!bad1 c s r st && !(!decide (x.mode = 1) || !decide (x.running = x.wanted))) := by
  unfold readyP bad1 inside hasB
  rw [hx]
  have := gt_lt hx
  have hrg := regionOf_rng hr st
  have h0 : 0 ≤ regionOf c st := by omega
  have h1 : ¬ regionOf c st < 0 := by omega
  have h2 : regionOf c st < 62 := by omega
  simp only [h0, h1, h2, decide_true, decide_false, Bool.true_and, Bool.false_or]
  cases decide (regionOf c st = r) <;> cases bit s.evacuating (regionOf c st) <;> cases decide (x.mode = 1) <;> cases decide (x.running = x.wanted) <;> rfl
theorem readyP_none {c : Config} {s : State} (r st : Int) (hx : gt s.cells st = none) : readyP c s st r = false := by
  unfold readyP; rw [hx]
theorem Z3k {c : Config} {s : State} (hm : Small c s) (hf : Fits c s) (hr : RegOk c) (r : Int) : Fun PP Z2U [c.v, s.v, .n r] (.bool (headroom c s r)) := by
  refine FunQ.intro fun h0 => ZP.call ?_
  refine (Own.start h0).box fun b1 h1 S1 => ?_
  refine S1.box fun b2 h2 S2 => ?_
  have g2 := S2.at0; have g1 := S2.at1
  have q := hm.cells
  have q2 := hm.tenants
  have hl := hf.tn
  unfold headroom
  cases hg : (decide (r < 0) || decide (c.regions ≤ r)) with
  | true =>
    try simp +contextual (disch := omega) [ZP.j1g, ld_b g1, ld_b g2, hg]
    exact Ret.val S2 (by simp [Bel, Bels]) (by first | rfl | simp)
  | false =>
  try simp +contextual (disch := omega) [ZP.j1g, ld_b g1, ld_b g2, hg, ZP.j2g]
  refine (Z2M hm hl).call ?_
  try simp +contextual (disch := omega) [ld_b g1, ld_b g2]
  refine (Z2S hm hf hr r).call ?_
  try simp +contextual (disch := omega) [ZP.j3g]
  generalize hQ : (allN c.cells.length (roomP c s r) && (s.tenants.zip c.tenants).all (goodT c s r)) = Q
  have loop2 : ∀ (n i : Nat) (h : Heap), n + i = s.tenants.length → allN c.cells.length (roomP c s r) = true → ((s.tenants.zip c.tenants).take i).all (goodT c s r) = true →
      Own h0 ([(b2, some ⟨s.c.length, Z3, [s.c]⟩)] :: [(b1, some ⟨c.c.length, Z6, [c.c]⟩)] :: []) h →
      ZP.l2 (Ret (fun x => x = .bool Q) h0) (.n r) (.ptr b1 0 0) (.ptr b2 0 0) (.n i) h := by
    intro n
    induction n with
    | zero =>
      intro i h hi ha hb S
      refine ZP.l2_round ?_
      have e2 := S.at0
      have : i = s.tenants.length := by omega
      subst this
      simp +contextual (disch := omega) [ZP.b2g, ld_b e2, ZP.j13]
      refine Ret.val S (by simp [Bel]) ?_
      rw [zip_all, ← hl, Nat.min_self, hb, ha] at hQ
      rw [← hQ]; rfl
    | succ n ih =>
      intro i h hi ha hb S
      refine ZP.l2_round ?_
      have hlt : i < s.tenants.length := by omega
      obtain ⟨x, hx⟩ : ∃ x, s.tenants[i]? = some x := ⟨_, List.getElem?_eq_getElem hlt⟩
      obtain ⟨t, ht⟩ : ∃ t, c.tenants[i]? = some t := ⟨_, List.getElem?_eq_getElem (by omega)⟩
      have hfx := hf.at_ x (List.mem_of_getElem? hx)
      have e2 := S.at0; have e1 := S.at1
      have ix1 : ∀ h, Zf PP Zh (.vs 12 (s.tenants.map TState.c)) (.n i) h = some (.fptr x.c) := fun h => Z2m (by omega) (by simp [hx])
      have next : ∀ h7, goodT c s r (x, t) = true → Own h0 ([(b2, some ⟨s.c.length, Z3, [s.c]⟩)] :: [(b1, some ⟨c.c.length, Z6, [c.c]⟩)] :: []) h7 →
          ZP.j12 (Ret (fun x => x = .bool Q) h0) (.n r) (.ptr b1 0 0) (.ptr b2 0 0) (.n i) h7 := by
        intro h7 hgd S7
        simp +contextual (disch := omega) [ZP.j12g, w64]
        exact ih (i + 1) h7 (by omega) ha (by rw [take_all_succ hx ht, hb, hgd]; rfl) S7
      have stop : ∀ (rs : List PT) h7, goodT c s r (x, t) = false → Own h0 rs h7 → Ret (fun x => x = .bool Q) h0 (.bool false) h7 := by
        intro rs h7 hgd S7
        refine Ret.val S7 (by simp [Bel]) ?_
        have : (s.tenants.zip c.tenants).all (goodT c s r) = false := by
          rw [List.all_eq_false]
          refine ⟨(x, t), List.mem_of_getElem? (i := i) (by simp [List.getElem?_zip_eq_some, hx, ht]), by simp [hgd]⟩
        rw [← hQ, this]; simp
      simp +contextual (disch := omega) [ZP.b2g, ld_b e2, hlt, ZP.j7g, ix1]
      refine S.alloc Z1D fun b3 h3 S3 => ?_
      refine S3.put (new := x.c) rfl (by simp) rfl (by simp) fun h4 S4 => ?_
      have g3 := S4.at0; have e2 := S4.at1; have e1 := S4.at2
      try simp +contextual (disch := omega) [ZP.j8g, ld_b g3, ld_b e2, ld_b e1]
      refine (Z5a hr.zones x r).call ?_
      try simp +contextual (disch := omega)
      cases hlo : lost c r x with
      | false =>
        try simp +contextual (disch := omega)
        exact next h4 (by rw [lost_eq hr _ _ hfx.1.2] at hlo; simp [goodT, hlo]) S4.drop
      | true =>
        have hlo' := hlo
        rw [lost_eq hr _ _ hfx.1.2] at hlo'
        try simp +contextual (disch := omega) [ZP.j9g, ld_b g3, ld_b e2, ld_b e1]
        refine (Z1E hr.zones x.standby).call ?_
        try simp +contextual (disch := omega) [ZP.j10g, ld_b e2]
        refine callB_fun (fun _ => Z2p s.evacuating (regionOf c x.standby)) ?_
        try simp +contextual (disch := omega)
        refine bK'_b (fun hc => ?_) (fun hc => ?_)
        · refine stop _ h4 ?_ S4
          have hrd : readyP c s x.standby r = false := by
            cases e : gt s.cells x.standby with
            | none => exact readyP_none r _ e
            | some y =>
              rw [readyP_eq hr hf.cl r _ y e]
              have : bad1 c s r x.standby = true := hc
              rw [this]; rfl
          simp [goodT, hlo', hrd]
        · have hst : 0 ≤ x.standby := by
            have := regionOf_rng hr x.standby
            have hc' : ¬ (regionOf c x.standby < 0) := by
              intro hn; simp [hn] at hc
            omega
          obtain ⟨y, hy⟩ := gt_ex (l := s.cells) hst (by rw [hf.cl]; exact hfx.2.2)
          have ix3 : ∀ h, Zf PP Zl (.vs 4 (s.cells.map CState.c)) (.n x.standby) h = some (.fptr y.c) := fun h => Z3d hst (by simp [(gt_some.1 hy).2])
          have hrd := readyP_eq hr hf.cl r _ y hy
          have hb1 : bad1 c s r x.standby = false := hc
          try simp +contextual (disch := omega) [ZP.j11g, ld_b e2, ld_b g3, ix3]
          refine S4.alloc Z21 fun b5 h5 S5 => ?_
          refine S5.put (new := y.c) rfl (by simp) rfl (by simp) fun h6 S6 => ?_
          have g5 := S6.at0
          try simp +contextual (disch := omega) [ld_b g5]
          refine bK'_b (fun hd => ?_) (fun hd => ?_)
          · exact stop _ h6 (by simp only [goodT, hlo', hrd, hb1, hd]; rfl) S6
          · exact next h6 (by simp only [goodT, hlo', hrd, hb1, hd]; rfl) S6.drop.drop
  have loop : ∀ (n i : Nat) (h : Heap), n + i = c.cells.length → allN i (roomP c s r) = true →
      Own h0 ([(b2, some ⟨s.c.length, Z3, [s.c]⟩)] :: [(b1, some ⟨c.c.length, Z6, [c.c]⟩)] :: []) h →
      ZP.l1 (Ret (fun x => x = .bool Q) h0) (.n r) (.ptr b1 0 0) (.ptr b2 0 0) (.vs 1 (ints (booked c s))) (.vs 1 (ints (extra c s r))) (.n i) h := by
    intro n
    induction n with
    | zero =>
      intro i h hi ha S
      refine ZP.l1_round ?_
      have : i = c.cells.length := by omega
      subst this
      simp +contextual (disch := omega) [ZP.b1g, ZP.j6g]
      have := loop2 s.tenants.length 0 h (by omega) ha (by simp) S
      simpa using this
    | succ n ih =>
      intro i h hi ha S
      refine ZP.l1_round ?_
      have hlt : i < c.cells.length := by omega
      obtain ⟨x, hx⟩ : ∃ x, c.cells[i]? = some x := ⟨_, List.getElem?_eq_getElem hlt⟩
      obtain ⟨m, hb⟩ : ∃ m, (booked c s)[i]? = some m := ⟨_, List.getElem?_eq_getElem (by simpa using hlt)⟩
      obtain ⟨e, he⟩ : ∃ e, (extra c s r)[i]? = some e := ⟨_, List.getElem?_eq_getElem (by simpa using hlt)⟩
      have ix1 : ∀ h, Zf PP Zk (.vs 1 (ints (booked c s))) (.n i) h = some (.fptr [.n m]) := fun h => Z1y (by omega) (ints_get (by simpa using hb))
      have ix2 : ∀ h, Zf PP Zk (.vs 1 (ints (extra c s r))) (.n i) h = some (.fptr [.n e]) := fun h => Z1y (by omega) (ints_get (by simpa using he))
      have ix3 : ∀ h, Zf PP Zn (.vs 2 (c.cells.map CellC.c)) (.n i) h = some (.fptr x.c) := fun h => Z1Z (by omega) (by simp [hx])
      have hin : inside c i r = decide (regionOf c i = r) := by
        have := regionOf_rng hr i
        have h0 : 0 ≤ regionOf c i := by omega
        simp [inside, h0]
      have hp : roomP c s r i = !(!decide (regionOf c i = r) && decide (x.capacity < IntKind.i64.wrap (m + e))) := by simp [roomP, hx, hb, he, hin]
      have g1 := S.at1
      simp +contextual (disch := omega) [ZP.b1g, hlt, ZP.j4g, ld_b g1]
      refine (Z1E hr.zones i).call ?_
      try simp +contextual (disch := omega) [ld_b g1, ix1, ix2, ix3]
      refine bK'_b (fun hc => ?_) (fun hc => ?_)
      · refine Ret.val S (by simp [Bel]) ?_
        rw [← hQ, allN_false hlt (by rw [hp, hc]; rfl)]; simp
      · try simp +contextual (disch := omega) [ZP.j5g, w64]
        exact ih (i + 1) h (by omega) (by rw [allN_succ, ha, hp, hc]; rfl) S
  have := loop c.cells.length 0 h2 (by omega) rfl S2
  simpa using this
end Go.Ideal
namespace Go.Ideal
open Go.Proofs
set_option maxRecDepth 100000
def zeroT : TState := ⟨false, false, 0, 0, 0, 0, 0, ⟨0, 0, 0, 0, 0⟩⟩
def zeroC : CState := ⟨0, 0, 0, 0⟩
def tn (s : State) (i : Int) : TState := (gt s.tenants i).getD zeroT
def cn (s : State) (i : Int) : CState := (gt s.cells i).getD zeroC
def vn (c : Config) (i : Int) : Version := (gt c.versions i).getD ⟨0, 0⟩
structure TOk (c : Config) (x : TState) : Prop where
  home : -1 ≤ x.home ∧ x.home < c.cells.length
  standby : -1 ≤ x.standby ∧ x.standby < c.cells.length
  next : -1 ≤ x.next ∧ x.next < c.cells.length
  target : -1 ≤ x.target ∧ x.target < c.cells.length
  shed : x.shed = true → 0 ≤ x.home
  placed : x.placed = true → 0 ≤ x.home
  epoch : 0 ≤ x.epoch ∧ x.epoch ≤ 1048576
  till : 0 ≤ x.window.till ∧ x.window.till ≤ 1073741824
structure COk (c : Config) (x : CState) : Prop where
  since : 0 ≤ x.since ∧ x.since ≤ 1073741824
  running : 0 ≤ x.running ∧ x.running < c.versions.length
  wanted : 0 ≤ x.wanted ∧ x.wanted < c.versions.length
structure Inv (c : Config) (s : State) : Prop where
  tl : s.tenants.length = c.tenants.length
  cl : s.cells.length = c.cells.length
  ten : ∀ x ∈ s.tenants, TOk c x
  cel : ∀ x ∈ s.cells, COk c x
  high : 0 ≤ s.high ∧ s.high ≤ 1073741824
  count : 0 ≤ s.count ∧ s.count ≤ 1073741824
  tick : 0 ≤ s.tick ∧ s.tick ≤ 1073741824
structure CfgOk (c : Config) : Prop where
  cells : (c.cells.length : Int) ≤ 1000
  zones : (c.zones.length : Int) ≤ 1000
  tenants : (c.tenants.length : Int) ≤ 1000
  versions : 1 ≤ (c.versions.length : Int) ∧ (c.versions.length : Int) ≤ 1000
  reg : RegOk c
  lease : 0 ≤ c.lease ∧ c.lease ≤ 1073741824
  regions : 0 ≤ c.regions ∧ c.regions ≤ 1000
theorem CfgOk.small {c : Config} {s : State} (hc : CfgOk c) (hi : Inv c s) : Small c s :=
  ⟨hc.cells, hc.zones, hc.tenants, by have := hi.tl; have := hc.tenants; omega, by have := hi.cl; have := hc.cells; omega⟩
def actS (c : Config) (s : State) (e : Entry) : State × Int :=
  if e.kind = 1 then placeS c s e (tn s e.tenant)
  else if e.kind = 2 then grantS c s e (tn s e.tenant) (cn s e.cell)
  else if e.kind = 3 then cutS s e (tn s e.tenant)
  else if e.kind = 4 then standbyS c s e (tn s e.tenant)
  else if e.kind = 5 then readyS s e (tn s e.tenant) (cn s e.cell)
  else if e.kind = 6 then migrateS c s e (tn s e.tenant)
  else if e.kind = 7 then abandonS s e (tn s e.tenant)
  else if e.kind = 8 then shedS c s e (tn s e.tenant)
  else if e.kind = 9 then (if (cn s e.cell).mode = e.num then err 4 else (setC s e.cell { cn s e.cell with mode := e.num, since := e.tick }, 0))
  else if e.kind = 10 then wantS c s e (cn s e.cell) (vn c e.num)
  else if e.kind = 11 then runsS s e (cn s e.cell)
  else if e.kind = 12 then proveS c s e
  else if e.kind = 13 then (if hasB s.evacuating e.other = decide (e.num = 1) then err 4 else ({ s with evacuating := xorI s.evacuating (shl1 e.other) }, 0))
  else if e.kind = 14 then expandS c s
  else if e.kind = 15 then (if s.high = s.low then err 4 else ({ s with low := s.high }, 0))
  else (s, 0)
def applyS (c : Config) (s : State) (e : Entry) : State × Int :=
  if validR c e = false then err 1 else if 4096 ≤ s.count then err 2 else if e.tick < s.tick then err 3
  else actS c { s with tick := e.tick, count := s.count + 1 } e
section
variable {h0 h : Heap} {rs X : List PT} {L1 L2 : PT} {K : KT} {b4 : Nat} {cs : List IV} {s : State} {v : IV}
theorem act_tail {f : FuncId} {args : IV → List IV} {az : List IV} {out : State × Int} (hf : StT f args s out) (r : Rep s v L1 L2) (hargs : az = args v) (S : Own h0 (L1 :: L2 :: [(b4, some ⟨8, Z3, [cs]⟩)] :: X) h) (hcs : 8 = cs.length) (hd : ∀ h' A B, Own h0 (A :: B :: X) h' → Own h0 (A :: B :: rs) h')
    (k : ∀ v' L1' L2' h', Rep out.1 v' L1' L2' → Own h0 (L1' :: L2' :: rs) h' → K (.tup [v', .n out.2]) h') :
    Z5 PP f az h fun v1 h1 => oD (Zg v1 0) h1 fun v2 => oD (Zg v1 1) h1 fun v3 => oS (Z9 PP Z3 (.ptr b4 0 0) v2 h1) h1 fun h2 => oD (Z1 PP Z3 (.ptr b4 0 0) h2) h2 fun v => K (.tup [v, v3]) h2 := by
  subst hargs
  refine hf r S fun v' M1 M2 h1 r1 S1 => ?_
  obtain ⟨a, b, rfl, l1, l2⟩ := r1.ex
  try simp +contextual (disch := omega)
  refine S1.up2.put (new := svc out.1 a b) rfl (by simp) hcs (svc_ones _ a b l1.one.2 l2.one.2) fun h6 S6 => ?_
  have g := S6.at0
  try simp +contextual (disch := omega) [ld_b g]
  exact k _ _ _ _ r1 (hd _ _ _ S6.drop)
end
set_option maxHeartbeats 2000000 in
theorem Z5b {c : Config} {s : State} {e : Entry} (hc : CfgOk c) (hi : Inv c s) : FunP PP Z30 [c.v, s.v, e.v] (RepR (applyS c s e)) := by
  intro h K k0
  refine Zt.call ?_
  refine (Own.start h).box fun b1 h1 S1 => ?_
  refine S1.box fun b2 h2 S2 => ?_
  refine S2.box fun b3 h3 S3 => ?_
  refine S3.alloc ZH fun b4 h4 S4 => ?_
  generalize hq : applyS c s e = q at k0
  have k : ∀ v' L1' L2' h', Rep q.1 v' L1' L2' → Own h (L1' :: L2' :: []) h' → K (.tup [v', .n q.2]) h' := fun v' L1 L2 h' r S => k0 _ [L1, L2] _ ⟨v', L1, L2, rfl, rfl, r⟩ S
  clear k0
  unfold applyS at hq
  have zap : ∀ {A B C : PT}, (∀ h' M N, Own h (M :: N :: A :: B :: C :: []) h' → Own h (M :: N :: []) h') := fun _ _ _ S => ((S.del 2).del 2).del 2
  have S5 := S4.nils
  have g1 := S4.at3; have g2 := S4.at2; have g3 := S4.at1
  clear S1 S2 S3
  simp +contextual (disch := omega) [Zt.j1g, ld_b g1, ld_b g3]
  refine (Z5M c e hc.regions.1).call ?_
  simp +contextual (disch := omega) [Zt.j2]
  cases hv : validR c e with
  | false =>
    rw [if_pos hv] at hq
    subst q
    simp +contextual (disch := omega) [Zt.j3g]
    first | exact no_tail S5 rfl zap k | exact no_tail' S5 rfl zap k
  | true =>
  rw [if_neg (by simp [hv])] at hq
  simp +contextual (disch := omega) [Zt.j4g, ld_b g2, Zt.j5]
  by_cases hn : 4096 ≤ s.count
  · rw [if_pos hn] at hq
    subst q
    simp +contextual (disch := omega) [hn, Zt.j6g]
    first | exact no_tail S5 rfl zap k | exact no_tail' S5 rfl zap k
  rw [if_neg hn] at hq
  simp +contextual (disch := omega) [hn, Zt.j7g, ld_b g2, ld_b g3]
  by_cases ht : e.tick < s.tick
  · rw [if_pos ht] at hq
    subst q
    simp +contextual (disch := omega) [ht]
    first | exact no_tail S5 rfl zap k | exact no_tail' S5 rfl zap k
  rw [if_neg ht] at hq
  simp +contextual (disch := omega) [ht, Zt.j8g, ld_b g2]
  have sm := hc.small hi
  have hcn := hi.count
  refine (Z64 ⟨sm.stenants, sm.scells⟩).call S4 fun w Ls h5 r S6 => ?_
  obtain ⟨L1, L2, rfl, r⟩ := r
  obtain ⟨a, b, rfl, l1, l2⟩ := r.ex
  simp only [List.cons_append, List.nil_append] at S6
  refine (S6.mv 4 rfl).put (new := svc s a b) (by simp) (by simp) rfl (svc_ones _ a b l1.one.2 l2.one.2) fun h6 S7 => ?_
  have g2 := S7.at0; have g3 := S7.at4
  try simp +contextual (disch := omega) [Zt.j9g, ld_b g2, ld_b g3, w64]
  refine S7.store rfl (by simp) (by simp) (by simp [oneI]) fun h7 S8 => ?_
  try simp +contextual (disch := omega)
  refine S8.store rfl (by simp) (by simp) (by simp [oneI]) fun h8 S9 => ?_
  clear S5 S6 S7 S8 g1 g2 g3 S4
  obtain ⟨s1, hs1⟩ : ∃ s1 : State, s1 = { s with tick := e.tick, count := s.count + 1 } := ⟨_, rfl⟩
  have r1 : Rep s1 (SV s1 a b) L1 L2 := ⟨a, b, rfl, by subst hs1; exact l1, by subst hs1; exact l2⟩
  have S10 : Own h (L1 :: L2 :: [(b4, some ⟨8, Z3, [svc emptyS .snil .snil]⟩)] :: [(b2, some ⟨8, Z3, [svc s1 a b]⟩)] :: [(b3, some ⟨9, Z8, [e.c]⟩)] :: [(b1, some ⟨10, Z6, [c.c]⟩)] :: []) h8 := by subst hs1; exact S9.dn3
  rw [← hs1] at hq
  have i1 : Inv c s1 := by subst hs1; exact ⟨hi.tl, hi.cl, hi.ten, hi.cel, hi.high, by simp; omega, (right_of hv).tick⟩
  have m1 := hc.small i1
  have l1' : Sl 12 Za a (s1.tenants.map TState.c) L1 := by subst hs1; exact l1
  have l2' : Sl 4 Zj b (s1.cells.map CState.c) L2 := by subst hs1; exact l2
  clear S9 r l1 l2 hs1 hi sm
  have R := right_of hv
  have g1 := S10.at5; have g3 := S10.at4; have g2 := S10.at3
  have eb : EBd e := ⟨by have := R.tick; omega, by have := R.start; omega, by have := R.till; omega⟩
  have zk := hc.reg.zones
  have gtT : e.kind ≤ 8 → gt s1.tenants e.tenant = some (tn s1 e.tenant) ∧ TOk c (tn s1 e.tenant) := fun hk => by
    have := R.tenant hk; have := i1.tl
    obtain ⟨x, hx⟩ : ∃ x, s1.tenants[e.tenant.toNat]? = some x := ⟨_, List.getElem?_eq_getElem (by omega)⟩
    have hg : gt s1.tenants e.tenant = some x := gt_some.2 ⟨by omega, hx⟩
    simp only [tn, hg, Option.getD_some]
    exact ⟨trivial, i1.ten x (List.mem_of_getElem? hx)⟩
  have gtC0 : ∀ i : Int, 0 ≤ i → i < c.cells.length → gt s1.cells i = some (cn s1 i) ∧ COk c (cn s1 i) := fun i h0 h1 => by
    have := i1.cl
    obtain ⟨x, hx⟩ : ∃ x, s1.cells[i.toNat]? = some x := ⟨_, List.getElem?_eq_getElem (by omega)⟩
    have hg : gt s1.cells i = some x := gt_some.2 ⟨by omega, hx⟩
    simp only [cn, hg, Option.getD_some]
    exact ⟨trivial, i1.cel x (List.mem_of_getElem? hx)⟩
  have gtC := gtC0 e.cell
  have hls : -1099511627776 ≤ c.lease ∧ c.lease ≤ 1099511627776 := by have := hc.lease; omega
  have gtV : 0 ≤ e.num → e.num < c.versions.length → gt c.versions e.num = some (vn c e.num) := fun h0 h1 => by
    obtain ⟨x, hx⟩ : ∃ x, c.versions[e.num.toNat]? = some x := ⟨_, List.getElem?_eq_getElem (by omega)⟩
    have hg : gt c.versions e.num = some x := gt_some.2 ⟨h0, hx⟩
    simp only [vn, hg, Option.getD_some]
  have fin : ∀ (s2 : State) (M1 M2 : PT) (h' : Heap), q = (s2, 0) → Rep s2 (SV s2 a b) M1 M2 → Own h (M1 :: M2 :: [(b4, some ⟨8, Z3, [svc emptyS .snil .snil]⟩)] :: [(b2, some ⟨8, Z3, [svc s2 a b]⟩)] :: [(b3, some ⟨9, Z8, [e.c]⟩)] :: [(b1, some ⟨10, Z6, [c.c]⟩)] :: []) h' →
      Zt.j60 K (.ptr b2 0 0) (.ptr b4 0 0) h' := by
    intro s2 M1 M2 h' hq r S
    subst hq
    have g2 := S.at3
    simp +contextual (disch := omega) [Zt.j60, ld_b g2]
    refine S.up2.put (new := svc s2 a b) rfl (by simp) rfl (svc_ones _ a b l1'.one.2 l2'.one.2) fun h8 S10 => ?_
    have g4 := S10.at0
    try simp +contextual (disch := omega) [ld_b g4]
    exact k _ _ _ _ r (zap _ _ _ S10.drop)
  simp +contextual (disch := omega) [Zt.j10g, ld_b g3, Zt.j11g, Zt.j12]
  unfold actS at hq
  by_cases k1 : e.kind = 1
  · rw [if_pos k1] at hq
    subst q
    simp +contextual (disch := omega) [k1, Zt.j13g, ld_b g1, ld_b g2, ld_b g3]
    exact act_tail (Z5R m1 i1.tl zk (gtT (by omega)).1 (gtC (by have := R.cell; omega) (by have := R.cell; omega)).1 fun ho => ⟨_, (gtC0 e.other ho (by have := R.other; omega)).1⟩) r1 rfl S10 rfl zap k
  rw [if_neg k1] at hq
  simp +contextual (disch := omega) [k1, Zt.j14g, Zt.j15]
  by_cases k2 : e.kind = 2
  · rw [if_pos k2] at hq
    subst q
    simp +contextual (disch := omega) [k2, Zt.j16g, ld_b g1, ld_b g2, ld_b g3]
    exact act_tail (Z5Z m1 i1.tl (gtT (by omega)).1 (gtC (by have := R.cell; omega) (by have := R.cell; omega)).1 eb hls (by have := (gtT (by omega)).2.epoch; omega)) r1 rfl S10 rfl zap k
  rw [if_neg k2] at hq
  simp +contextual (disch := omega) [k2, Zt.j17g, Zt.j18]
  by_cases k3 : e.kind = 3
  · rw [if_pos k3] at hq
    subst q
    simp +contextual (disch := omega) [k3, Zt.j19g, ld_b g1, ld_b g2, ld_b g3]
    exact act_tail (Z5S (gtT (by omega)).1 R.tick) r1 rfl S10 rfl zap k
  rw [if_neg k3] at hq
  simp +contextual (disch := omega) [k3, Zt.j20g, Zt.j21]
  by_cases k4 : e.kind = 4
  · rw [if_pos k4] at hq
    subst q
    simp +contextual (disch := omega) [k4, Zt.j22g, ld_b g1, ld_b g2, ld_b g3]
    exact act_tail (Z5V m1 i1.tl zk (gtT (by omega)).1 fun h0 => ⟨_, (gtC h0 (by have := R.cell4; omega)).1⟩) r1 rfl S10 rfl zap k
  rw [if_neg k4] at hq
  simp +contextual (disch := omega) [k4, Zt.j23g, Zt.j24]
  by_cases k5 : e.kind = 5
  · rw [if_pos k5] at hq
    subst q
    simp +contextual (disch := omega) [k5, Zt.j25g, ld_b g1, ld_b g2, ld_b g3]
    exact act_tail (Z5T (gtT (by omega)).1 (gtC (by have := R.cell; omega) (by have := R.cell; omega)).1) r1 rfl S10 rfl zap k
  rw [if_neg k5] at hq
  simp +contextual (disch := omega) [k5, Zt.j26g, Zt.j27]
  by_cases k6 : e.kind = 6
  · rw [if_pos k6] at hq
    subst q
    simp +contextual (disch := omega) [k6, Zt.j28g, ld_b g1, ld_b g2, ld_b g3]
    exact act_tail (Z5W m1 i1.tl zk (gtT (by omega)).1 (gtC (by have := R.cell; omega) (by have := R.cell; omega)).1) r1 rfl S10 rfl zap k
  rw [if_neg k6] at hq
  simp +contextual (disch := omega) [k6, Zt.j29g, Zt.j30]
  by_cases k7 : e.kind = 7
  · rw [if_pos k7] at hq
    subst q
    simp +contextual (disch := omega) [k7, Zt.j31g, ld_b g1, ld_b g2, ld_b g3]
    exact act_tail (Z5U (gtT (by omega)).1) r1 rfl S10 rfl zap k
  rw [if_neg k7] at hq
  simp +contextual (disch := omega) [k7, Zt.j32g, Zt.j33]
  by_cases k8 : e.kind = 8
  · rw [if_pos k8] at hq
    subst q
    simp +contextual (disch := omega) [k8, Zt.j34g, ld_b g1, ld_b g2, ld_b g3]
    exact act_tail (Z5X m1 i1.tl (gtT (by omega)).1 fun hs => ⟨_, (gtC0 _ ((gtT (by omega)).2.shed hs) (gtT (by omega)).2.home.2).1⟩) r1 rfl S10 rfl zap k
  rw [if_neg k8] at hq
  simp +contextual (disch := omega) [k8, Zt.j35g, Zt.j36]
  by_cases k9 : e.kind = 9
  · rw [if_pos k9] at hq
    simp +contextual (disch := omega) [k9, Zt.j37g, ld_b g1, ld_b g2, ld_b g3]
    obtain ⟨hy, -⟩ := gtC (by have := R.cell; omega) (by have := R.cell; omega)
    generalize cn s1 e.cell = y at hy hq
    obtain ⟨hy0, hy1⟩ := gt_some.1 hy
    have hy2 : (s1.cells.map CState.c)[e.cell.toNat]? = some y.c := by simp [hy1]
    obtain ⟨bc, rfl, rfl, hclt⟩ := l2'.at_ hy2
    simp only [List.length_map] at g2 S10 fin l2'
    have gc := S10.at1
    have ic := Z1a (k := .i64) (lo := 0) hy0 (gt_lt hy).2 gc
    have qc := fun (o : Nat) (t : TypeId) => ld_p (P := PP) (o := o) t gc hy2
    try simp +contextual (disch := omega) [ld_b g2, ld_b g3, ic, qc]
    by_cases hm : y.mode = e.num
    · rw [if_pos hm] at hq
      subst q
      simp +contextual (disch := omega) [hm]
      first | exact no_tail S10 rfl zap k | exact no_tail' S10 rfl zap k
    · rw [if_neg hm] at hq
      try simp +contextual (disch := omega) [hm, Zt.j38g, ld_b g2, ld_b g3, ic]
      refine S10.swap.storeE hy2 rfl (by simp) (by simp) (by simp [oneI]) fun h9 S11 => ?_
      have hy3 := set_at (y := splice 0 [.n e.num] y.c) hy2
      have g3 := S11.at4; have g2 := S11.at3; have gc := S11.at0
      have ic := Z1a (k := .i64) (lo := 0) hy0 (gt_lt hy).2 gc
      try simp +contextual (disch := omega) [ld_b g2, ld_b g3, Zb, ic]
      refine S11.storeE hy3 rfl (by simp) (by simp) (by simp [oneI]) fun h10 S12 => ?_
      rw [set_set] at S12
      refine fin (setC s1 e.cell { y with mode := e.num, since := e.tick }) _ _ _ hq.symm ?_ S12.swap
      exact Rep.setC l1' e.cell { y with mode := e.num, since := e.tick }
  rw [if_neg k9] at hq
  simp +contextual (disch := omega) [k9, Zt.j39g, Zt.j40]
  by_cases k10 : e.kind = 10
  · rw [if_pos k10] at hq
    subst q
    simp +contextual (disch := omega) [k10, Zt.j41g, ld_b g1, ld_b g2, ld_b g3]
    exact act_tail (Z60 m1 (gtC (by have := R.cell; omega) (by have := R.cell; omega)).1 (gtV (by have := R.num; omega) (by have := R.num; omega))) r1 rfl S10 rfl zap k
  rw [if_neg k10] at hq
  simp +contextual (disch := omega) [k10, Zt.j42g, Zt.j43]
  by_cases k11 : e.kind = 11
  · rw [if_pos k11] at hq
    subst q
    simp +contextual (disch := omega) [k11, Zt.j44g, ld_b g1, ld_b g2, ld_b g3]
    exact act_tail (Z61 m1.stenants (gtC (by have := R.cell; omega) (by have := R.cell; omega)).1) r1 rfl S10 rfl zap k
  rw [if_neg k11] at hq
  simp +contextual (disch := omega) [k11, Zt.j45g, Zt.j46]
  by_cases k12 : e.kind = 12
  · rw [if_pos k12] at hq
    subst q
    simp +contextual (disch := omega) [k12, Zt.j47g, ld_b g1, ld_b g2, ld_b g3]
    exact act_tail (Z62 m1 (by have := R.num; omega) eb (fun x hx => by have := (i1.cel x hx).since; omega)) r1 rfl S10 rfl zap k
  rw [if_neg k12] at hq
  simp +contextual (disch := omega) [k12, Zt.j48g, Zt.j49]
  by_cases k13 : e.kind = 13
  · rw [if_pos k13] at hq
    simp +contextual (disch := omega) [k13, Zt.j50g, ld_b g1, ld_b g2, ld_b g3]
    have ro := R.region (by omega)
    refine (Z2p _ _).call ?_
    try simp +contextual (disch := omega) [ld_b g3, Zb]
    refine bK'_b (fun hm => ?_) (fun hm => ?_)
    · rw [if_pos (by simpa using hm)] at hq
      subst q
      first | exact no_tail S10 rfl zap k | exact no_tail' S10 rfl zap k
    · rw [if_neg (by simpa using hm)] at hq
      try simp +contextual (disch := omega) [Zt.j51g, ld_b g2, ld_b g3, convI, wu64, ar_shl1, ar_xor]
      refine (S10.mv 3 rfl).store rfl (by simp) (by simp) (by simp [oneI]) fun h9 S11 => ?_
      exact fin { s1 with evacuating := xorI s1.evacuating (shl1 e.other) } L1 L2 _ hq.symm ⟨_, _, rfl, l1', l2'⟩ S11.dn3
  rw [if_neg k13] at hq
  simp +contextual (disch := omega) [k13, Zt.j52g, Zt.j53]
  by_cases k14 : e.kind = 14
  · rw [if_pos k14] at hq
    subst q
    simp +contextual (disch := omega) [k14, Zt.j54g, ld_b g1, ld_b g2, ld_b g3]
    exact act_tail (Z63 m1 (by have := i1.high; omega) (fun x hx => ⟨(i1.cel x hx).running, (i1.cel x hx).wanted⟩)) r1 rfl S10 rfl zap k
  rw [if_neg k14] at hq
  simp +contextual (disch := omega) [k14, Zt.j55g, Zt.j56]
  by_cases k15 : e.kind = 15
  · rw [if_pos k15] at hq
    simp +contextual (disch := omega) [k15, Zt.j57g, ld_b g1, ld_b g2, ld_b g3]
    by_cases hm : s1.high = s1.low
    · rw [if_pos hm] at hq
      subst q
      simp +contextual (disch := omega) [hm]
      first | exact no_tail S10 rfl zap k | exact no_tail' S10 rfl zap k
    · rw [if_neg hm] at hq
      simp +contextual (disch := omega) [hm, Zt.j58g, ld_b g2]
      refine (S10.mv 3 rfl).store rfl (by simp) (by simp) (by simp [oneI]) fun h9 S11 => ?_
      exact fin { s1 with low := s1.high } L1 L2 _ hq.symm ⟨_, _, rfl, l1', l2'⟩ S11.dn3
  rw [if_neg k15] at hq
  simp +contextual (disch := omega) [k15, Zt.j59g]
  exact fin s1 L1 L2 _ hq.symm r1 S10
end Go.Ideal
namespace Go.Ideal
open Go.Proofs
set_option maxRecDepth 100000
theorem Inv.setT {c : Config} {s : State} (hi : Inv c s) (i : Int) {x : TState} (hx : TOk c x) : Inv c (setT s i x) := by
  refine ⟨by simpa [Ideal.setT] using hi.tl, hi.cl, fun y hy => ?_, hi.cel, hi.high, hi.count, hi.tick⟩
  rcases List.mem_or_eq_of_mem_set hy with h | h
  · exact hi.ten y h
  · subst h; exact hx
theorem Inv.setC {c : Config} {s : State} (hi : Inv c s) (i : Int) {x : CState} (hx : COk c x) : Inv c (setC s i x) := by
  refine ⟨hi.tl, by simpa [Ideal.setC] using hi.cl, hi.ten, fun y hy => ?_, hi.high, hi.count, hi.tick⟩
  rcases List.mem_or_eq_of_mem_set hy with h | h
  · exact hi.cel y h
  · subst h; exact hx
theorem inv_fit {c : Config} {s s' : State} (hi : Inv c s) (h : fitS c s = (s', 0)) : Inv c s' := by
  unfold fitS at h
  split at h
  · cases h; exact hi
  · simp [err] at h
set_option maxHeartbeats 2000000 in
theorem inv_act {c : Config} {s s' : State} {e : Entry} (hi : Inv c s) (hv : validR c e = true) (h : actS c s e = (s', 0)) : Inv c s' := by
  have R := right_of hv
  have gtT : e.kind ≤ 8 → TOk c (tn s e.tenant) := fun hk => by
    have := R.tenant hk; have := hi.tl
    obtain ⟨x, hx⟩ : ∃ x, s.tenants[e.tenant.toNat]? = some x := ⟨_, List.getElem?_eq_getElem (by omega)⟩
    have hg : gt s.tenants e.tenant = some x := gt_some.2 ⟨by omega, hx⟩
    simp only [tn, hg, Option.getD_some]
    exact hi.ten x (List.mem_of_getElem? hx)
  have gtC : 0 ≤ e.cell → e.cell < c.cells.length → COk c (cn s e.cell) := fun h0 h1 => by
    have := hi.cl
    obtain ⟨x, hx⟩ : ∃ x, s.cells[e.cell.toNat]? = some x := ⟨_, List.getElem?_eq_getElem (by omega)⟩
    have hg : gt s.cells e.cell = some x := gt_some.2 ⟨by omega, hx⟩
    simp only [cn, hg, Option.getD_some]
    exact hi.cel x (List.mem_of_getElem? hx)
  unfold actS at h
  by_cases k1 : e.kind = 1
  · rw [if_pos k1] at h
    have t := gtT (by omega)
    have rc := R.cell (by omega); have ro := R.other k1
    unfold placeS at h
    repeat' split at h
    all_goals first | (simp [err] at h; done) | skip
    refine inv_fit (hi.setT _ ?_) h
    exact ⟨by first | omega | (simp only; omega), by first | omega | (simp only; omega), t.next, t.target, fun _ => by first | omega | (simp only; omega), fun _ => by first | omega | (simp only; omega), t.epoch, t.till⟩
  rw [if_neg k1] at h
  by_cases k2 : e.kind = 2
  · rw [if_pos k2] at h
    have t := gtT (by omega)
    have rc := R.cell (by omega)
    have re := R.epoch
    unfold grantS at h
    split at h
    · simp [err] at h
    split at h
    · simp [err] at h
    split at h
    · rename_i hx; simp only [err, Prod.mk.injEq] at h; exact absurd h.2 hx
    refine inv_fit (hi.setT _ ?_) h
    have t1 := t.home; have t2 := t.standby; have t3 := t.next; have t4 := t.target; have t5 := t.shed; have t6 := t.placed
    unfold moved
    simp only
    split
    · exact ⟨t.home, t.standby, t.next, t.target, t.shed, t.placed, re, R.till⟩
    · split
      · exact ⟨by first | omega | (simp only; omega), by first | omega | (simp only; omega), by first | omega | (simp only; omega), by first | omega | (simp only; omega), by simp, fun _ => by first | omega | (simp only; omega), re, R.till⟩
      · exact ⟨by first | omega | (simp only; omega), t.standby, t.next, by first | omega | (simp only; omega), fun _ => by first | omega | (simp only; omega), fun _ => by first | omega | (simp only; omega), re, R.till⟩
  rw [if_neg k2] at h
  by_cases k3 : e.kind = 3
  · rw [if_pos k3] at h
    have t := gtT (by omega)
    unfold cutS at h
    repeat' split at h
    all_goals first | (simp [err] at h; done) | skip
    cases h
    refine hi.setT _ ?_
    exact ⟨t.home, t.standby, t.next, t.target, t.shed, t.placed, t.epoch, by have := t.till; have := R.tick; simp only [cutW]; omega⟩
  rw [if_neg k3] at h
  by_cases k4 : e.kind = 4
  · rw [if_pos k4] at h
    have t := gtT (by omega)
    have rc := R.cell4 k4
    unfold standbyS at h
    repeat' split at h
    all_goals first | (simp [err] at h; done) | skip
    all_goals refine inv_fit (hi.setT _ ?_) h
    all_goals exact ⟨t.home, t.standby, by first | omega | (simp only; omega), t.target, t.shed, t.placed, t.epoch, t.till⟩
  rw [if_neg k4] at h
  by_cases k5 : e.kind = 5
  · rw [if_pos k5] at h
    have t := gtT (by omega)
    have rc := R.cell (by omega)
    unfold readyS at h
    repeat' split at h
    all_goals first | (simp [err] at h; done) | skip
    cases h
    refine hi.setT _ ?_
    exact ⟨t.home, by first | omega | (simp only; omega), by first | omega | (simp only; omega), t.target, t.shed, t.placed, t.epoch, t.till⟩
  rw [if_neg k5] at h
  by_cases k6 : e.kind = 6
  · rw [if_pos k6] at h
    have t := gtT (by omega)
    have rc := R.cell (by omega)
    unfold migrateS at h
    repeat' split at h
    all_goals first | (simp [err] at h; done) | skip
    refine inv_fit (hi.setT _ ?_) h
    exact ⟨t.home, t.standby, t.next, by first | omega | (simp only; omega), t.shed, t.placed, t.epoch, t.till⟩
  rw [if_neg k6] at h
  by_cases k7 : e.kind = 7
  · rw [if_pos k7] at h
    have t := gtT (by omega)
    unfold abandonS at h
    repeat' split at h
    all_goals first | (simp [err] at h; done) | skip
    cases h
    refine hi.setT _ ?_
    exact ⟨t.home, t.standby, t.next, by have := t.target; first | omega | (simp only; omega), t.shed, t.placed, t.epoch, t.till⟩
  rw [if_neg k7] at h
  by_cases k8 : e.kind = 8
  · rw [if_pos k8] at h
    have t := gtT (by omega)
    have t4 := t.target; have tp := t.placed
    unfold shedS at h
    split at h
    · split at h
      · simp [err] at h
      · rename_i hx
        split at h
        · simp [err] at h
        · cases h
          refine hi.setT _ ?_
          refine ⟨t.home, t.standby, t.next, by first | omega | (simp only; omega), fun _ => ?_, t.placed, t.epoch, t.till⟩
          simp only
          refine tp ?_
          simp only [Bool.or_eq_true, Bool.not_eq_true'] at hx
          cases hpp : (tn s e.tenant).placed
          · exact absurd (.inl hpp) hx
          · rfl
    · split at h
      · simp [err] at h
      · split at h
        · simp [err] at h
        · refine inv_fit (hi.setT _ ?_) h
          exact ⟨t.home, t.standby, t.next, t.target, by simp, t.placed, t.epoch, t.till⟩
  rw [if_neg k8] at h
  by_cases k9 : e.kind = 9
  · rw [if_pos k9] at h
    have rc := R.cell (by omega)
    have t := gtC (by omega) (by omega)
    split at h
    · simp [err] at h
    · cases h
      refine hi.setC _ ?_
      exact ⟨R.tick, t.running, t.wanted⟩
  rw [if_neg k9] at h
  by_cases k10 : e.kind = 10
  · rw [if_pos k10] at h
    have rc := R.cell (by omega)
    have rn := R.num (by omega)
    have t := gtC (by omega) (by omega)
    unfold wantS at h
    repeat' split at h
    all_goals first | (simp [err] at h; done) | skip
    cases h
    refine hi.setC _ ?_
    exact ⟨t.since, t.running, by first | omega | (simp only; omega)⟩
  rw [if_neg k10] at h
  by_cases k11 : e.kind = 11
  · rw [if_pos k11] at h
    have rc := R.cell (by omega)
    have rn := R.num (by omega)
    have t := gtC (by omega) (by omega)
    unfold runsS at h
    repeat' split at h
    all_goals first | (simp [err] at h; done) | skip
    cases h
    refine hi.setC _ ?_
    exact ⟨R.tick, by first | omega | (simp only; omega), t.wanted⟩
  rw [if_neg k11] at h
  by_cases k12 : e.kind = 12
  · rw [if_pos k12] at h
    unfold proveS at h
    repeat' split at h
    all_goals first | (simp [err] at h; done) | skip
    cases h
    exact ⟨hi.tl, hi.cl, hi.ten, hi.cel, hi.high, hi.count, hi.tick⟩
  rw [if_neg k12] at h
  by_cases k13 : e.kind = 13
  · rw [if_pos k13] at h
    repeat' split at h
    all_goals first | (simp [err] at h; done) | skip
    cases h
    exact ⟨hi.tl, hi.cl, hi.ten, hi.cel, hi.high, hi.count, hi.tick⟩
  rw [if_neg k13] at h
  by_cases k14 : e.kind = 14
  · rw [if_pos k14] at h
    unfold expandS at h
    have := hi.high
    repeat' split at h
    all_goals first | (simp [err] at h; done) | skip
    cases h
    exact ⟨hi.tl, hi.cl, hi.ten, hi.cel, by first | omega | (simp only; omega), hi.count, hi.tick⟩
  rw [if_neg k14] at h
  by_cases k15 : e.kind = 15
  · rw [if_pos k15] at h
    split at h
    · simp [err] at h
    cases h
    exact ⟨hi.tl, hi.cl, hi.ten, hi.cel, hi.high, hi.count, hi.tick⟩
  rw [if_neg k15] at h
  cases h
  exact hi
theorem inv_apply {c : Config} {s s' : State} {e : Entry} (hi : Inv c s) (h : applyS c s e = (s', 0)) : Inv c s' := by
  unfold applyS at h
  split at h
  · simp [err] at h
  split at h
  · simp [err] at h
  split at h
  · simp [err] at h
  rename_i hv hn ht
  have := hi.count
  refine inv_act (s := { s with tick := e.tick, count := s.count + 1 }) ?_ (by simpa using hv) h
  exact ⟨hi.tl, hi.cl, hi.ten, hi.cel, hi.high, by first | omega | (simp only; omega), (right_of (show validR c e = true by simpa using hv)).tick⟩
def newState (c : Config) : State := ⟨0, 0, List.replicate c.tenants.length ⟨false, false, -1, -1, -1, -1, 0, ⟨-1, 0, 0, 0, 0⟩⟩, List.replicate c.cells.length ⟨1, 0, 0, 0⟩, 1, 0, 0, 0⟩
theorem inv_new {c : Config} (hc : CfgOk c) : Inv c (newState c) := by
  have := hc.versions
  refine ⟨by simp [newState], by simp [newState], fun x hx => ?_, fun x hx => ?_, by simp [newState], by simp [newState], by simp [newState]⟩
  · have := List.eq_of_mem_replicate hx
    subst this
    exact ⟨by first | omega | (simp only; omega), by first | omega | (simp only; omega), by first | omega | (simp only; omega), by first | omega | (simp only; omega), by simp, by simp, by simp, by simp⟩
  · have := List.eq_of_mem_replicate hx
    subst this
    exact ⟨by simp, by first | omega | (simp only; omega), by first | omega | (simp only; omega)⟩
end Go.Ideal
namespace Go.Ideal
open Go.Proofs
set_option maxRecDepth 100000
def tp (b : Nat) (l : List Int) (i : Int) : PT := [(b, some ⟨2, ZX, [[.vs 1 (ints l), .n i]]⟩)]
def FunT (f : FuncId) (args : List IV) (m : Int) (Q : IV → Prop) : Prop :=
  ∀ {h0 h : Heap} {rs : List PT} {K : KT} (b : Nat) (l : List Int) (i : Int), 0 ≤ i → i ≤ 1099511627776 → (l.length : Int) ≤ 1099511627776 → Own h0 (tp b l i :: rs) h →
    (∀ r i' h', Q r → i ≤ i' → i' ≤ i + m → (l ≠ [] → i < i') → Own h0 (tp b l i' :: rs) h' → K r h') → Z5 PP f (.ptr b 0 0 :: args) h K
theorem tdiv_bd {a n : Int} (h0 : 0 ≤ a) (h1 : a ≤ 1099511627776) (h2 : 0 < n) : 0 ≤ a.tdiv n ∧ a.tdiv n ≤ 1099511627776 := by
  rw [Int.tdiv_eq_ediv_of_nonneg h0]
  exact ⟨Int.ediv_nonneg h0 (by omega), Int.le_trans (Int.ediv_le_self n h0) h1⟩
theorem ZN {n : Int} (h0n : 0 < n) (h1n : n ≤ 1000000) : FunT ZL [.n n] 1 (fun r => ∃ v, r = .n v ∧ 0 ≤ v ∧ v < n) := by
  intro h0 h rs K b l i i0 i1 hl S k
  refine Z2G.call ?_
  have g := S.at0
  try simp +contextual (disch := omega) [Z2G.eg, Z2G.j1g, ld_b g]
  by_cases h0l : l = []
  · subst h0l
    try simp +contextual (disch := omega)
    exact k _ i _ ⟨0, rfl, by omega, h0n⟩ (by omega) (by omega) (fun h => absurd rfl h) S
  · have hp : 0 < (l.length : Int) := by have := List.length_pos_iff.2 h0l; omega
    have hne : ¬ ((l.length : Int) = 0) := by omega
    have hm0 : 0 ≤ i.tmod (l.length : Int) := Int.tmod_nonneg _ i0
    have hm1 : i.tmod (l.length : Int) < l.length := Int.tmod_lt_of_pos _ hp
    have hq := tdiv_bd i0 i1 hp
    obtain ⟨x, hx⟩ : ∃ x, l[(i.tmod (l.length : Int)).toNat]? = some x := ⟨_, List.getElem?_eq_getElem (by omega)⟩
    have ix : ∀ h, Zf PP Zk (.vs 1 (ints l)) (.n (i.tmod (l.length : Int))) h = some (.fptr [.n x]) := fun h => Z1y hm0 (by simp [ints, hx])
    try simp +contextual (disch := omega) [h0l, Z2G.j2, ld_b g, ar_rem, ar_quo, ix, w64]
    refine S.store rfl (by simp) (by simp) (by simp [oneI]) fun h1 S1 => ?_
    refine (Z2b (by omega) (by omega)).call ?_
    have e1 := Int.emod_nonneg x (show (1073741824 : Int) ≠ 0 by omega)
    have e2 := Int.emod_lt_of_pos x (show (0 : Int) < 1073741824 by omega)
    try simp +contextual (disch := omega) [w64]
    refine (Z2b (by omega) (by omega)).call ?_
    refine k _ (i + 1) _ ⟨_, rfl, Int.emod_nonneg _ (by omega), Int.emod_lt_of_pos _ h0n⟩ (by omega) (by omega) (fun _ => by omega) S1
theorem Z1N {a z : Int} (h0 : -100000 ≤ a) (h1 : a ≤ z) (h2 : z ≤ 100000) : FunT Z1A [.n a, .n z] 1 (fun r => ∃ v, r = .n v ∧ a ≤ v ∧ v ≤ z) := by
  intro h0 h rs K b l i i0 i1 hl S k
  refine Z44.call ?_
  try simp +contextual (disch := omega) [Z44.e, w64]
  refine ZN (n := z - a + 1) (by omega) (by omega) b l i i0 i1 hl S fun r i' h' q j1 j2 j3 S1 => ?_
  obtain ⟨v, rfl, v0, v1⟩ := q
  try simp +contextual (disch := omega) [w64]
  exact k _ i' _ ⟨_, rfl, by omega, by omega⟩ j1 j2 j3 S1
theorem Z1G {n : Int} (h0n : 0 < n) (h1n : n ≤ 1000000) : FunT Z1m [.n n] 1 (fun r => ∃ v, r = .bool v) := by
  intro h0 h rs K b l i i0 i1 hl S k
  refine Z4D.call ?_
  try simp +contextual (disch := omega)
  refine ZN h0n h1n b l i i0 i1 hl S fun r i' h' q j1 j2 j3 S1 => ?_
  obtain ⟨v, rfl, v0, v1⟩ := q
  try simp +contextual (disch := omega)
  exact k _ i' _ ⟨_, rfl⟩ j1 j2 j3 S1
theorem Z5c {h0 h : Heap} {rs : List PT} {K : KT} {b : Nat} {l : List Int} {i : Int} (S : Own h0 (tp b l i :: rs) h) (k : K (.bool (decide (i < l.length))) h) : Z5 PP Z3w [.ptr b 0 0] h K := by
  refine Z45.call ?_
  have g := S.at0
  try simp +contextual (disch := omega) [Z45.e, ld_b g]
  exact k
theorem Z5d {h0 h : Heap} {rs : List PT} {K : KT} {l : List Int} (S : Own h0 rs h) (k : ∀ b h', Own h0 (tp b l 0 :: rs) h' → K (.ptr b 0 0) h') : Z5 PP Z2X [.vs 1 (ints l)] h K := by
  refine Z43.call ?_
  have hb : Zo PP ZX [(0, .vs 1 (ints l))] = some (.agg [.vs 1 (ints l), .n 0]) := by
    simp only [Zo, Z5C, Z5B]; rfl
  try simp +contextual (disch := omega) [Z43.e, hb]
  exact S.box fun b h' S' => k b h' S'
theorem Z3l (x : List Int) (hx : (x.length : Int) ≤ 100000) : ∀ {h0 h : Heap} {rs : List PT} {K : KT} (b : Nat) (l : List Int) (i : Int), 0 ≤ i → i ≤ 1099511627776 → (l.length : Int) ≤ 1099511627776 → Own h0 (tp b l i :: rs) h →
    (∀ v i' h', i ≤ i' → i' ≤ i + 1 → Own h0 (tp b l i' :: rs) h' → K (.n v) h') → Z5 PP Z2h [.ptr b 0 0, .vs 1 (ints x)] h K := by
  intro h0 h rs K b l i i0 i1 hl S k
  refine Z28.call ?_
  by_cases h0l : x = []
  · subst h0l
    try simp +contextual (disch := omega) [Z28.eg, Z28.j1g]
    exact k _ i _ (by omega) (by omega) S
  · have hp : 0 < (x.length : Int) := by have := List.length_pos_iff.2 h0l; omega
    try simp +contextual (disch := omega) [Z28.eg, Z28.j1g, h0l, Z28.j2]
    refine ZN (n := x.length) (by omega) (by omega) b l i i0 i1 hl S fun r i' h' q j1 j2 j3 S1 => ?_
    obtain ⟨v, rfl, v0, v1⟩ := q
    obtain ⟨y, hy⟩ : ∃ y, x[v.toNat]? = some y := ⟨_, List.getElem?_eq_getElem (by omega)⟩
    have ix : ∀ h, Zf PP Zk (.vs 1 (ints x)) (.n v) h = some (.fptr [.n y]) := fun h => Z1y v0 (by simp [ints, hy])
    try simp +contextual (disch := omega) [ix]
    exact k _ i' _ j1 j2 S1
@[simp] theorem build_none (a t : Int) : Zo PP Z8 [(0, .n a), (1, .n t), (2, .n (-1)), (3, .n (-1)), (4, .n (-1))] = some (Entry.mk a t (-1) (-1) (-1) 0 0 0 0).v := by
  simp only [Zo, Z5D, Z1L]
  rfl
theorem Z4o (a t : Int) : Fun PP Z2z [.n a, .n t] (Entry.mk a t (-1) (-1) (-1) 0 0 0 0).v := by
  refine FunQ.intro fun h => Z4H.call ?_
  refine (Own.start h).alloc Z1L fun b1 h1 S1 => ?_
  try simp +contextual (disch := omega)
  refine S1.put (new := (Entry.mk a t (-1) (-1) (-1) 0 0 0 0).c) rfl (by simp) rfl (by simp) fun h2 S2 => ?_
  have g := S2.at0
  try simp +contextual (disch := omega) [ld_b g]
  exact Ret.val S2 (by simp [Bel, Bels]) (by first | rfl | simp)
end Go.Ideal
namespace Go.Ideal
open Go.Proofs
set_option maxRecDepth 100000
def sel (p : Int → Bool) : Nat → Nat → List Int
  | 0, _ => []
  | n + 1, i => (if p i then [(i : Int)] else []) ++ sel p n (i + 1)
theorem sel_len (p : Int → Bool) : ∀ n i, (sel p n i).length ≤ n
  | 0, _ => by simp [sel]
  | n + 1, i => by have := sel_len p n (i + 1); simp only [sel, List.length_append]; split <;> simp <;> omega
def homes (c : Config) (t : Int) : List Int := sel (mayR c t) c.cells.length 0
def standbys (c : Config) (t home : Int) : List Int := sel (fun i => mayR c t i && apart c home i) c.cells.length 0
theorem Z5e {c : Config} (hz : ZonesOk c) (hc : (c.cells.length : Int) ≤ 1000) (t : Int) : Fun PP Z32 [c.v, .n t] (.vs 1 (ints (homes c t))) := by
  refine FunQ.intro fun h => Z1q.call ?_
  refine (Own.start h).box fun b1 h1 S1 => ?_
  have loop : ∀ (n i : Nat) (acc : List Int) (s : IV) (L : PT) (h2 : Heap), n + i = c.cells.length → acc.length ≤ i → Sl 1 Z0 s (ints acc) L → Own h (L :: [(b1, some ⟨c.c.length, Z6, [c.c]⟩)] :: []) h2 →
      homes c t = acc ++ sel (mayR c t) n i →
      Z1q.l1 (Ret (fun x => x = .vs 1 (ints (homes c t))) h) (.n t) (.ptr b1 0 0) s (.n i) h2 := by
    intro n
    induction n with
    | zero =>
      intro i acc s L h2 hi ha l S hq
      refine Z1q.l1_round ?_
      have g1 := S.at1
      have : i = c.cells.length := by omega
      simp +contextual (disch := omega) [Z1q.b1g, ld_b g1, this, Z1q.j5]
      exact Ret.sl l S (by simp) (by rw [hq]; simp [sel])
    | succ n ih =>
      intro i acc s L h2 hi ha l S hq
      refine Z1q.l1_round ?_
      have g1 := S.at1
      have hlt : i < c.cells.length := by omega
      simp +contextual (disch := omega) [Z1q.b1g, ld_b g1, hlt, Z1q.j3g]
      refine (Z2c hz t i).call ?_
      try simp +contextual (disch := omega)
      simp only [sel] at hq
      refine bK'_b (fun hm => ?_) (fun hm => ?_)
      · rw [if_pos hm] at hq
        try simp +contextual (disch := omega)
        refine Z3b l S rfl rfl rfl (by simp; omega) fun s' L' h3 l' S' => ?_
        try simp +contextual (disch := omega) [Z1q.j4g, w64]
        exact ih (i + 1) (acc ++ [(i : Int)]) s' L' h3 (by omega) (by simp; omega) (by simpa [ints] using l') S' (by rw [hq]; simp)
      · rw [if_neg (by simp [hm])] at hq
        try simp +contextual (disch := omega) [Z1q.j4g, w64]
        exact ih (i + 1) acc s L h2 (by omega) (by omega) l S (by simpa using hq)
  try simp +contextual (disch := omega) [Z1q.j1g, Z1q.j2g]
  exact loop c.cells.length 0 [] .snil [] h1 (by omega) (by simp) (Sl.nil 1 Z0) (S1.perm (by simp)) (by simp [homes])
theorem Z5f {c : Config} (hz : ZonesOk c) (hc : (c.cells.length : Int) ≤ 1000) (t home : Int) : Fun PP Z33 [c.v, .n t, .n home] (.vs 1 (ints (standbys c t home))) := by
  refine FunQ.intro fun h => Z1r.call ?_
  refine (Own.start h).box fun b1 h1 S1 => ?_
  have loop : ∀ (n i : Nat) (acc : List Int) (s : IV) (L : PT) (h2 : Heap), n + i = c.cells.length → acc.length ≤ i → Sl 1 Z0 s (ints acc) L → Own h (L :: [(b1, some ⟨c.c.length, Z6, [c.c]⟩)] :: []) h2 →
      standbys c t home = acc ++ sel (fun i => mayR c t i && apart c home i) n i →
      Z1r.l1 (Ret (fun x => x = .vs 1 (ints (standbys c t home))) h) (.n t) (.n home) (.ptr b1 0 0) s (.n i) h2 := by
    intro n
    induction n with
    | zero =>
      intro i acc s L h2 hi ha l S hq
      refine Z1r.l1_round ?_
      have g1 := S.at1
      have : i = c.cells.length := by omega
      simp +contextual (disch := omega) [Z1r.b1g, ld_b g1, this, Z1r.j5]
      exact Ret.sl l S (by simp) (by rw [hq]; simp [sel])
    | succ n ih =>
      intro i acc s L h2 hi ha l S hq
      refine Z1r.l1_round ?_
      have g1 := S.at1
      have hlt : i < c.cells.length := by omega
      simp +contextual (disch := omega) [Z1r.b1g, ld_b g1, hlt, Z1r.j3g]
      refine (Z2c hz t i).call ?_
      try simp +contextual (disch := omega) [ld_b g1]
      refine callB_fun (fun _ => Z57 hz home i) ?_
      try simp +contextual (disch := omega)
      simp only [sel] at hq
      refine bK'_b (fun hm => ?_) (fun hm => ?_)
      · rw [if_pos hm] at hq
        try simp +contextual (disch := omega)
        refine Z3b l S rfl rfl rfl (by simp; omega) fun s' L' h3 l' S' => ?_
        try simp +contextual (disch := omega) [Z1r.j4g, w64]
        exact ih (i + 1) (acc ++ [(i : Int)]) s' L' h3 (by omega) (by simp; omega) (by simpa [ints] using l') S' (by rw [hq]; simp)
      · rw [if_neg (by simp [hm])] at hq
        try simp +contextual (disch := omega) [Z1r.j4g, w64]
        exact ih (i + 1) acc s L h2 (by omega) (by omega) l S (by simpa using hq)
  try simp +contextual (disch := omega) [Z1r.j1g, Z1r.j2g]
  exact loop c.cells.length 0 [] .snil [] h1 (by omega) (by simp) (Sl.nil 1 Z0) (S1.perm (by simp)) (by simp [standbys])
end Go.Ideal
namespace Go.Ideal
open Go.Proofs
set_option maxRecDepth 100000
structure CfgV (c : Config) : Prop extends CfgOk c where
  cells1 : 1 ≤ (c.cells.length : Int)
  regions1 : 1 ≤ c.regions
  lease1 : 1 ≤ c.lease ∧ c.lease ≤ 1000
  bake1 : 0 ≤ c.bake ∧ c.bake ≤ 1000
def FunE (f : FuncId) (args : IV → List IV) (s : State) (m : Int) : Prop :=
  ∀ {h0 h : Heap} {rs : List PT} {K : KT} {L1 L2 : PT} {v : IV} (b : Nat) (l : List Int) (i : Int), 0 ≤ i → i + m ≤ 1000000 → (l.length : Int) ≤ 1000000 → Rep s v L1 L2 → Own h0 (tp b l i :: L1 :: L2 :: rs) h →
    (∀ (e : Entry) i' h', i ≤ i' → i' ≤ i + m → (l ≠ [] → i < i') → Own h0 (tp b l i' :: L1 :: L2 :: rs) h' → K e.v h') → Z5 PP f (.ptr b 0 0 :: args v) h K
def zeroE : Entry := ⟨0, 0, 0, 0, 0, 0, 0, 0, 0⟩
theorem Z69 {c : Config} {s : State} (hc : CfgV c) (hi : Inv c s) {tick : Int} (ht : 0 ≤ tick ∧ tick ≤ 2147483648) : FunE Z31 (fun v => [c.v, v, .n tick]) s 4 := by
  intro h0 h rs K L1 L2 v b l i i0 i1 hl r S k
  refine ZB.call ?_
  obtain ⟨a, z, rfl, l1, l2⟩ := r.ex
  refine S.box fun b5 h1 S1 => ?_
  refine S1.box fun b6 h2 S2 => ?_
  refine S2.alloc Z1L fun b8 h3 S3 => ?_
  try simp +contextual (disch := omega) [ZB.j1g]
  refine (Z4o _ _).call ?_
  try simp +contextual (disch := omega)
  refine S3.alloc Z1L fun b9 h4 S4 => ?_
  try simp +contextual (disch := omega)
  refine S4.put (new := (Entry.mk 16 tick (-1) (-1) (-1) 0 0 0 0).c) rfl (by simp) rfl (by simp) fun h5 S5 => ?_
  have S6 := S5.mv 4 rfl
  have g5 := S6.at4
  try simp +contextual (disch := omega) [ZB.j2g, ld_b g5]
  refine ZN (n := c.cells.length) (by have := hc.cells1; omega) (by have := hc.cells; omega) b l i i0 (by omega) (by omega) S6 fun q i2 h6 q1 j1 j2 j3 S7 => ?_
  obtain ⟨ci, rfl, ci0, ci1⟩ := q1
  have hcl := hi.cl
  obtain ⟨y, hy⟩ : ∃ y, s.cells[ci.toNat]? = some y := ⟨_, List.getElem?_eq_getElem (by omega)⟩
  have hyi := hi.cel y (List.mem_of_getElem? hy)
  have hy2 : (s.cells.map CState.c)[ci.toNat]? = some y.c := by simp [hy]
  obtain ⟨bc, rfl, rfl, hclt⟩ := l2.at_ hy2
  have g6 := S7.at3; have gc := S7.at6
  have ic := Z1a (k := .i64) (lo := 0) (len := s.cells.length) ci0 (by omega) gc
  have qc := fun (o : Nat) (t : TypeId) => ld_p (P := PP) (o := o) t gc hy2
  try simp +contextual (disch := omega) [ZB.j3g, ld_b g6, ic, qc]
  refine S7.alloc Z21 fun b11 h7 S8 => ?_
  try simp +contextual (disch := omega)
  refine S8.put (new := y.c) rfl (by simp) rfl (by simp) fun h8 S9 => ?_
  have S10 := (S9.mv 2 rfl).up2
  clear S1 S2 S3 S4 S5 S6 S7 S8 S9 g5 g6 gc ic qc S
  have S11 : Own h0 (tp b l i2 :: [(b9, some ⟨9, Z8, [(Entry.mk 16 tick (-1) (-1) (-1) 0 0 0 0).c]⟩)] :: [(b11, some ⟨4, Zj, [y.c]⟩)] :: [(b8, some ⟨9, Z8, [zeroE.c]⟩)] :: [(b6, some ⟨8, Z3, [svc s a (.sl bc 0 s.cells.length)]⟩)] :: [(b5, some ⟨10, Z6, [c.c]⟩)] :: L1 :: [(bc, some ⟨4, Zj, s.cells.map CState.c⟩)] :: rs) h8 := by simpa [show zeroE.c = [.n 0, .n 0, .n 0, .n 0, .n 0, .n 0, .n 0, .n 0, .n 0] from rfl] using S10
  clear S10
  have fin : ∀ (e : Entry) i' h', i2 ≤ i' → i' ≤ i2 + 3 → Own h0 (tp b l i' :: [(b9, some ⟨9, Z8, [e.c]⟩)] :: [(b11, some ⟨4, Zj, [y.c]⟩)] :: [(b8, some ⟨9, Z8, [zeroE.c]⟩)] :: [(b6, some ⟨8, Z3, [svc s a (.sl bc 0 s.cells.length)]⟩)] :: [(b5, some ⟨10, Z6, [c.c]⟩)] :: L1 :: [(bc, some ⟨4, Zj, s.cells.map CState.c⟩)] :: rs) h' → ZB.j27 K (.ptr b8 0 0) (.ptr b9 0 0) h' := by
    intro e i' h' q1 q2 S
    have g9 := S.at1
    simp +contextual (disch := omega) [ZB.j27, ld_b g9]
    refine (S.mv 3 rfl).put (new := e.c) rfl (by simp) rfl (by simp) fun h9 S12 => ?_
    have g8 := S12.at0
    try simp +contextual (disch := omega) [ld_b g8]
    refine k e i' h9 (by omega) (by omega) (fun hne => by have := j3 hne; omega) ?_
    simpa using ((((S12.drop.del 1).del 1).del 1).del 1)
  simp +contextual (disch := omega) [ZB.j4g]
  refine ZN (n := 12) (by omega) (by omega) b l i2 (by omega) (by omega) (by omega) S11 fun q i3 h9 q1 m1 m2 m3 S12 => ?_
  obtain ⟨d, rfl, d0, d1⟩ := q1
  have p7 : ZB.j7 K (.ptr b 0 0) (.ptr b8 0 0) (.ptr b9 0 0) (.n ci) h9 := by
    simp +contextual (disch := omega) [ZB.j7g]
    refine Z1N (a := 1) (z := 3) (by omega) (by omega) (by omega) b l i3 (by omega) (by omega) (by omega) S12 fun q i4 h10 q1 n1 n2 n3 S13 => ?_
    obtain ⟨v, rfl, v0, v1⟩ := q1
    try simp +contextual (disch := omega)
    refine S13.swap.store rfl (by simp) (by simp) (by simp [oneI]) fun h11 S14 => ?_
    try simp +contextual (disch := omega)
    refine S14.store rfl (by simp) (by simp) (by simp [oneI]) fun h12 S15 => ?_
    try simp +contextual (disch := omega)
    refine S15.store rfl (by simp) (by simp) (by simp [oneI]) fun h13 S16 => ?_
    exact fin ⟨9, tick, -1, ci, -1, 0, 0, 0, v⟩ i4 _ (by omega) (by omega) S16.swap
  have p10 : ZB.j10 K (.ptr b8 0 0) (.ptr b9 0 0) (.n ci) h9 := by
    simp +contextual (disch := omega) [ZB.j10g]
    refine S12.swap.store rfl (by simp) (by simp) (by simp [oneI]) fun h20 S20 => ?_
    have g9 := S20.at0; have g11 := S20.at2; have g8 := S20.at3; have g6 := S20.at4; have g5 := S20.at5
    try simp +contextual (disch := omega) [ld_b g9, ld_b g11, ld_b g6, ld_b g5, Zb]
    refine S20.store rfl (by simp) (by simp) (by simp [oneI]) fun h21 S21 => ?_
    have g9 := S21.at0; have g11 := S21.at2; have g8 := S21.at3; have g6 := S21.at4; have g5 := S21.at5
    try simp +contextual (disch := omega) [ld_b g9, ld_b g11, ld_b g6, ld_b g5, Zb]
    refine S21.store rfl (by simp) (by simp) (by simp [oneI]) fun h22 S22 => ?_
    have g9 := S22.at0; have g11 := S22.at2; have g8 := S22.at3; have g6 := S22.at4; have g5 := S22.at5
    try simp +contextual (disch := omega) [ld_b g9, ld_b g11, ld_b g6, ld_b g5, Zb]
    exact fin ⟨9, tick, -1, ci, -1, 0, 0, 0, 1⟩ i3 _ (by omega) (by omega) S22.swap
  have p13 : ZB.j13 K (.ptr b 0 0) (.ptr b5 0 0) (.ptr b8 0 0) (.ptr b9 0 0) (.n ci) h9 := by
    have g5 := S12.at5
    simp +contextual (disch := omega) [ZB.j13g, ld_b g5]
    refine ZN (n := c.versions.length) (by have := hc.versions; omega) (by have := hc.versions; omega) b l i3 (by omega) (by omega) (by omega) S12 fun q i4 h10 q1 n1 n2 n3 S13 => ?_
    obtain ⟨v, rfl, v0, v1⟩ := q1
    try simp +contextual (disch := omega)
    refine S13.swap.store rfl (by simp) (by simp) (by simp [oneI]) fun h20 S20 => ?_
    have g9 := S20.at0; have g11 := S20.at2; have g8 := S20.at3; have g6 := S20.at4; have g5 := S20.at5
    try simp +contextual (disch := omega) [ld_b g9, ld_b g11, ld_b g6, ld_b g5, Zb]
    refine S20.store rfl (by simp) (by simp) (by simp [oneI]) fun h21 S21 => ?_
    have g9 := S21.at0; have g11 := S21.at2; have g8 := S21.at3; have g6 := S21.at4; have g5 := S21.at5
    try simp +contextual (disch := omega) [ld_b g9, ld_b g11, ld_b g6, ld_b g5, Zb]
    refine S21.store rfl (by simp) (by simp) (by simp [oneI]) fun h22 S22 => ?_
    have g9 := S22.at0; have g11 := S22.at2; have g8 := S22.at3; have g6 := S22.at4; have g5 := S22.at5
    try simp +contextual (disch := omega) [ld_b g9, ld_b g11, ld_b g6, ld_b g5, Zb]
    exact fin ⟨10, tick, -1, ci, -1, 0, 0, 0, v⟩ i4 _ (by omega) (by omega) S22.swap
  have p16 : ZB.j16 K (.ptr b 0 0) (.n tick) (.ptr b5 0 0) (.ptr b8 0 0) (.ptr b9 0 0) (.n ci) (.ptr b11 0 0) h9 := by
    have g11 := S12.at2
    simp +contextual (disch := omega) [ZB.j16g, ld_b g11]
    refine S12.swap.store rfl (by simp) (by simp) (by simp [oneI]) fun h20 S20 => ?_
    have g9 := S20.at0; have g11 := S20.at2; have g8 := S20.at3; have g6 := S20.at4; have g5 := S20.at5
    try simp +contextual (disch := omega) [ld_b g9, ld_b g11, ld_b g6, ld_b g5, Zb]
    refine S20.store rfl (by simp) (by simp) (by simp [oneI]) fun h21 S21 => ?_
    have g9 := S21.at0; have g11 := S21.at2; have g8 := S21.at3; have g6 := S21.at4; have g5 := S21.at5
    try simp +contextual (disch := omega) [ld_b g9, ld_b g11, ld_b g6, ld_b g5, Zb]
    refine S21.store rfl (by simp) (by simp) (by simp [oneI]) fun h22 S22 => ?_
    have g9 := S22.at0; have g11 := S22.at2; have g8 := S22.at3; have g6 := S22.at4; have g5 := S22.at5
    try simp +contextual (disch := omega) [ld_b g9, ld_b g11, ld_b g6, ld_b g5, Zb]
    refine ZN (n := c.lease) (by have := hc.lease1; omega) (by have := hc.lease1; omega) b l i3 (by omega) (by omega) (by omega) S22.swap fun q i4 h10 q1 n1 n2 n3 S13 => ?_
    obtain ⟨v, rfl, v0, v1⟩ := q1
    have := hc.lease1
    try simp +contextual (disch := omega) [w64]
    refine S13.swap.store rfl (by simp) (by simp) (by simp [oneI]) fun h20 S20 => ?_
    have g9 := S20.at0; have g11 := S20.at2; have g8 := S20.at3; have g6 := S20.at4; have g5 := S20.at5
    try simp +contextual (disch := omega) [ld_b g9, ld_b g11, ld_b g6, ld_b g5, Zb]
    exact fin ⟨11, tick + v, -1, ci, -1, 0, 0, 0, y.wanted⟩ i4 _ (by omega) (by omega) S20.swap
  have p19 : ZB.j19 K (.ptr b 0 0) (.n tick) (.ptr b5 0 0) (.ptr b8 0 0) (.ptr b9 0 0) (.ptr b11 0 0) h9 := by
    have g11 := S12.at2
    have := hc.bake1
    simp +contextual (disch := omega) [ZB.j19g, ld_b g11]
    refine S12.swap.store rfl (by simp) (by simp) (by simp [oneI]) fun h20 S20 => ?_
    have g9 := S20.at0; have g11 := S20.at2; have g8 := S20.at3; have g6 := S20.at4; have g5 := S20.at5
    try simp +contextual (disch := omega) [ld_b g9, ld_b g11, ld_b g6, ld_b g5, Zb]
    refine S20.store rfl (by simp) (by simp) (by simp [oneI]) fun h21 S21 => ?_
    have g9 := S21.at0; have g11 := S21.at2; have g8 := S21.at3; have g6 := S21.at4; have g5 := S21.at5
    try simp +contextual (disch := omega) [ld_b g9, ld_b g11, ld_b g6, ld_b g5, Zb]
    try simp +contextual (disch := omega) [ld_b g5, w64]
    refine ZN (n := c.bake + 1) (by omega) (by omega) b l i3 (by omega) (by omega) (by omega) S21.swap fun q i4 h10 q1 n1 n2 n3 S13 => ?_
    obtain ⟨v, rfl, v0, v1⟩ := q1
    try simp +contextual (disch := omega) [w64]
    refine S13.swap.store rfl (by simp) (by simp) (by simp [oneI]) fun h20 S20 => ?_
    have g9 := S20.at0; have g11 := S20.at2; have g8 := S20.at3; have g6 := S20.at4; have g5 := S20.at5
    try simp +contextual (disch := omega) [ld_b g9, ld_b g11, ld_b g6, ld_b g5, Zb]
    exact fin ⟨12, tick + v, -1, -1, -1, 0, 0, 0, y.running⟩ i4 _ (by omega) (by omega) S20.swap
  have p22 : ZB.j22 K (.ptr b 0 0) (.ptr b5 0 0) (.ptr b6 0 0) (.ptr b8 0 0) (.ptr b9 0 0) h9 := by
    have g5 := S12.at5
    simp +contextual (disch := omega) [ZB.j22g, ld_b g5]
    refine ZN (n := c.regions) (by have := hc.regions1; omega) (by have := hc.regions; omega) b l i3 (by omega) (by omega) (by omega) S12 fun q i4 h10 q1 n1 n2 n3 S13 => ?_
    obtain ⟨v, rfl, v0, v1⟩ := q1
    try simp +contextual (disch := omega)
    refine S13.swap.store rfl (by simp) (by simp) (by simp [oneI]) fun h20 S20 => ?_
    have g9 := S20.at0; have g11 := S20.at2; have g8 := S20.at3; have g6 := S20.at4; have g5 := S20.at5
    try simp +contextual (disch := omega) [ld_b g9, ld_b g11, ld_b g6, ld_b g5, Zb]
    refine S20.store rfl (by simp) (by simp) (by simp [oneI]) fun h21 S21 => ?_
    have g9 := S21.at0; have g11 := S21.at2; have g8 := S21.at3; have g6 := S21.at4; have g5 := S21.at5
    try simp +contextual (disch := omega) [ld_b g9, ld_b g11, ld_b g6, ld_b g5, Zb]
    refine S21.store rfl (by simp) (by simp) (by simp [oneI]) fun h22 S22 => ?_
    have g9 := S22.at0; have g11 := S22.at2; have g8 := S22.at3; have g6 := S22.at4; have g5 := S22.at5
    try simp +contextual (disch := omega) [ld_b g9, ld_b g11, ld_b g6, ld_b g5, Zb]
    refine (Z2p _ _).call ?_
    try simp +contextual (disch := omega)
    refine bK'_b (fun hm => ?_) (fun hm => ?_)
    · try simp +contextual (disch := omega)
      refine S22.store rfl (by simp) (by simp) (by simp [oneI]) fun h30 S30 => ?_
      exact fin ⟨13, tick, -1, -1, v, 0, 0, 0, 0⟩ i4 _ (by omega) (by omega) S30.swap
    · exact fin ⟨13, tick, -1, -1, v, 0, 0, 0, 1⟩ i4 _ (by omega) (by omega) S22.swap
  have p25 : ZB.j25 K (.ptr b6 0 0) (.ptr b8 0 0) (.ptr b9 0 0) h9 := by
    simp +contextual (disch := omega) [ZB.j25g]
    refine S12.swap.store rfl (by simp) (by simp) (by simp [oneI]) fun h20 S20 => ?_
    have g9 := S20.at0; have g11 := S20.at2; have g8 := S20.at3; have g6 := S20.at4; have g5 := S20.at5
    try simp +contextual (disch := omega) [ld_b g9, ld_b g11, ld_b g6, ld_b g5, Zb]
    by_cases hm : s.low < s.high
    · simp +contextual (disch := omega) [hm]
      refine S20.store rfl (by simp) (by simp) (by simp [oneI]) fun h30 S30 => ?_
      exact fin ⟨15, tick, -1, -1, -1, 0, 0, 0, 0⟩ i3 _ (by omega) (by omega) S30.swap
    · simp +contextual (disch := omega) [hm]
      exact fin ⟨14, tick, -1, -1, -1, 0, 0, 0, 0⟩ i3 _ (by omega) (by omega) S20.swap
  have p26 : ZB.j26 K (.ptr b 0 0) (.ptr b8 0 0) (.ptr b9 0 0) h9 := by
    simp +contextual (disch := omega) [ZB.j26g]
    refine ZN (n := 100) (by omega) (by omega) b l i3 (by omega) (by omega) (by omega) S12 fun q i4 h10 q1 n1 n2 n3 S13 => ?_
    obtain ⟨v, rfl, v0, v1⟩ := q1
    try simp +contextual (disch := omega)
    refine S13.swap.store rfl (by simp) (by simp) (by simp [oneI]) fun h20 S20 => ?_
    have g9 := S20.at0; have g11 := S20.at2; have g8 := S20.at3; have g6 := S20.at4; have g5 := S20.at5
    try simp +contextual (disch := omega) [ld_b g9, ld_b g11, ld_b g6, ld_b g5, Zb]
    exact fin ⟨16, tick, -1, -1, -1, 0, 0, 0, v⟩ i4 _ (by omega) (by omega) S20.swap
  have hd : d = 0 ∨ d = 1 ∨ d = 2 ∨ d = 3 ∨ d = 4 ∨ d = 5 ∨ d = 6 ∨ d = 7 ∨ d = 8 ∨ d = 9 ∨ d = 10 ∨ d = 11 := by omega
  clear fin S11 S12
  rcases hd with rfl | rfl | rfl | rfl | rfl | rfl | rfl | rfl | rfl | rfl | rfl | rfl
  all_goals (try simp +contextual (disch := omega) [ZB.j5g, ZB.j6, ZB.j8g, ZB.j9, ZB.j11g, ZB.j12, ZB.j14g, ZB.j15, ZB.j17g, ZB.j18, ZB.j20g, ZB.j21, ZB.j23g, ZB.j24])
  all_goals first | exact p7 | exact p10 | exact p13 | exact p16 | exact p19 | exact p22 | exact p25 | exact p26
end Go.Ideal
namespace Go.Ideal
open Go.Proofs
set_option maxRecDepth 100000
set_option maxHeartbeats 2000000 in
theorem Z6a {c : Config} {s : State} (hc : CfgV c) (hi : Inv c s) {e0 : Entry} {x : TState} (ht : 0 ≤ e0.tick ∧ e0.tick ≤ 2147483648) (hx : gt s.tenants e0.tenant = some x) (hp : x.placed = true) : FunE Z3O (fun v => [c.v, v, e0.v]) s 9 := by
  intro h0 h rs K L1 L2 v b l i i0 i1 hl r S k
  refine ZE.call ?_
  obtain ⟨bt, z, rfl, rfl, l2, hx', i00, ilt⟩ := r.tenant hx
  have hxo := hi.ten x (List.mem_of_getElem? (gt_some.1 hx).2)
  have xe := hxo.epoch; have xt := hxo.till; have xh := hxo.home; have xs := hxo.standby; have xg := hxo.target; have xp := hxo.placed hp
  have lease := hc.lease1
  refine S.box fun b5 h1 S1 => ?_
  refine S1.box fun b6 h2 S2 => ?_
  refine S2.box fun b7 h3 S3 => ?_
  refine S3.alloc Z1L fun b8 h4 S4 => ?_
  have g6 := S4.at2; have g7 := S4.at1; have gt' := S4.at5
  have qt := fun (o : Nat) (t : TypeId) => ld_p (P := PP) (o := o) t gt' hx'
  have it := Z1C (k := .i64) (lo := 0) i00 ilt gt'
  try simp +contextual (disch := omega) [ZE.j1g, ld_b g6, ld_b g7, it, qt]
  refine S4.alloc Z1D fun b9 h5 S5 => ?_
  try simp +contextual (disch := omega)
  refine S5.put (new := x.c) rfl (by simp) rfl (by simp) fun h6 S6 => ?_
  have S8 : Own h0 (tp b l i :: [(b7, some ⟨9, Z8, [e0.c]⟩)] :: [(b9, some ⟨12, Za, [x.c]⟩)] :: [(b8, some ⟨9, Z8, [zeroE.c]⟩)] :: [(b6, some ⟨8, Z3, [svc s (.sl bt 0 s.tenants.length) z]⟩)] :: [(b5, some ⟨10, Z6, [c.c]⟩)] :: [(bt, some ⟨12, Za, s.tenants.map TState.c⟩)] :: L2 :: rs) h6 := by simpa [show zeroE.c = [.n 0, .n 0, .n 0, .n 0, .n 0, .n 0, .n 0, .n 0, .n 0] from rfl] using (S6.mv 2 rfl).mv 5 rfl
  clear S S1 S2 S3 S4 S5 S6 g6 g7 gt' qt it
  have fin : ∀ (e : Entry) i' h', i ≤ i' → i' ≤ i + 9 → (l ≠ [] → i < i') → Own h0 (tp b l i' :: [(b7, some ⟨9, Z8, [e.c]⟩)] :: [(b9, some ⟨12, Za, [x.c]⟩)] :: [(b8, some ⟨9, Z8, [zeroE.c]⟩)] :: [(b6, some ⟨8, Z3, [svc s (.sl bt 0 s.tenants.length) z]⟩)] :: [(b5, some ⟨10, Z6, [c.c]⟩)] :: [(bt, some ⟨12, Za, s.tenants.map TState.c⟩)] :: L2 :: rs) h' → ZE.j18 K (.ptr b7 0 0) (.ptr b8 0 0) h' := by
    intro e i' h' q1 q2 q3 S
    have g7 := S.at1
    simp +contextual (disch := omega) [ZE.j18, ld_b g7]
    refine (S.mv 3 rfl).put (new := e.c) rfl (by simp) rfl (by simp) fun h9 S12 => ?_
    have g8 := S12.at0
    try simp +contextual (disch := omega) [ld_b g8]
    refine k e i' h9 (by omega) (by omega) q3 ?_
    simpa using ((((S12.drop.del 1).del 1).del 1).del 1)
  have s14 : ∀ (e : Entry) i' h', (0 ≤ e.start ∧ e.start ≤ 4294967296) → (0 ≤ e.till ∧ e.till ≤ 4294967296) → i ≤ i' → i' ≤ i + 7 → (l ≠ [] → i < i') → Own h0 (tp b l i' :: [(b7, some ⟨9, Z8, [e.c]⟩)] :: [(b9, some ⟨12, Za, [x.c]⟩)] :: [(b8, some ⟨9, Z8, [zeroE.c]⟩)] :: [(b6, some ⟨8, Z3, [svc s (.sl bt 0 s.tenants.length) z]⟩)] :: [(b5, some ⟨10, Z6, [c.c]⟩)] :: [(bt, some ⟨12, Za, s.tenants.map TState.c⟩)] :: L2 :: rs) h' → ZE.j14 K (.ptr b 0 0) (.ptr b7 0 0) (.ptr b8 0 0) h' := by
    intro e i' h' z1 z2 q1 q2 q3 S
    simp +contextual (disch := omega) [ZE.j14g]
    refine Z1G (n := 15) (by omega) (by omega) b l i' (by omega) (by omega) (by omega) S fun q i4 h10 q4 n1 n2 n3 S13 => ?_
    obtain ⟨v, rfl⟩ := q4
    try simp +contextual (disch := omega) [ZE.j15]
    refine bK'_b (fun hm => ?_) (fun hm => ?_)
    · have g7 := S13.at1
      simp +contextual (disch := omega) [ZE.j16g, ld_b g7, w64]
      refine ZN (n := 30) (by omega) (by omega) b l i4 (by omega) (by omega) (by omega) S13 fun q i5 h11 q5 n4 n5 n6 S14 => ?_
      obtain ⟨u, rfl, u0, u1⟩ := q5
      have g7 := S14.at1
      try simp +contextual (disch := omega) [ld_b g7, Zb, w64]
      refine S14.swap.store rfl (by simp) (by simp) (by simp [oneI]) fun h20 S20 => ?_
      try simp +contextual (disch := omega)
      refine S20.store rfl (by simp) (by simp) (by simp [oneI]) fun h21 S21 => ?_
      have g7 := S21.at0
      try simp +contextual (disch := omega) [ld_b g7, w64]
      refine S21.store rfl (by simp) (by simp) (by simp [oneI]) fun h22 S22 => ?_
      exact fin { e with start := max 0 (e.start - 1), till := e.till + u } i5 _ (by omega) (by omega) (fun hne => by have := q3 hne; omega) S22.swap
    · simp +contextual (disch := omega) [ZE.j17g]
      exact fin e i4 _ (by omega) (by omega) (fun hne => by have := q3 hne; omega) S13
  have s13 : ∀ (e : Entry) i' h', (0 ≤ e.start ∧ e.start ≤ 4294967296) → (0 ≤ e.till ∧ e.till ≤ 4294967296) → (0 ≤ e.cell ∧ e.cell < c.cells.length) → i ≤ i' → i' ≤ i + 7 → (l ≠ [] → i < i') → Own h0 (tp b l i' :: [(b7, some ⟨9, Z8, [e.c]⟩)] :: [(b9, some ⟨12, Za, [x.c]⟩)] :: [(b8, some ⟨9, Z8, [zeroE.c]⟩)] :: [(b6, some ⟨8, Z3, [svc s (.sl bt 0 s.tenants.length) z]⟩)] :: [(b5, some ⟨10, Z6, [c.c]⟩)] :: [(bt, some ⟨12, Za, s.tenants.map TState.c⟩)] :: L2 :: rs) h' → ZE.j13 K (.ptr b 0 0) (.ptr b6 0 0) (.ptr b7 0 0) (.ptr b8 0 0) h' := by
    intro e i' h' z1 z2 z3 q1 q2 q3 S
    have hcl := hi.cl
    obtain ⟨y, hy⟩ : ∃ y, s.cells[e.cell.toNat]? = some y := ⟨_, List.getElem?_eq_getElem (by omega)⟩
    have hy2 : (s.cells.map CState.c)[e.cell.toNat]? = some y.c := by simp [hy]
    obtain ⟨bc, ez, eL, hclt⟩ := l2.at_ hy2
    have g7 := S.at1; have g6 := S.at4
    have gc : h'[bc]? = some (some ⟨4, Zj, s.cells.map CState.c⟩) := by
      have := (S.mv 7 rfl)
      rw [eL] at this
      exact this.at0
    have ic := Z1a (k := .i64) (lo := 0) (len := (s.cells.map CState.c).length) z3.1 (by simp; omega) gc
    have qc := fun (o : Nat) (t : TypeId) => ld_p (P := PP) (o := o) t gc hy2
    rw [List.length_map] at ic
    simp +contextual (disch := omega) [ZE.j13g, ld_b g6, ld_b g7, ez, ic, qc]
    refine S.swap.store rfl (by simp) (by simp) (by simp [oneI]) fun h20 S20 => ?_
    exact s14 { e with num := y.running } i' _ z1 z2 q1 q2 q3 S20.swap
  have s12 : ∀ (e : Entry) i' h', (0 ≤ e.start ∧ e.start ≤ 4294960000) → (0 ≤ e.cell ∧ e.cell < c.cells.length) → i ≤ i' → i' ≤ i + 6 → Own h0 (tp b l i' :: [(b7, some ⟨9, Z8, [e.c]⟩)] :: [(b9, some ⟨12, Za, [x.c]⟩)] :: [(b8, some ⟨9, Z8, [zeroE.c]⟩)] :: [(b6, some ⟨8, Z3, [svc s (.sl bt 0 s.tenants.length) z]⟩)] :: [(b5, some ⟨10, Z6, [c.c]⟩)] :: [(bt, some ⟨12, Za, s.tenants.map TState.c⟩)] :: L2 :: rs) h' → ZE.j12 K (.ptr b 0 0) (.ptr b5 0 0) (.ptr b6 0 0) (.ptr b7 0 0) (.ptr b8 0 0) h' := by
    intro e i' h' z1 z3 q1 q2 S
    have g7 := S.at1; have g5 := S.at5
    simp +contextual (disch := omega) [ZE.j12g, ld_b g7, ld_b g5]
    refine Z1N (a := 1) (z := c.lease) (by omega) (by omega) (by omega) b l i' (by omega) (by omega) (by omega) S fun q i4 h10 q4 n1 n2 n3 S13 => ?_
    obtain ⟨v, rfl, v0, v1⟩ := q4
    have g7 := S13.at1
    try simp +contextual (disch := omega) [ld_b g7, Zb, w64]
    refine S13.swap.store rfl (by simp) (by simp) (by simp [oneI]) fun h20 S20 => ?_
    exact s13 { e with till := e.start + v } i4 _ (by simp only; omega) (by simp only; omega) z3 (by omega) (by omega) (fun hne => by have := n3 hne; omega) S20.swap
  have s11 : ∀ (e : Entry) i' h', (0 ≤ e.start ∧ e.start ≤ 4294950000) → (0 ≤ e.cell ∧ e.cell < c.cells.length) → i ≤ i' → i' ≤ i + 4 → Own h0 (tp b l i' :: [(b7, some ⟨9, Z8, [e.c]⟩)] :: [(b9, some ⟨12, Za, [x.c]⟩)] :: [(b8, some ⟨9, Z8, [zeroE.c]⟩)] :: [(b6, some ⟨8, Z3, [svc s (.sl bt 0 s.tenants.length) z]⟩)] :: [(b5, some ⟨10, Z6, [c.c]⟩)] :: [(bt, some ⟨12, Za, s.tenants.map TState.c⟩)] :: L2 :: rs) h' → ZE.j11 K (.ptr b 0 0) (.ptr b5 0 0) (.ptr b6 0 0) (.ptr b7 0 0) (.ptr b8 0 0) h' := by
    intro e i' h' z1 z3 q1 q2 S
    simp +contextual (disch := omega) [ZE.j11g]
    refine Z1G (n := 5) (by omega) (by omega) b l i' (by omega) (by omega) (by omega) S fun q i4 h10 q4 n1 n2 n3 S13 => ?_
    obtain ⟨v, rfl⟩ := q4
    have g7 := S13.at1
    try simp +contextual (disch := omega)
    refine bK'_b (fun hm => ?_) (fun hm => ?_)
    · try simp +contextual (disch := omega) [ld_b g7]
      refine ZN (n := 3) (by omega) (by omega) b l i4 (by omega) (by omega) (by omega) S13 fun q i5 h11 q5 n4 n5 n6 S14 => ?_
      obtain ⟨u, rfl, u0, u1⟩ := q5
      have g7 := S14.at1
      try simp +contextual (disch := omega) [ld_b g7, Zb, w64]
      refine S14.swap.store rfl (by simp) (by simp) (by simp [oneI]) fun h20 S20 => ?_
      exact s12 { e with start := e.start + u } i5 _ (by simp only; omega) z3 (by omega) (by omega) S20.swap
    · exact s12 e i4 _ (by omega) z3 (by omega) (by omega) S13
  have s10 : ∀ (e : Entry) i' h', (0 ≤ e.tick ∧ e.tick ≤ 4294900000) → (0 ≤ e.cell ∧ e.cell < c.cells.length) → i ≤ i' → i' ≤ i + 4 → Own h0 (tp b l i' :: [(b7, some ⟨9, Z8, [e.c]⟩)] :: [(b9, some ⟨12, Za, [x.c]⟩)] :: [(b8, some ⟨9, Z8, [zeroE.c]⟩)] :: [(b6, some ⟨8, Z3, [svc s (.sl bt 0 s.tenants.length) z]⟩)] :: [(b5, some ⟨10, Z6, [c.c]⟩)] :: [(bt, some ⟨12, Za, s.tenants.map TState.c⟩)] :: L2 :: rs) h' → ZE.j10 K (.ptr b 0 0) (.ptr b5 0 0) (.ptr b6 0 0) (.ptr b7 0 0) (.ptr b8 0 0) (.ptr b9 0 0) h' := by
    intro e i' h' z1 z3 q1 q2 S
    have g7 := S.at1; have g9 := S.at2
    simp +contextual (disch := omega) [ZE.j10g, ld_b g7, ld_b g9]
    refine S.swap.store rfl (by simp) (by simp) (by simp [oneI]) fun h20 S20 => ?_
    exact s11 { e with start := max e.tick x.window.till } i' _ (by simp only; omega) z3 q1 q2 S20.swap
  have s9 : ∀ (e : Entry) i' h', (0 ≤ e.tick ∧ e.tick ≤ 2147483648) → (0 ≤ e.cell ∧ e.cell < c.cells.length) → i ≤ i' → i' ≤ i + 3 → Own h0 (tp b l i' :: [(b7, some ⟨9, Z8, [e.c]⟩)] :: [(b9, some ⟨12, Za, [x.c]⟩)] :: [(b8, some ⟨9, Z8, [zeroE.c]⟩)] :: [(b6, some ⟨8, Z3, [svc s (.sl bt 0 s.tenants.length) z]⟩)] :: [(b5, some ⟨10, Z6, [c.c]⟩)] :: [(bt, some ⟨12, Za, s.tenants.map TState.c⟩)] :: L2 :: rs) h' → ZE.j9 K (.ptr b 0 0) (.ptr b5 0 0) (.ptr b6 0 0) (.ptr b7 0 0) (.ptr b8 0 0) (.ptr b9 0 0) h' := by
    intro e i' h' z1 z3 q1 q2 S
    have g7 := S.at1; have g9 := S.at2
    by_cases hh : e.cell = x.home
    · simp +contextual (disch := omega) [ZE.j9g, ld_b g7, ld_b g9, hh]
      exact s10 e i' _ (by omega) z3 q1 (by omega) S
    · simp +contextual (disch := omega) [ZE.j9g, ld_b g7, ld_b g9, hh]
      refine ZN (n := 4) (by omega) (by omega) b l i' (by omega) (by omega) (by omega) S fun q i4 h10 q4 n1 n2 n3 S13 => ?_
      obtain ⟨v, rfl, v0, v1⟩ := q4
      have g7 := S13.at1; have g9 := S13.at2
      try simp +contextual (disch := omega)
      by_cases hv : 0 < v
      · simp +contextual (disch := omega) [hv, ld_b g7, ld_b g9]
        refine S13.swap.store rfl (by simp) (by simp) (by simp [oneI]) fun h20 S20 => ?_
        exact s10 { e with tick := max e.tick x.window.till } i4 _ (by simp only; omega) z3 (by omega) (by omega) S20.swap
      · simp +contextual (disch := omega) [hv]
        exact s10 e i4 _ (by omega) z3 (by omega) (by omega) S13
  have s8 : ∀ (e : Entry) i' h', (0 ≤ e.tick ∧ e.tick ≤ 2147483648) → (0 ≤ e.cell ∧ e.cell < c.cells.length) → i ≤ i' → i' ≤ i + 2 → Own h0 (tp b l i' :: [(b7, some ⟨9, Z8, [e.c]⟩)] :: [(b9, some ⟨12, Za, [x.c]⟩)] :: [(b8, some ⟨9, Z8, [zeroE.c]⟩)] :: [(b6, some ⟨8, Z3, [svc s (.sl bt 0 s.tenants.length) z]⟩)] :: [(b5, some ⟨10, Z6, [c.c]⟩)] :: [(bt, some ⟨12, Za, s.tenants.map TState.c⟩)] :: L2 :: rs) h' → ZE.j8 K (.ptr b 0 0) (.ptr b5 0 0) (.ptr b6 0 0) (.ptr b7 0 0) (.ptr b8 0 0) (.ptr b9 0 0) h' := by
    intro e i' h' z1 z3 q1 q2 S
    have g7 := S.at1; have g9 := S.at2
    have up : ∀ i5 h5, i ≤ i5 → i5 ≤ i + 3 → Own h0 (tp b l i5 :: [(b7, some ⟨9, Z8, [e.c]⟩)] :: [(b9, some ⟨12, Za, [x.c]⟩)] :: [(b8, some ⟨9, Z8, [zeroE.c]⟩)] :: [(b6, some ⟨8, Z3, [svc s (.sl bt 0 s.tenants.length) z]⟩)] :: [(b5, some ⟨10, Z6, [c.c]⟩)] :: [(bt, some ⟨12, Za, s.tenants.map TState.c⟩)] :: L2 :: rs) h5 →
        oS (Z9 PP Z0 (.ptr b7 0 5) (.n (x.epoch + 1)) h5) h5 fun h2 => ZE.j9 K (.ptr b 0 0) (.ptr b5 0 0) (.ptr b6 0 0) (.ptr b7 0 0) (.ptr b8 0 0) (.ptr b9 0 0) h2 := by
      intro i5 h5 p1 p2 S
      refine S.swap.store rfl (by simp) (by simp) (by simp [oneI]) fun h20 S20 => ?_
      exact s9 { e with epoch := x.epoch + 1 } i5 _ z1 z3 p1 p2 S20.swap
    by_cases hh : e.cell = x.home
    · by_cases he : x.epoch = 0
      · have up := up i' h' q1 (by omega) S
        rw [he] at up
        simp +contextual (disch := omega) [ZE.j8g, ld_b g7, ld_b g9, hh, he, w64]
        exact up
      · simp +contextual (disch := omega) [ZE.j8g, ld_b g7, ld_b g9, hh, he]
        refine Z1G (n := 4) (by omega) (by omega) b l i' (by omega) (by omega) (by omega) S fun q i4 h10 q4 n1 n2 n3 S13 => ?_
        obtain ⟨v, rfl⟩ := q4
        have g9 := S13.at2
        try simp +contextual (disch := omega)
        refine bK'_b (fun hm => ?_) (fun hm => ?_)
        · have up := up i4 h10 (by omega) (by omega) S13
          try simp +contextual (disch := omega) [ld_b g9, w64]
          exact up
        · exact s9 e i4 _ z1 z3 (by omega) (by omega) S13
    · have up := up i' h' q1 (by omega) S
      simp +contextual (disch := omega) [ZE.j8g, ld_b g7, ld_b g9, hh, w64]
      exact up
  have s7 : ∀ (e : Entry) i' h', (0 ≤ e.tick ∧ e.tick ≤ 2147483648) → (0 ≤ e.cell ∧ e.cell < c.cells.length) → i ≤ i' → i' ≤ i + 2 → Own h0 (tp b l i' :: [(b7, some ⟨9, Z8, [e.c]⟩)] :: [(b9, some ⟨12, Za, [x.c]⟩)] :: [(b8, some ⟨9, Z8, [zeroE.c]⟩)] :: [(b6, some ⟨8, Z3, [svc s (.sl bt 0 s.tenants.length) z]⟩)] :: [(b5, some ⟨10, Z6, [c.c]⟩)] :: [(bt, some ⟨12, Za, s.tenants.map TState.c⟩)] :: L2 :: rs) h' → ZE.j7 K (.ptr b 0 0) (.ptr b5 0 0) (.ptr b6 0 0) (.ptr b7 0 0) (.ptr b8 0 0) (.ptr b9 0 0) h' := by
    intro e i' h' z1 z3 q1 q2 S
    have g9 := S.at2
    simp +contextual (disch := omega) [ZE.j7g, ld_b g9]
    refine S.swap.store rfl (by simp) (by simp) (by simp [oneI]) fun h20 S20 => ?_
    exact s8 { e with epoch := x.epoch } i' _ z1 z3 q1 q2 S20.swap
  have s6 : ∀ (e : Entry) i' h', (0 ≤ e.tick ∧ e.tick ≤ 2147483648) → (0 ≤ e.cell ∧ e.cell < c.cells.length) → i ≤ i' → i' ≤ i + 1 → Own h0 (tp b l i' :: [(b7, some ⟨9, Z8, [e.c]⟩)] :: [(b9, some ⟨12, Za, [x.c]⟩)] :: [(b8, some ⟨9, Z8, [zeroE.c]⟩)] :: [(b6, some ⟨8, Z3, [svc s (.sl bt 0 s.tenants.length) z]⟩)] :: [(b5, some ⟨10, Z6, [c.c]⟩)] :: [(bt, some ⟨12, Za, s.tenants.map TState.c⟩)] :: L2 :: rs) h' → ZE.j6 K (.ptr b 0 0) (.ptr b5 0 0) (.ptr b6 0 0) (.ptr b7 0 0) (.ptr b8 0 0) (.ptr b9 0 0) h' := by
    intro e i' h' z1 z3 q1 q2 S
    have g9 := S.at2
    by_cases hs : 0 ≤ x.standby
    · simp +contextual (disch := omega) [ZE.j6g, ld_b g9, hs]
      refine Z1G (n := 5) (by omega) (by omega) b l i' (by omega) (by omega) (by omega) S fun q i4 h10 q4 n1 n2 n3 S13 => ?_
      obtain ⟨v, rfl⟩ := q4
      have g9 := S13.at2
      try simp +contextual (disch := omega) [ld_b g9]
      refine bK'_b (fun hm => ?_) (fun hm => ?_)
      · try simp +contextual (disch := omega) [ld_b g9]
        refine S13.swap.store rfl (by simp) (by simp) (by simp [oneI]) fun h20 S20 => ?_
        exact s7 { e with cell := x.standby } i4 _ z1 ⟨hs, xs.2⟩ (by omega) (by omega) S20.swap
      · exact s7 e i4 _ z1 z3 (by omega) (by omega) S13
    · simp +contextual (disch := omega) [ZE.j6g, ld_b g9, hs]
      exact s7 e i' _ z1 z3 q1 (by omega) S
  have g9 := S8.at2
  try simp +contextual (disch := omega) [ZE.j2g, ld_b g9]
  refine S8.swap.store rfl (by simp) (by simp) (by simp [oneI]) fun h20 S20 => ?_
  have S21 := S20.swap
  have g9 := S21.at2
  by_cases hg : 0 ≤ x.target
  · simp +contextual (disch := omega) [ZE.j3g, ld_b g9, hg]
    refine Z1G (n := 2) (by omega) (by omega) b l i (by omega) (by omega) (by omega) S21 fun q i4 h10 q4 n1 n2 n3 S13 => ?_
    obtain ⟨v, rfl⟩ := q4
    have g9 := S13.at2
    try simp +contextual (disch := omega) [ZE.j4]
    refine bK'_b (fun hm => ?_) (fun hm => ?_)
    · simp +contextual (disch := omega) [ZE.j5g, ld_b g9]
      refine S13.swap.store rfl (by simp) (by simp) (by simp [oneI]) fun h21 S22 => ?_
      exact s7 { e0 with cell := x.target } i4 _ ht ⟨hg, xg.2⟩ (by omega) (by omega) S22.swap
    · exact s6 { e0 with cell := x.home } i4 _ ht ⟨xp, xh.2⟩ (by omega) (by omega) S13
  · simp +contextual (disch := omega) [ZE.j3g, ld_b g9, hg, ZE.j4]
    exact s6 { e0 with cell := x.home } i _ ht ⟨xp, xh.2⟩ (by omega) (by omega) S21
end Go.Ideal
namespace Go.Ideal
open Go.Proofs
set_option maxRecDepth 100000
set_option maxHeartbeats 2000000 in
theorem Z6b {c : Config} {s : State} (hc : CfgV c) (hi : Inv c s) : FunE Z3x (fun v => [c.v, v]) s 20 := by
  intro h0 h rs K L1 L2 v b l i i0 i1 hl r S k
  refine Zx.call ?_
  obtain ⟨a, z, rfl, l1, l2⟩ := r.ex
  have stick := hi.tick
  refine S.box fun b4 h1 S1 => ?_
  refine S1.box fun b5 h2 S2 => ?_
  refine S2.alloc Z1L fun b6 h3 S3 => ?_
  have S4 : Own h0 (tp b l i :: L1 :: L2 :: [(b6, some ⟨9, Z8, [zeroE.c]⟩)] :: [(b5, some ⟨8, Z3, [svc s a z]⟩)] :: [(b4, some ⟨10, Z6, [c.c]⟩)] :: rs) h3 := by
    have := ((S3.mv 3 rfl).mv 5 rfl).mv 5 rfl
    simpa [show zeroE.c = [.n 0, .n 0, .n 0, .n 0, .n 0, .n 0, .n 0, .n 0, .n 0] from rfl] using this.up2
  clear S S1 S2 S3
  have s3 : ∀ (tick : Int) i' h', (0 ≤ tick ∧ tick ≤ 2147483648) → i ≤ i' → i' ≤ i + 2 → (l ≠ [] → i < i') → Own h0 (tp b l i' :: L1 :: L2 :: [(b6, some ⟨9, Z8, [zeroE.c]⟩)] :: [(b5, some ⟨8, Z3, [svc s a z]⟩)] :: [(b4, some ⟨10, Z6, [c.c]⟩)] :: rs) h' → Zx.j3 K (.ptr b 0 0) (.ptr b4 0 0) (.ptr b5 0 0) (.ptr b6 0 0) (.n tick) h' := by
    intro tick i' h' z1 q1 q2 q3 S
    have pl : ∀ i5 h5, i ≤ i5 → i5 ≤ i + 3 → (l ≠ [] → i < i5) → Own h0 (tp b l i5 :: L1 :: L2 :: [(b6, some ⟨9, Z8, [zeroE.c]⟩)] :: [(b5, some ⟨8, Z3, [svc s a z]⟩)] :: [(b4, some ⟨10, Z6, [c.c]⟩)] :: rs) h5 →
        Z5 PP Z31 [.ptr b 0 0, c.v, SV s a z, .n tick] h5 fun v13 h1 => oS (Z9 PP Z8 (.ptr b6 0 0) v13 h1) h1 fun h2 => oD (Z1 PP Z8 (.ptr b6 0 0) h2) h2 fun v => K v h2 := by
      intro i5 h5 p1 p2 p3 S
      refine Z69 hc hi z1 b l i5 (by omega) (by omega) hl r S fun e i6 h6 n1 n2 n3 S6 => ?_
      try simp +contextual (disch := omega)
      refine (S6.mv 3 rfl).put (new := e.c) rfl (by simp) rfl (by simp) fun h9 S12 => ?_
      have g8 := S12.at0
      try simp +contextual (disch := omega) [ld_b g8]
      refine k e i6 h9 (by omega) (by omega) (fun hne => by have := p3 hne; omega) ?_
      simpa using ((S12.drop.del 3).del 3)
    have g4 := S.at5; have g5 := S.at4
    by_cases ht : c.tenants = []
    · try simp +contextual (disch := omega) [Zx.j3g, ld_b g4, ld_b g5, ht]
      exact pl i' h' (by omega) (by omega) q3 S
    · try simp +contextual (disch := omega) [Zx.j3g, ld_b g4, ld_b g5, ht]
      refine Z1G (n := 4) (by omega) (by omega) b l i' (by omega) (by omega) (by omega) S fun q i4 h10 q4 n1 n2 n3 S13 => ?_
      obtain ⟨v, rfl⟩ := q4
      have g4 := S13.at5; have g5 := S13.at4
      try simp +contextual (disch := omega)
      refine bK'_b (fun hm => ?_) (fun hm => ?_)
      · try simp +contextual (disch := omega) [ld_b g4, ld_b g5]
        exact pl i4 h10 (by omega) (by omega) (fun hne => by have := q3 hne; omega) S13
      clear pl
      have tlp : 0 < (c.tenants.length : Int) := by have := List.length_pos_iff.2 ht; omega
      try simp +contextual (disch := omega) [Zx.j4g, ld_b g4]
      refine ZN (n := c.tenants.length) (by omega) (by have := hc.tenants; omega) b l i4 (by omega) (by omega) (by omega) S13 fun q i5 h11 q5 n4 n5 n6 S14 => ?_
      obtain ⟨ti, rfl, ti0, ti1⟩ := q5
      have htl := hi.tl
      obtain ⟨x, hx⟩ : ∃ x, s.tenants[ti.toNat]? = some x := ⟨_, List.getElem?_eq_getElem (by omega)⟩
      have hx2 : (s.tenants.map TState.c)[ti.toNat]? = some x.c := by simp [hx]
      have hxo := hi.ten x (List.mem_of_getElem? hx)
      have hxg : gt s.tenants ti = some x := gt_some.2 ⟨ti0, hx⟩
      clear S13 g4 g5 S
      obtain ⟨bt, ez, rfl, _⟩ := l1.at_ hx2
      subst ez
      have g5 := S14.at4; have gt' := S14.at1
      have it := Z1C (k := .i64) (lo := 0) (len := s.tenants.length) ti0 (by omega) gt'
      have qt := fun (o : Nat) (t : TypeId) => ld_p (P := PP) (o := o) t gt' hx2
      try simp +contextual (disch := omega) [Zx.j5g, ld_b g5, it, qt]
      refine S14.alloc Z1D fun b9 h12 S15 => ?_
      try simp +contextual (disch := omega)
      refine S15.put (new := x.c) rfl (by simp) rfl (by simp) fun h13 S16 => ?_
      have g9 := S16.at0
      try simp +contextual (disch := omega) [Zx.j6g, ld_b g9, Zx.j7]
      simp only [List.length_map] at *
      have fin : ∀ (b11 : Nat) (e : Entry) i' h', i ≤ i' → i' ≤ i + 20 → (l ≠ [] → i < i') → Own h0 (tp b l i' :: [(b11, some ⟨9, Z8, [e.c]⟩)] :: [(bt, some ⟨12, Za, s.tenants.map TState.c⟩)] :: L2 :: [(b9, some ⟨12, Za, [x.c]⟩)] :: [(b6, some ⟨9, Z8, [zeroE.c]⟩)] :: [(b5, some ⟨8, Z3, [svc s (.sl bt 0 s.tenants.length) z]⟩)] :: [(b4, some ⟨10, Z6, [c.c]⟩)] :: rs) h' → Zx.j32 K (.ptr b6 0 0) (.ptr b11 0 0) h' := by
        intro b11 e i' h' p1 p2 p3 S
        have g11 := S.at1
        simp +contextual (disch := omega) [Zx.j32, ld_b g11]
        refine (S.mv 5 rfl).put (new := e.c) rfl (by simp) rfl (by simp) fun h9 S12 => ?_
        have g8 := S12.at0
        try simp +contextual (disch := omega) [ld_b g8]
        refine k e i' h9 (by omega) (by omega) p3 ?_
        simpa using (((S12.drop.del 1).del 3).del 3).del 3
      cases hp : x.placed with
      | false =>
        try simp +contextual (disch := omega) [Zx.j8g]
        refine (Z4o _ _).call ?_
        try simp +contextual (disch := omega)
        refine S16.alloc Z1L fun b11 h14 S17 => ?_
        try simp +contextual (disch := omega)
        refine S17.put (new := (Entry.mk 1 tick (-1) (-1) (-1) 0 0 0 0).c) rfl (by simp) rfl (by simp) fun h15 S18 => ?_
        try simp +contextual (disch := omega)
        refine S18.store rfl (by simp) (by simp) (by simp [oneI]) fun h16 S19 => ?_
        have S20 : Own h0 (tp b l i5 :: [(b11, some ⟨9, Z8, [(Entry.mk 1 tick ti (-1) (-1) 0 0 0 0).c]⟩)] :: [(bt, some ⟨12, Za, s.tenants.map TState.c⟩)] :: L2 :: [(b9, some ⟨12, Za, [x.c]⟩)] :: [(b6, some ⟨9, Z8, [zeroE.c]⟩)] :: [(b5, some ⟨8, Z3, [svc s (.sl bt 0 s.tenants.length) z]⟩)] :: [(b4, some ⟨10, Z6, [c.c]⟩)] :: rs) h16 := by
          simpa using (((S19.mv 4 rfl).mv 4 rfl).mv 2 rfl).mv 4 rfl
        have g4 := S20.at7
        try simp +contextual (disch := omega) [ld_b g4]
        refine (Z5e hc.reg.zones hc.cells ti).call ?_
        try simp +contextual (disch := omega)
        have hh : ((homes c ti).length : Int) ≤ 100000 := by have := sel_len (mayR c ti) c.cells.length 0; have := hc.cells; simp only [homes]; omega
        refine Z3l (homes c ti) hh b l i5 (by omega) (by omega) (by omega) S20 fun v i6 h17 m1 m2 S21 => ?_
        try simp +contextual (disch := omega)
        refine S21.swap.store rfl (by simp) (by simp) (by simp [oneI]) fun h18 S22 => ?_
        have g4 := S22.at7; have g11 := S22.at0
        try simp +contextual (disch := omega) [ld_b g4, ld_b g11]
        refine (Z5f hc.reg.zones hc.cells ti _).call ?_
        try simp +contextual (disch := omega)
        have hh : ∀ y, ((standbys c ti y).length : Int) ≤ 100000 := fun y => by have := sel_len (fun i => mayR c ti i && apart c y i) c.cells.length 0; have := hc.cells; simp only [standbys]; omega
        refine Z3l _ (hh _) b l i6 (by omega) (by omega) (by omega) S22.swap fun w i7 h19 m3 m4 S23 => ?_
        refine S23.swap.store rfl (by simp) (by simp) (by simp [oneI]) fun h20 S24 => ?_
        have g11 := S24.at0
        have fin := fin b11 ⟨1, tick, ti, max 0 v, w, 0, 0, 0, 0⟩ i7 h20 (by omega) (by omega) (fun hne => by have := q3 hne; omega) S24.swap
        unfold Zx.j32 at fin
        simp only [retK_c1] at fin
        exact fin
      | true =>
        try simp +contextual (disch := omega) [Zx.j9g, Zx.j10g]
        refine (Z4o _ _).call ?_
        try simp +contextual (disch := omega)
        refine S16.alloc Z1L fun b11 h14 S17 => ?_
        try simp +contextual (disch := omega)
        refine S17.put (new := (Entry.mk 2 tick (-1) (-1) (-1) 0 0 0 0).c) rfl (by simp) rfl (by simp) fun h15 S18 => ?_
        try simp +contextual (disch := omega) [Zx.j11g]
        refine S18.store rfl (by simp) (by simp) (by simp [oneI]) fun h16 S19 => ?_
        have S20 : Own h0 (tp b l i5 :: [(b11, some ⟨9, Z8, [(Entry.mk 2 tick ti (-1) (-1) 0 0 0 0).c]⟩)] :: [(bt, some ⟨12, Za, s.tenants.map TState.c⟩)] :: L2 :: [(b9, some ⟨12, Za, [x.c]⟩)] :: [(b6, some ⟨9, Z8, [zeroE.c]⟩)] :: [(b5, some ⟨8, Z3, [svc s (.sl bt 0 s.tenants.length) z]⟩)] :: [(b4, some ⟨10, Z6, [c.c]⟩)] :: rs) h16 := by
          simpa using (((S19.mv 4 rfl).mv 4 rfl).mv 2 rfl).mv 4 rfl
        try simp +contextual (disch := omega) [Zx.j12g]
        refine ZN (n := 12) (by omega) (by omega) b l i5 (by omega) (by omega) (by omega) S20 fun q i6 h17 q7 m1 m2 m3 S21 => ?_
        obtain ⟨d, rfl, d0, d1⟩ := q7
        have p15 : Zx.j15 K (.ptr b6 0 0) (.ptr b9 0 0) (.ptr b11 0 0) h17 := by
          have g9 := S21.at4
          simp +contextual (disch := omega) [Zx.j15g, ld_b g9]
          refine S21.swap.store rfl (by simp) (by simp) (by simp [oneI]) fun h18 S22 => ?_
          have g9 := S22.at4
          try simp +contextual (disch := omega) [ld_b g9, Zb]
          refine S22.store rfl (by simp) (by simp) (by simp [oneI]) fun h19 S23 => ?_
          exact fin b11 ⟨3, tick, ti, -1, -1, max 1 x.epoch, 0, 0, 0⟩ i6 _ (by omega) (by omega) (fun hne => by have := q3 hne; omega) S23.swap
        have hh : ∀ y, ((standbys c ti y).length : Int) ≤ 100000 := fun y => by have := sel_len (fun i => mayR c ti i && apart c y i) c.cells.length 0; have := hc.cells; simp only [standbys]; omega
        have hk : ((homes c ti).length : Int) ≤ 100000 := by have := sel_len (mayR c ti) c.cells.length 0; have := hc.cells; simp only [homes]; omega
        have p18 : Zx.j18 K (.ptr b 0 0) (.ptr b4 0 0) (.ptr b6 0 0) (.n ti) (.ptr b9 0 0) (.ptr b11 0 0) h17 := by
          have g9 := S21.at4; have g4 := S21.at7
          simp +contextual (disch := omega) [Zx.j18g, ld_b g9, ld_b g4]
          refine (Z5f hc.reg.zones hc.cells ti _).call ?_
          try simp +contextual (disch := omega)
          refine Z3l _ (hh _) b l i6 (by omega) (by omega) (by omega) S21 fun w i7 h18 m3 m4 S22 => ?_
          try simp +contextual (disch := omega)
          refine S22.swap.store rfl (by simp) (by simp) (by simp [oneI]) fun h19 S23 => ?_
          try simp +contextual (disch := omega)
          refine S23.store rfl (by simp) (by simp) (by simp [oneI]) fun h20 S24 => ?_
          exact fin b11 ⟨4, tick, ti, w, -1, 0, 0, 0, 0⟩ i7 _ (by omega) (by omega) (fun hne => by have := q3 hne; omega) S24.swap
        have p21 : Zx.j21 K (.ptr b6 0 0) (.ptr b9 0 0) (.ptr b11 0 0) h17 := by
          have g9 := S21.at4
          simp +contextual (disch := omega) [Zx.j21g, ld_b g9]
          refine S21.swap.store rfl (by simp) (by simp) (by simp [oneI]) fun h18 S22 => ?_
          have g9 := S22.at4
          try simp +contextual (disch := omega) [ld_b g9, Zb]
          refine S22.store rfl (by simp) (by simp) (by simp [oneI]) fun h19 S23 => ?_
          exact fin b11 ⟨5, tick, ti, max 0 x.next, -1, 0, 0, 0, 0⟩ i6 _ (by omega) (by omega) (fun hne => by have := q3 hne; omega) S23.swap
        have p24 : Zx.j24 K (.ptr b 0 0) (.ptr b4 0 0) (.ptr b6 0 0) (.n ti) (.ptr b11 0 0) h17 := by
          have g4 := S21.at7
          simp +contextual (disch := omega) [Zx.j24g, ld_b g4]
          refine (Z5e hc.reg.zones hc.cells ti).call ?_
          try simp +contextual (disch := omega)
          refine Z3l _ hk b l i6 (by omega) (by omega) (by omega) S21 fun w i7 h18 m3 m4 S22 => ?_
          try simp +contextual (disch := omega)
          refine S22.swap.store rfl (by simp) (by simp) (by simp [oneI]) fun h19 S23 => ?_
          try simp +contextual (disch := omega)
          refine S23.store rfl (by simp) (by simp) (by simp [oneI]) fun h20 S24 => ?_
          exact fin b11 ⟨6, tick, ti, max 0 w, -1, 0, 0, 0, 0⟩ i7 _ (by omega) (by omega) (fun hne => by have := q3 hne; omega) S24.swap
        have p27 : Zx.j27 K (.ptr b6 0 0) (.ptr b11 0 0) h17 := by
          simp +contextual (disch := omega) [Zx.j27g]
          refine S21.swap.store rfl (by simp) (by simp) (by simp [oneI]) fun h18 S22 => ?_
          exact fin b11 ⟨7, tick, ti, -1, -1, 0, 0, 0, 0⟩ i6 _ (by omega) (by omega) (fun hne => by have := q3 hne; omega) S22.swap
        have p30 : Zx.j30 K (.ptr b6 0 0) (.ptr b9 0 0) (.ptr b11 0 0) h17 := by
          simp +contextual (disch := omega) [Zx.j30g]
          refine S21.swap.store rfl (by simp) (by simp) (by simp [oneI]) fun h18 S22 => ?_
          try simp +contextual (disch := omega)
          refine S22.store rfl (by simp) (by simp) (by simp [oneI]) fun h19 S23 => ?_
          have g9 := S23.at4
          try simp +contextual (disch := omega) [ld_b g9]
          refine bK'_b (fun hm => ?_) (fun hm => ?_)
          · try simp +contextual (disch := omega)
            refine S23.store rfl (by simp) (by simp) (by simp [oneI]) fun h20 S24 => ?_
            exact fin b11 ⟨8, tick, ti, -1, -1, 0, 0, 0, 0⟩ i6 _ (by omega) (by omega) (fun hne => by have := q3 hne; omega) S24.swap
          · exact fin b11 ⟨8, tick, ti, -1, -1, 0, 0, 0, 1⟩ i6 _ (by omega) (by omega) (fun hne => by have := q3 hne; omega) S23.swap
        have p31 : Zx.j31 K (.ptr b 0 0) (.ptr b4 0 0) (.ptr b5 0 0) (.ptr b6 0 0) (.ptr b11 0 0) h17 := by
          have g4 := S21.at7; have g5 := S21.at6; have g11 := S21.at1
          simp +contextual (disch := omega) [Zx.j31g, ld_b g4, ld_b g5, ld_b g11]
          refine Z6a hc hi (e0 := ⟨2, tick, ti, -1, -1, 0, 0, 0, 0⟩) z1 hxg hp b l i6 (by omega) (by omega) hl r S21.swap.dn3 fun e i7 h18 m4 m5 m6 S22 => ?_
          try simp +contextual (disch := omega)
          refine (S22.mv 5 rfl).put (new := e.c) rfl (by simp) rfl (by simp) fun h19 S23 => ?_
          have g6 := S23.at0
          try simp +contextual (disch := omega) [ld_b g6]
          refine k e i7 h19 (by omega) (by omega) (fun hne => by have := q3 hne; omega) ?_
          simpa using (((S23.drop.del 3).del 3).del 3).del 3
        have hd : d = 0 ∨ d = 1 ∨ d = 2 ∨ d = 3 ∨ d = 4 ∨ d = 5 ∨ d = 6 ∨ d = 7 ∨ d = 8 ∨ d = 9 ∨ d = 10 ∨ d = 11 := by omega
        clear fin S16 S17 S18 S19 S20 S21
        rcases hd with rfl | rfl | rfl | rfl | rfl | rfl | rfl | rfl | rfl | rfl | rfl | rfl
        all_goals (try simp +contextual (disch := omega) [Zx.j13g, Zx.j14, Zx.j16g, Zx.j17, Zx.j19g, Zx.j20, Zx.j22g, Zx.j23, Zx.j25g, Zx.j26, Zx.j28g, Zx.j29])
        all_goals first | exact p15 | exact p18 | exact p21 | exact p24 | exact p27 | exact p30 | exact p31
  have g4 := S4.at5; have g5 := S4.at4
  try simp +contextual (disch := omega) [Zx.j1g, ld_b g5]
  refine ZN (n := 4) (by omega) (by omega) b l i i0 (by omega) (by omega) S4 fun q i2 h6 q1 j1 j2 j3 S7 => ?_
  obtain ⟨d, rfl, d0, d1⟩ := q1
  have g5 := S7.at4
  try simp +contextual (disch := omega) [ld_b g5, Zb, w64, Zx.j2g]
  refine Z1G (n := 20) (by omega) (by omega) b l i2 (by omega) (by omega) (by omega) S7 fun q i3 h7 q1 n1 n2 n3 S8 => ?_
  obtain ⟨d, rfl⟩ := q1
  have g5 := S8.at4
  try simp +contextual (disch := omega)
  refine bK'_b (fun hm => ?_) (fun hm => ?_)
  · try simp +contextual (disch := omega) [ld_b g5, w64]
    exact s3 _ i3 _ (by omega) (by omega) (by omega) (fun hne => by have := j3 hne; omega) S8
  · exact s3 _ i3 _ (by omega) (by omega) (by omega) (fun hne => by have := j3 hne; omega) S8
end Go.Ideal
namespace Go.Ideal
open Go.Proofs
set_option maxRecDepth 100000
def newT : TState := ⟨false, false, -1, -1, -1, -1, 0, ⟨-1, 0, 0, 0, 0⟩⟩
def newC : CState := ⟨1, 0, 0, 0⟩
@[simp] theorem build_w1 (a : Int) : Zo PP Zu [(0, .n a)] = some (Window.mk a 0 0 0 0).v := by
  simp only [Zo, Z3f, Z20]; rfl
theorem build_newT : Zo PP Za [(2, .n (-1)), (3, .n (-1)), (4, .n (-1)), (5, .n (-1)), (7, (Window.mk (-1) 0 0 0 0).v)] = some newT.v := by
  simp only [Zo, Z4e, Z1D]; rfl
theorem build_newC : Zo PP Zj [(0, .n 1)] = some newC.v := by
  simp only [Zo, Z50, Z21]; rfl
theorem build_st (p : Int) : Zo PP Z3 [(4, .n p)] = some (SV { emptyS with proven := p } .snil .snil) := by
  simp only [Zo, Z4W, ZH]; rfl
theorem Z5g {c : Config} (hc : CfgOk c) : FunP PP Z2Z [c.v] (RepV (newState c)) := by
  intro h K k
  refine ZZ.call ?_
  have tl := hc.tenants; have cl := hc.cells
  refine (Own.start h).box fun b1 h1 S1 => ?_
  refine S1.alloc ZH fun b2 h2 S2 => ?_
  try simp +contextual (disch := omega) [ZZ.j1g, build_st]
  refine S2.alloc ZH fun b3 h3 S3 => ?_
  try simp +contextual (disch := omega)
  refine S3.put (new := svc { emptyS with proven := 1 } .snil .snil) rfl (by simp) rfl rfl fun h4 S4 => ?_
  have S5 : Own h ([] :: [] :: [(b3, some ⟨8, Z3, [svc { emptyS with proven := 1 } .snil .snil]⟩)] :: [(b2, some ⟨8, Z3, [svc emptyS .snil .snil]⟩)] :: [(b1, some ⟨10, Z6, [c.c]⟩)] :: []) h4 := S4.nils
  clear S1 S2 S3 S4
  have two : ∀ (n i : Nat) (a z : IV) (L1 L2 : PT) (h' : Heap), n + i = c.cells.length → Sl 12 Za a (List.replicate c.tenants.length newT.c) L1 → Sl 4 Zj z (List.replicate i newC.c) L2 →
      Own h (L1 :: L2 :: [(b3, some ⟨8, Z3, [svc { emptyS with proven := 1 } a z]⟩)] :: [(b2, some ⟨8, Z3, [svc emptyS .snil .snil]⟩)] :: [(b1, some ⟨10, Z6, [c.c]⟩)] :: []) h' →
      ZZ.l2 K (.ptr b1 0 0) (.ptr b2 0 0) (.ptr b3 0 0) (.n i) h' := by
    intro n
    induction n with
    | zero =>
      intro i a z L1 L2 h' hn l1 l2 S
      refine ZZ.l2_round ?_
      have g1 := S.at4; have g3 := S.at2
      have : i = c.cells.length := by omega
      simp +contextual (disch := omega) [ZZ.b2g, ld_b g1, this, ZZ.j8, ld_b g3]
      refine (S.mv 3 rfl).put (new := svc { emptyS with proven := 1 } a z) rfl (by simp) rfl (svc_ones _ a z l1.one.2 l2.one.2) fun h9 S10 => ?_
      have g2 := S10.at0
      try simp +contextual (disch := omega) [ld_b g2]
      refine k _ [L1, L2] h9 ⟨L1, L2, rfl, a, z, rfl, ?_, ?_⟩ ((S10.drop.del 2).del 2)
      · simpa [newState, newT] using l1
      · subst this; simpa [newState, newC] using l2
    | succ n ih =>
      intro i a z L1 L2 h' hn l1 l2 S
      refine ZZ.l2_round ?_
      have g1 := S.at4; have g3 := S.at2
      have hlt : i < c.cells.length := by omega
      simp +contextual (disch := omega) [ZZ.b2g, ld_b g1, hlt, ZZ.j6g, ld_b g3, build_newC]
      refine Z5n (cs := newC.c) l2 S.swap rfl rfl rfl (by simp; omega) fun s' L' h5 l' S' => ?_
      try simp +contextual (disch := omega)
      refine (S'.mv 2 rfl).store (new := [s']) (by rcases l' with ⟨rfl, _⟩ | ⟨x, rfl, _⟩ <;> rfl) (by simp) (by simp) (by simp [l'.one.2]) fun h6 S6 => ?_
      try simp +contextual (disch := omega) [ZZ.j7g, w64]
      refine ih (i + 1) a s' L1 L' h6 (by omega) l1 (by rw [List.replicate_succ']; exact l') ?_
      simpa using (S6.mv 1 rfl).mv 2 rfl
  have one : ∀ (n i : Nat) (a : IV) (L1 : PT) (h' : Heap), n + i = c.tenants.length → Sl 12 Za a (List.replicate i newT.c) L1 →
      Own h (L1 :: [] :: [(b3, some ⟨8, Z3, [svc { emptyS with proven := 1 } a .snil]⟩)] :: [(b2, some ⟨8, Z3, [svc emptyS .snil .snil]⟩)] :: [(b1, some ⟨10, Z6, [c.c]⟩)] :: []) h' →
      ZZ.l1 K (.ptr b1 0 0) (.ptr b2 0 0) (.ptr b3 0 0) (.n i) h' := by
    intro n
    induction n with
    | zero =>
      intro i a L1 h' hn l1 S
      refine ZZ.l1_round ?_
      have g1 := S.at4
      have : i = c.tenants.length := by omega
      subst this
      have tw := two c.cells.length 0 a .snil L1 [] h' (by omega) l1 (Sl.nil 4 _) S
      simp +contextual (disch := omega) [ZZ.b1g, ld_b g1, ZZ.j5g]
      exact tw
    | succ n ih =>
      intro i a L1 h' hn l1 S
      refine ZZ.l1_round ?_
      have g1 := S.at4; have g3 := S.at2
      have hlt : i < c.tenants.length := by omega
      simp +contextual (disch := omega) [ZZ.b1g, ld_b g1, hlt, ZZ.j3g, ld_b g3, build_newT]
      refine Z5j (cs := newT.c) l1 S rfl rfl rfl (by simp; omega) fun s' L' h5 l' S' => ?_
      try simp +contextual (disch := omega)
      refine (S'.mv 2 rfl).store (new := [s']) (by rcases l' with ⟨rfl, _⟩ | ⟨x, rfl, _⟩ <;> rfl) (by simp) (by simp) (by simp [l'.one.2]) fun h6 S6 => ?_
      try simp +contextual (disch := omega) [ZZ.j4g, w64]
      refine ih (i + 1) s' L' h6 (by omega) (by rw [List.replicate_succ']; exact l') ?_
      simpa using (S6.mv 2 rfl).mv 2 rfl
  try simp +contextual (disch := omega) [ZZ.j2g]
  exact one c.tenants.length 0 .snil [] h4 (by omega) (Sl.nil 12 _) S5
end Go.Ideal
namespace Go.Ideal
open Go.Proofs
set_option maxRecDepth 100000
def foldS (c : Config) : List Entry → State → Int → State × Int × Int
  | [], s, i => (s, i, 0)
  | e :: es, s, i => if (applyS c s e).2 = 0 then foldS c es (applyS c s e).1 (i + 1) else (s, i, (applyS c s e).2)
theorem inv_fold {c : Config} : ∀ (es : List Entry) (s : State) (i : Int), Inv c s → Inv c (foldS c es s i).1
  | [], s, i, h => h
  | e :: es, s, i, h => by
    simp only [foldS]
    split
    · rename_i h0
      exact inv_fold es _ _ (inv_apply (e := e) h (Prod.ext rfl h0))
    · exact h
def RepF (o : State × Int × Int) (r : IV) (Ls : List PT) : Prop := ∃ v L1 L2, r = .tup [v, .n o.2.1, .n o.2.2] ∧ Ls = [L1, L2] ∧ Rep o.1 v L1 L2
theorem Z6c {c : Config} (hc : CfgOk c) (es : List Entry) (he : (es.length : Int) ≤ 100000) : FunP PP Z3u [c.v, .vs 9 (es.map Entry.c)] (RepF (foldS c es (newState c) 0)) := by
  intro h K k
  refine Z1e.call ?_
  refine (Own.start h).box fun b2 h1 S1 => ?_
  refine S1.alloc ZH fun b4 h2 S2 => ?_
  have g2 := S2.at1
  try simp +contextual (disch := omega) [Z1e.j1g, ld_b g2]
  refine (Z5g hc).call S2 fun w Ls h3 r S3 => ?_
  obtain ⟨L1, L2, rfl, r⟩ := r
  obtain ⟨a, z, rfl, l1, l2⟩ := r.ex
  refine S3.alloc ZH fun b7 h4 S4 => ?_
  try simp +contextual (disch := omega)
  refine S4.put (new := svc (newState c) a z) rfl (by simp) rfl (svc_ones _ a z l1.one.2 l2.one.2) fun h5 S5 => ?_
  have S6 : Own h (L1 :: L2 :: [(b7, some ⟨8, Z3, [svc (newState c) a z]⟩)] :: [(b4, some ⟨8, Z3, [svc emptyS .snil .snil]⟩)] :: [(b2, some ⟨10, Z6, [c.c]⟩)] :: []) h5 := by
    simpa [show svc emptyS .snil .snil = [.n 0, .n 0, .snil, .snil, .n 0, .n 0, .n 0, .n 0] from rfl] using S5.dn2
  clear S1 S2 S3 S4 S5 g2
  have loop : ∀ (todo : List Entry) (i : Nat) (s : State) (a z : IV) (L1 L2 : PT) (h' : Heap), es.drop i = todo → i ≤ es.length → Inv c s → foldS c es (newState c) 0 = foldS c todo s i →
      Sl 12 Za a (s.tenants.map TState.c) L1 → Sl 4 Zj z (s.cells.map CState.c) L2 →
      Own h (L1 :: L2 :: [(b7, some ⟨8, Z3, [svc s a z]⟩)] :: [(b4, some ⟨8, Z3, [svc emptyS .snil .snil]⟩)] :: [(b2, some ⟨10, Z6, [c.c]⟩)] :: []) h' →
      Z1e.l1 K (.vs 9 (es.map Entry.c)) (.ptr b2 0 0) (.ptr b4 0 0) (.ptr b7 0 0) (.n i) h' := by
    intro todo
    induction todo with
    | nil =>
      intro i s a z L1 L2 h' hd hle hi hq l1 l2 S
      refine Z1e.l1_round ?_
      have : es.length ≤ i := by simpa using hd
      have : i = es.length := by omega
      subst this
      have g7 := S.at2
      simp +contextual (disch := omega) [Z1e.b1g, Z1e.j7, ld_b g7]
      refine (S.mv 3 rfl).put (new := svc s a z) rfl (by simp) rfl (svc_ones _ a z l1.one.2 l2.one.2) fun h9 S10 => ?_
      have g4 := S10.at0
      try simp +contextual (disch := omega) [ld_b g4]
      rw [hq] at k
      exact k _ [L1, L2] h9 ⟨_, L1, L2, rfl, rfl, a, z, rfl, l1, l2⟩ ((S10.drop.del 2).del 2)
    | cons e todo ih =>
      intro i s a z L1 L2 h' hd hle hi hq l1 l2 S
      refine Z1e.l1_round ?_
      have hlt : i < es.length := by
        rcases Nat.lt_or_ge i es.length with h | h
        · exact h
        · rw [List.drop_eq_nil_of_le h] at hd; cases hd
      have hx : es[i]? = some e := by
        have := List.getElem?_drop (xs := es) (i := i) (j := 0)
        rw [hd] at this; simpa using this.symm
      have ix : ∀ h, Zf PP Z13 (.vs 9 (es.map Entry.c)) (.n i) h = some (.fptr e.c) := fun h => Z5z (by omega) (by simp [hx])
      have g7 := S.slot.at3; have g2 := S.slot.at5
      simp +contextual (disch := omega) [Z1e.b1g, hlt, Z1e.j3g, ld_b g7, ld_b g2, ix, newA]
      have r : Rep s (SV s a z) L1 L2 := ⟨a, z, rfl, l1, l2⟩
      refine FunP.lend (Z5b (e := e) hc hi) RepR.nof _ (fz_cse r S.slot.dn2 e) S.slot fun w Ls h1 r1 S1 => ?_
      obtain ⟨v', M1, M2, rfl, rfl, r1⟩ := r1
      obtain ⟨a', z', rfl, m1, m2⟩ := r1.ex
      try simp +contextual (disch := omega)
      refine ((S1.mv 2 rfl).fill _).put (new := svc (applyS c s e).1 a' z') rfl (by simp) rfl (svc_ones _ a' z' m1.one.2 m2.one.2) fun h2 S2 => ?_
      simp only [foldS] at hq
      have g9 := S2.at0; have g7 := S2.at5
      by_cases hc0 : (applyS c s e).2 = 0
      · rw [if_pos hc0] at hq
        try simp +contextual (disch := omega) [Z1e.j4g, hc0, Z1e.j5g, ld_b g9]
        refine (S2.mv 5 rfl).put (new := svc (applyS c s e).1 a' z') rfl (by simp) rfl (svc_ones _ a' z' m1.one.2 m2.one.2) fun h3 S3 => ?_
        try simp +contextual (disch := omega) [Z1e.j6g, w64]
        refine ih (i + 1) (applyS c s e).1 a' z' M1 M2 h3 ?_ (by omega) (inv_apply (e := e) hi (Prod.ext rfl hc0)) (by simpa using hq) m1 m2 ?_
        · rw [← List.drop_drop, hd]; rfl
        · exact (((S3.del 1).dn2.del 3).del 3)
      · rw [if_neg hc0] at hq
        try simp +contextual (disch := omega) [Z1e.j4g, hc0, ld_b g7]
        refine (S2.mv 6 rfl).put (new := svc s a z) rfl (by simp) rfl (svc_ones _ a z l1.one.2 l2.one.2) fun h3 S3 => ?_
        have g4 := S3.at0
        try simp +contextual (disch := omega) [ld_b g4]
        rw [hq] at k
        refine k _ [L1, L2] h3 ⟨_, L1, L2, rfl, rfl, a, z, rfl, l1, l2⟩ ?_
        exact ((((S3.drop.drop.drop.drop).del 2).del 2))
  try simp +contextual (disch := omega) [Z1e.j2g]
  exact loop es 0 (newState c) a z L1 L2 h5 (by simp) (by omega) (inv_new hc) rfl l1 l2 S6
end Go.Ideal
namespace Go.Ideal
open Go.Proofs
set_option maxRecDepth 100000
theorem Z6d {c : Config} (hc : CfgV c) {l : List Int} (hl : (l.length : Int) ≤ 900000) {n : Int} (hn : 0 ≤ n ∧ n ≤ 1000) :
    FunQ PP Z3v [.vs 1 (ints l), c.v, .n n] (fun r => ∃ es : List Entry, r = .vs 9 (es.map Entry.c) ∧ (es.length : Int) ≤ n) := by
  refine FunQ.intro fun h => Z16.call ?_
  refine (Own.start h).box fun b4 h1 S1 => ?_
  try simp +contextual (disch := omega) [Z16.j1g]
  refine Z5d S1 fun b7 h2 S2 => ?_
  have g4 := S2.at1
  try simp +contextual (disch := omega) [Z16.j2g, ld_b g4]
  refine (Z5g hc.toCfgOk).call S2 fun w Ls h3 r S3 => ?_
  obtain ⟨L1, L2, rfl, r⟩ := r
  obtain ⟨a, z, rfl, l1, l2⟩ := r.ex
  refine S3.alloc ZH fun b8 h4 S4 => ?_
  try simp +contextual (disch := omega)
  refine S4.put (new := svc (newState c) a z) rfl (by simp) rfl (svc_ones _ a z l1.one.2 l2.one.2) fun h5 S5 => ?_
  have S6 : Own h (tp b7 l 0 :: L1 :: L2 :: [] :: [(b8, some ⟨8, Z3, [svc (newState c) a z]⟩)] :: [(b4, some ⟨10, Z6, [c.c]⟩)] :: []) h5 := by
    exact (S5.dn2.mv 3 rfl).perm (by simp)
  clear S1 S2 S3 S4 S5 g4
  have loop : ∀ (m : Nat) (i : Int) (es : List Entry) (s : State) (a z o : IV) (L1 L2 L3 : PT) (h' : Heap), (l.length : Int) ≤ i + m → 0 ≤ i → (es.length : Int) ≤ n → Inv c s →
      Sl 12 Za a (s.tenants.map TState.c) L1 → Sl 4 Zj z (s.cells.map CState.c) L2 → Sl 9 Z8 o (es.map Entry.c) L3 →
      Own h (tp b7 l i :: L1 :: L2 :: L3 :: [(b8, some ⟨8, Z3, [svc s a z]⟩)] :: [(b4, some ⟨10, Z6, [c.c]⟩)] :: []) h' →
      Z16.l1 (Ret (fun r => ∃ es : List Entry, r = .vs 9 (es.map Entry.c) ∧ (es.length : Int) ≤ n) h) (.n n) (.ptr b4 0 0) (.ptr b7 0 0) (.ptr b8 0 0) o h' := by
    intro m
    induction m with
    | zero =>
      intro i es s a z o L1 L2 L3 h' hm i0 hle hi l1 l2 l3 S
      refine Z16.l1_round ?_
      have hmo : decide (i < (l.length : Int)) = false := by simp; omega
      have lo := l3.len Z51
      by_cases hlt : (es.length : Int) < n
      · simp +contextual (disch := omega) [Z16.b1g, lo, hlt]
        refine Z5c S ?_
        rw [hmo]
        try simp +contextual (disch := omega) [Z16.j5]
        exact Ret.sl l3 (S.mv 3 rfl) (by simp) ⟨es, rfl, hle⟩
      · simp +contextual (disch := omega) [Z16.b1g, lo, hlt, Z16.j5]
        exact Ret.sl l3 (S.mv 3 rfl) (by simp) ⟨es, rfl, hle⟩
    | succ m ih =>
      intro i es s a z o L1 L2 L3 h' hm i0 hle hi l1 l2 l3 S
      refine Z16.l1_round ?_
      have lo := l3.len Z51
      by_cases hlt : (es.length : Int) < n
      · simp +contextual (disch := omega) [Z16.b1g, lo, hlt]
        refine Z5c S ?_
        by_cases hmo : i < (l.length : Int)
        · have g4 := S.at5; have g8 := S.at4
          have hne : l ≠ [] := fun e => by subst e; simp at hmo; omega
          try simp +contextual (disch := omega) [hmo, Z16.j4g, ld_b g4, ld_b g8]
          have r : Rep s (SV s a z) L1 L2 := ⟨a, z, rfl, l1, l2⟩
          refine Z6b hc hi b7 l i i0 (by omega) (by omega) r S fun e i2 h2 n1 n2 n3 S2 => ?_
          have n3 := n3 hne
          refine S2.alloc Z1L fun b5 h3 S3 => ?_
          try simp +contextual (disch := omega)
          refine S3.put (new := e.c) rfl (by simp) rfl (by simp) fun h4 S4 => ?_
          have g4 := S4.at6; have g8 := S4.at5; have g5 := S4.at0
          try simp +contextual (disch := omega) [ld_b g4, ld_b g8, ld_b g5]
          refine FunP.lend (Z5b (e := e) hc.toCfgOk hi) RepR.nof _ (fz_cse r ((S4.mv 2 rfl).mv 3 rfl).swap e) S4 fun w Ls h5 r1 S5 => ?_
          obtain ⟨v', M1, M2, rfl, rfl, r1⟩ := r1
          obtain ⟨a', z', rfl, m1, m2⟩ := r1.ex
          try simp +contextual (disch := omega)
          refine S5.alloc ZH fun b13 h6 S6 => ?_
          try simp +contextual (disch := omega)
          refine S6.put (new := svc (applyS c s e).1 a' z') rfl (by simp) rfl (svc_ones _ a' z' m1.one.2 m2.one.2) fun h7 S7 => ?_
          by_cases hc0 : (applyS c s e).2 = 0
          · have g13 := S7.at0
            try simp +contextual (disch := omega) [hc0, ld_b g13]
            refine (S7.mv 8 rfl).put (new := svc (applyS c s e).1 a' z') rfl (by simp) rfl (svc_ones _ a' z' m1.one.2 m2.one.2) fun h8 S8 => ?_
            have g5 := S8.at4
            try simp +contextual (disch := omega) [ld_b g5]
            refine Z5A (cs := e.c) l3 (S8.mv 8 rfl) rfl rfl rfl (by simp; omega) fun s' L' h9 l' S9 => ?_
            refine ih i2 (es ++ [e]) (applyS c s e).1 a' z' s' M1 M2 L' h9 (by omega) (by omega) (by simp; omega) (inv_apply (e := e) hi (Prod.ext rfl hc0)) m1 m2 (by simpa using l') ?_
            exact (((((((S9.del 2).del 4).del 5).del 5).mv 3 rfl).mv 3 rfl).mv 4 rfl)
          · try simp +contextual (disch := omega) [hc0]
            exact ih i2 es s a z o L1 L2 L3 h7 (by omega) (by omega) hle hi l1 l2 l3 S7.drop.drop.drop.drop
        · try simp +contextual (disch := omega) [hmo, Z16.j5]
          exact Ret.sl l3 (S.mv 3 rfl) (by simp) ⟨es, rfl, hle⟩
      · simp +contextual (disch := omega) [Z16.b1g, lo, hlt, Z16.j5]
        exact Ret.sl l3 (S.mv 3 rfl) (by simp) ⟨es, rfl, hle⟩
  try simp +contextual (disch := omega) [Z16.j3g]
  exact loop l.length 0 [] (newState c) a z .snil L1 L2 [] h5 (by omega) (by omega) (by simp; omega) (inv_new hc.toCfgOk) l1 l2 (Sl.nil 9 _) S6
end Go.Ideal
namespace Go.Ideal
open Go.Proofs
set_option maxRecDepth 100000
theorem Z6e {c : Config} (hc : CfgV c) {l : List Int} (hl : (l.length : Int) ≤ 900000) {n : Int} (hn : 0 ≤ n ∧ n ≤ 1000) :
    FunP PP Z3n [.vs 1 (ints l), c.v, .n n] (fun r Ls => ∃ es : List Entry, RepV (foldS c es (newState c) 0).1 r Ls) := by
  intro h K k
  refine Z41.call ?_
  refine (Own.start h).box fun b1 h1 S1 => ?_
  refine S1.alloc ZH fun b2 h2 S2 => ?_
  have g1 := S2.slot.at2
  try simp +contextual (disch := omega) [Z41.e, ld_b g1, newA]
  refine (Z6d hc hl hn).call fun r hr => ?_
  obtain ⟨es, rfl, hes⟩ := hr
  try simp +contextual (disch := omega) [ld_b g1, Zb]
  refine (Z6c hc.toCfgOk es (by omega)).call S2.slot fun w Ls h3 r S3 => ?_
  obtain ⟨v, L1, L2, rfl, rfl, r⟩ := r
  obtain ⟨a, z, rfl, l1, l2⟩ := r.ex
  try simp +contextual (disch := omega)
  refine ((S3.mv 2 rfl).fill _).put (new := svc (foldS c es (newState c) 0).1 a z) rfl (by simp) rfl (svc_ones _ a z l1.one.2 l2.one.2) fun h4 S4 => ?_
  have g := S4.at0
  try simp +contextual (disch := omega) [ld_b g]
  refine (S4.mv 3 rfl).put (new := svc (foldS c es (newState c) 0).1 a z) rfl (by simp) rfl (svc_ones _ a z l1.one.2 l2.one.2) fun h5 S5 => ?_
  have g := S5.at0
  try simp +contextual (disch := omega) [ld_b g]
  exact k _ [L1, L2] h5 ⟨es, L1, L2, rfl, a, z, rfl, l1, l2⟩ (S5.drop.drop.del 2)
end Go.Ideal
namespace Go.Ideal
open Go.Proofs
set_option maxRecDepth 100000
def ccv (c : Config) (z k t v r o : IV) : List IV := [.n c.regions, z, k, t, v, r, o, .n c.blast, .n c.lease, .n c.bake]
section
variable (c : Config) (z k t v r o x : IV) (n : Int)
@[simp] theorem ccv_len : (ccv c z k t v r o).length = 10 := rfl
@[simp] theorem ccv_ld : ldI (some true) (some 10) (ccv c z k t v r o) = some (.agg (ccv c z k t v r o)) := Zc rfl
@[simp] theorem ccv_ld0 : ldI (some false) (some 1) (ccv c z k t v r o) = some (.n c.regions) := Zc rfl
@[simp] theorem ccv_ld1 : ldI (some false) (some 1) (ccv c z k t v r o).tail = some z := Zc rfl
@[simp] theorem ccv_ld2 : ldI (some false) (some 1) ((ccv c z k t v r o).drop 2) = some k := Zc rfl
@[simp] theorem ccv_ld3 : ldI (some false) (some 1) ((ccv c z k t v r o).drop 3) = some t := Zc rfl
@[simp] theorem ccv_ld4 : ldI (some false) (some 1) ((ccv c z k t v r o).drop 4) = some v := Zc rfl
@[simp] theorem ccv_ld5 : ldI (some false) (some 1) ((ccv c z k t v r o).drop 5) = some r := Zc rfl
@[simp] theorem ccv_ld6 : ldI (some false) (some 1) ((ccv c z k t v r o).drop 6) = some o := Zc rfl
end
structure RepC (c : Config) (z k t v r o : IV) (Lz Lk Lt Lv Lr Lo : PT) : Prop where
  z : Sl 1 ZR z (c.zones.map Zone.c) Lz
  k : Sl 2 Zz k (c.cells.map CellC.c) Lk
  t : Sl 7 Zs t (c.tenants.map Tenant.c) Lt
  v : Sl 2 ZD v (c.versions.map Version.c) Lv
  r : Sl 1 Z0 r (ints c.replicas) Lr
  o : Sl 1 Z0 o (ints c.observers) Lo
theorem ccv_ones (c : Config) {z k t v r o : IV} {Lz Lk Lt Lv Lr Lo : PT} (R : RepC c z k t v r o Lz Lk Lt Lv Lr Lo) : (ccv c z k t v r o).all oneI = true := by
  simp only [ccv, List.all_cons, List.all_nil, R.z.one.2, R.k.one.2, R.t.one.2, R.v.one.2, R.r.one.2, R.o.one.2]; rfl
theorem RepC.fz {c : Config} {z k t v r o : IV} {Lz Lk Lt Lv Lr Lo : PT} (R : RepC c z k t v r o Lz Lk Lt Lv Lr Lo) {h0 h : Heap} {rs : List PT} (S : Own h0 (Lz :: Lk :: Lt :: Lv :: Lr :: Lo :: rs) h) : Fz h (geB h0.length) c.v (.agg (ccv c z k t v r o)) := by
  have z1 := R.z.fz S (R.z.geB S) (Fzss.refl h _ _ (Zone.bels 0 _))
  have S1 := S.mv 1 rfl
  have z2 := R.k.fz S1 (R.k.geB S1) (Fzss.refl h _ _ (CellC.bels 0 _))
  have S2 := S.mv 2 rfl
  have z3 := R.t.fz S2 (R.t.geB S2) (Fzss.refl h _ _ (Tenant.bels 0 _))
  have S3 := S.mv 3 rfl
  have z4 := R.v.fz S3 (R.v.geB S3) (Fzss.refl h _ _ (Version.bels 0 _))
  have S4 := S.mv 4 rfl
  have z5 := R.r.fz S4 (R.r.geB S4) (Fzss.refl h _ _ (by simp))
  have S5 := S.mv 5 rfl
  have z6 := R.o.fz S5 (R.o.geB S5) (Fzss.refl h _ _ (by simp))
  simp only [Fz]
  refine ⟨_, rfl, ?_⟩
  simp only [Config.c, ccv, Fzs, Fz]
  simp only [Fz] at z1 z2 z3 z4 z5 z6
  exact ⟨_, _, rfl, rfl, _, _, rfl, z1, _, _, rfl, z2, _, _, rfl, z3, _, _, rfl, z4, _, _, rfl, z5, _, _, rfl, z6, _, _, rfl, rfl, _, _, rfl, rfl, _, _, rfl, rfl, rfl⟩
end Go.Ideal
namespace Go.Ideal
open Go.Proofs
set_option maxRecDepth 100000
theorem new_zone (x : Zone) : newS PP ZK 1 [(0, x.v)] = some (some 1, ⟨1, ZR, [x.c]⟩) := by
  simp only [newS, Z3e, Z2J, Z4Y]; rfl
theorem new_cell (x : CellC) : newS PP Zn 1 [(0, x.v)] = some (some 1, ⟨2, Zz, [x.c]⟩) := by
  simp only [newS, Z5r, Z2n, Z4X]; rfl
theorem new_version (x : Version) : newS PP ZI 1 [(0, x.v)] = some (some 1, ⟨2, ZD, [x.c]⟩) := by
  simp only [newS, Z5u, Z2a, Z4h]; rfl
theorem new_int (x : Int) : newS PP Zk 1 [(0, .n x)] = some (some 1, ⟨1, Z0, [[.n x]]⟩) := by
  simp only [newS, Z1K, Z4a, Z49]; rfl
theorem new_tenant : newA PP Zs = some (none, ⟨7, Zs, [(Tenant.mk 0 0 0 0 0 0 false).c]⟩) := by
  simp only [newA, Z3g]; rfl
structure TenM (r : Int) (x : Tenant) : Prop where
  load : 1 ≤ x.load ∧ x.load ≤ 12
  shadow : 0 ≤ x.shadow ∧ x.shadow ≤ x.load
  priority : 0 ≤ x.priority ∧ x.priority ≤ 3
  lag : -1 ≤ x.lag ∧ x.lag ≤ 3
  allowed : 1 ≤ x.allowed ∧ x.allowed ≤ 2 ^ r.toNat - 1
  group : 0 ≤ x.group ∧ x.group ≤ 2
structure Made (c : Config) : Prop where
  regions : 1 ≤ c.regions ∧ c.regions ≤ 3
  zones : ∀ (i : Nat) z, c.zones[i]? = some z → z.region = (i : Int).tmod c.regions
  zl : c.zones.length ≤ 6
  cells : ∀ (i : Nat) x, c.cells[i]? = some x → x.zone = (i : Int).tmod c.zones.length ∧ (10 ≤ x.capacity ∧ x.capacity ≤ 40)
  cl : c.cells.length ≤ 7
  tenants : ∀ x ∈ c.tenants, TenM c.regions x
  tl : c.tenants.length ≤ 5
  versions : ∀ x ∈ c.versions, (0 ≤ x.low ∧ x.low ≤ 1) ∧ (x.low ≤ x.high ∧ x.high ≤ x.low + 2)
  version0 : ∀ x, c.versions[0]? = some x → x.low = 0
  vl : c.versions.length ≤ 3
  replicas : ∀ x ∈ c.replicas, 0 ≤ x ∧ x < c.zones.length
  rl : c.replicas.length ≤ 3
  observers : ∀ x ∈ c.observers, 0 ≤ x ∧ x < c.zones.length
  ol : c.observers.length ≤ 4
  blast : 1 ≤ c.blast ∧ c.blast ≤ 3
  lease : 2 ≤ c.lease ∧ c.lease ≤ 12
  bake : 0 ≤ c.bake ∧ c.bake ≤ 8
def Em4 (c : Config) : Prop := c.observers = []
def Em3 (c : Config) : Prop := c.replicas = [] ∧ Em4 c
def Em2 (c : Config) : Prop := c.versions = [] ∧ Em3 c
def Em1 (c : Config) : Prop := c.tenants = [] ∧ Em2 c
def Em0 (c : Config) : Prop := c.cells = [] ∧ Em1 c
def P1 (c : Config) : Prop := c.regions ≤ c.zones.length
def P2 (c : Config) : Prop := P1 c ∧ c.zones.length ≤ c.cells.length
abbrev zeroCfg : List IV := [.n 0, .snil, .snil, .snil, .snil, .snil, .snil, .n 0, .n 0, .n 0]
def Mk (h0 : Heap) (b b4 b2 : Nat) (l : List Int) (i : Int) (c : Config) (h : Heap) : Prop :=
  ∃ z k t v r o Lz Lk Lt Lv Lr Lo, RepC c z k t v r o Lz Lk Lt Lv Lr Lo ∧
    Own h0 (tp b l i :: [(b4, some ⟨10, Z6, [ccv c z k t v r o]⟩)] :: [(b2, some ⟨10, Z6, [zeroCfg]⟩)] :: Lz :: Lk :: Lt :: Lv :: Lr :: Lo :: []) h
theorem get_snoc {α : Type} {l : List α} {x y : α} {i : Nat} (h : (l ++ [x])[i]? = some y) : l[i]? = some y ∨ (i = l.length ∧ y = x) := by
  rcases Nat.lt_or_ge i l.length with hi | hi
  · rw [List.getElem?_append_left hi] at h; exact .inl h
  · rw [List.getElem?_append_right hi] at h
    have : i - l.length = 0 := by
      have := (List.getElem?_eq_some_iff.1 h).1
      simp at this; omega
    rw [this] at h
    simp at h
    exact .inr ⟨by omega, h.symm⟩
section
variable {h0 : Heap} {K : KT} {b b4 b2 : Nat} {l : List Int}
theorem cfg_zones (hl : (l.length : Int) ≤ 900000) {I : Int} (hI : I ≤ 1000000) (k : ∀ c i h, Made c → P1 c → Em0 c → 0 ≤ i → i ≤ I → Mk h0 b b4 b2 l i c h → Zr.j6 K (.ptr b2 0 0) (.ptr b 0 0) (.ptr b4 0 0) h) :
    ∀ (m : Nat) (c : Config) (i : Int) (h : Heap), c.zones.length + m = 7 → Made c → Em0 c → 0 ≤ i → i + m ≤ I → Mk h0 b b4 b2 l i c h →
      Zr.l1 K (.ptr b2 0 0) (.ptr b 0 0) (.ptr b4 0 0) (.n c.zones.length) h := by
  intro m
  induction m with
  | zero => intro c i h hm mk; have := mk.zl; omega
  | succ m ih =>
    intro c i h hm mk em i0 i1 M
    refine Zr.l1_round ?_
    obtain ⟨z, kk, t, v, r, o, Lz, Lk, Lt, Lv, Lr, Lo, R, S⟩ := M
    have reg := mk.regions
    have add : c.zones.length < 6 → ∀ i' h', 0 ≤ i' → i' + m ≤ I → Own h0 (tp b l i' :: [(b4, some ⟨10, Z6, [ccv c z kk t v r o]⟩)] :: [(b2, some ⟨10, Z6, [zeroCfg]⟩)] :: Lz :: Lk :: Lt :: Lv :: Lr :: Lo :: []) h' →
        Zr.j4 K (.ptr b2 0 0) (.ptr b 0 0) (.ptr b4 0 0) (.n c.zones.length) h' := by
      intro h6 i' h' p0 p1 S
      have hz : Zo PP ZR [(0, .n ((c.zones.length : Int).tmod c.regions))] = some (Zone.mk ((c.zones.length : Int).tmod c.regions)).v := by
        simp only [Zo, Z4g, Z2J]; rfl
      have hne : ¬ c.regions = 0 := by omega
      try (have G := S.slot.facts; simp only [factsL, factsP, tp, and_true, true_and] at G; simp +contextual (disch := omega) [ld_pb, G, Zb, Zr.j4g, ar_rem, hne, hz, new_zone])
      have S1 := (S.push (some ⟨1, ZR, [(Zone.mk ((c.zones.length : Int).tmod c.regions)).c]⟩))
      refine Z5p R.z (S1.m4) (xs := [(Zone.mk ((c.zones.length : Int).tmod c.regions)).c]) (by simp [srcI]) (by simp [ZT]) (by simp; omega) fun z' L' h2 l' S2 => ?_
      try simp +contextual (disch := omega)
      refine S2.m3.store (new := [z']) (by rcases l' with ⟨rfl, _⟩ | ⟨x, rfl, _⟩ <;> rfl) (by simp) (by simp) (by simp [l'.one.2]) fun h3 S3 => ?_
      try simp +contextual (disch := omega) [Zr.j5g, w64]
      have := ih { c with zones := c.zones ++ [⟨(c.zones.length : Int).tmod c.regions⟩] } i' h3 (by simp; omega) ?_ em p0 p1 ?_
      · simpa using this
      · refine { mk with zones := ?_, zl := by simp; omega, cells := by rw [em.1]; simp, replicas := by rw [em.2.2.2.1]; simp, observers := by rw [em.2.2.2.2]; simp }
        intro i x hx
        rcases get_snoc hx with hx | ⟨rfl, rfl⟩
        · exact mk.zones i x hx
        · rfl
      · refine ⟨z', kk, t, v, r, o, L', Lk, Lt, Lv, Lr, Lo, ⟨by simpa using l', R.k, R.t, R.v, R.r, R.o⟩, ?_⟩
        exact S3.dp2.m3.m1.m3
    by_cases hr : (c.zones.length : Int) < c.regions
    · (have G := S.facts; simp only [factsL, factsP, tp, and_true, true_and] at G; simp +contextual (disch := omega) [ld_pb, G, Zb, Zr.b1g, hr])
      exact add (by omega) i h i0 (by omega) S
    · (have G := S.facts; simp only [factsL, factsP, tp, and_true, true_and] at G; simp +contextual (disch := omega) [ld_pb, G, Zb, Zr.b1g, hr])
      refine Z1G (n := 3) (by omega) (by omega) b l i (by omega) (by have := mk.zl; omega) (by omega) S fun q i4 h10 q4 n1 n2 n3 S13 => ?_
      obtain ⟨u, rfl⟩ := q4
      have mzl := mk.zl
      try simp +contextual (disch := omega)
      refine bK'_b (fun hm => ?_) (fun hm => ?_)
      · exact add (by simp at hm; omega) i4 h10 (by omega) (by omega) S13
      · exact k c i4 h10 mk (by simp [P1]; omega) em (by omega) (by omega) ⟨z, kk, t, v, r, o, Lz, Lk, Lt, Lv, Lr, Lo, R, S13⟩
theorem cfg_cells (hl : (l.length : Int) ≤ 900000) {I : Int} (hI : I ≤ 1000000) (k : ∀ c i h, Made c → P2 c → Em1 c → 0 ≤ i → i ≤ I → Mk h0 b b4 b2 l i c h → Zr.j9 K (.ptr b2 0 0) (.ptr b 0 0) (.ptr b4 0 0) h) :
    ∀ (m : Nat) (c : Config) (i : Int) (h : Heap), c.cells.length + m = 8 → Made c → P1 c → Em1 c → 0 ≤ i → i + 2 * m ≤ I → Mk h0 b b4 b2 l i c h →
      Zr.l2 K (.ptr b2 0 0) (.ptr b 0 0) (.ptr b4 0 0) (.n c.cells.length) h := by
  intro m
  induction m with
  | zero => intro c i h hm mk; have := mk.cl; omega
  | succ m ih =>
    intro c i h hm mk p1 em i0 i1 M
    refine Zr.l2_round ?_
    obtain ⟨z, kk, t, v, r, o, Lz, Lk, Lt, Lv, Lr, Lo, R, S⟩ := M
    have reg := mk.regions
    have mzl := mk.zl
    have pz : c.regions ≤ c.zones.length := p1
    have lz := R.z.len Z3e
    have add : c.cells.length < 7 → ∀ i' h', 0 ≤ i' → i' + 1 + 2 * m ≤ I → Own h0 (tp b l i' :: [(b4, some ⟨10, Z6, [ccv c z kk t v r o]⟩)] :: [(b2, some ⟨10, Z6, [zeroCfg]⟩)] :: Lz :: Lk :: Lt :: Lv :: Lr :: Lo :: []) h' →
        Zr.j7 K (.ptr b2 0 0) (.ptr b 0 0) (.ptr b4 0 0) (.n c.cells.length) h' := by
      intro h6 i' h' p0 p1 S
      have hne : ¬ (c.zones.length : Int) = 0 := by omega
      try (have G := S.slot.facts; simp only [factsL, factsP, tp, and_true, true_and] at G; simp +contextual (disch := omega) [ld_pb, G, Zb, Zr.j7g, ar_rem, lz])
      refine Z1N (a := 1) (z := 4) (by omega) (by omega) (by omega) b l i' (by omega) (by omega) (by omega) S.slot.m1 fun q i4 h10 q4 n1 n2 n3 S1 => ?_
      obtain ⟨u, rfl, u0, u1⟩ := q4
      have hz : Zo PP Zz [(0, .n ((c.cells.length : Int).tmod c.zones.length)), (1, .n (u * 10))] = some (CellC.mk ((c.cells.length : Int).tmod c.zones.length) (u * 10)).v := by
        simp only [Zo, Z4f, Z2n]; rfl
      try (have G := S1.facts; simp only [factsL, factsP, tp, and_true, true_and] at G; simp +contextual (disch := omega) [ld_pb, G, Zb, w64, hz, new_cell])
      have S2 := S1.fi1 (some ⟨2, Zz, [(CellC.mk ((c.cells.length : Int).tmod c.zones.length) (u * 10)).c]⟩)
      refine Z5q R.k (S2.m5) (xs := [(CellC.mk ((c.cells.length : Int).tmod c.zones.length) (u * 10)).c]) (by simp [srcI, S2.at1]) (by simp [ZT]) (by simp; omega) fun z' L' h2 l' S3 => ?_
      try simp +contextual (disch := omega)
      refine S3.st3 (new := [z']) (by rcases l' with ⟨rfl, _⟩ | ⟨x, rfl, _⟩ <;> rfl) (by simp) (by simp) (by simp [l'.one.2]) fun h3 S4 => ?_
      try simp +contextual (disch := omega) [Zr.j8g, w64]
      have := ih { c with cells := c.cells ++ [⟨(c.cells.length : Int).tmod c.zones.length, u * 10⟩] } i4 h3 (by simp; omega) ?_ pz em (by omega) (by omega) ?_
      · simpa using this
      · refine { mk with cells := ?_, cl := by simp; omega }
        intro i x hx
        rcases get_snoc hx with hx | ⟨rfl, rfl⟩
        · exact mk.cells i x hx
        · exact ⟨rfl, by simp; omega⟩
      · refine ⟨z, z', t, v, r, o, Lz, L', Lt, Lv, Lr, Lo, ⟨R.z, by simpa using l', R.t, R.v, R.r, R.o⟩, ?_⟩
        exact S4.dp2.b4
    have fin : ∀ i' h', c.zones.length ≤ c.cells.length → 0 ≤ i' → i' ≤ I → Own h0 (tp b l i' :: [(b4, some ⟨10, Z6, [ccv c z kk t v r o]⟩)] :: [(b2, some ⟨10, Z6, [zeroCfg]⟩)] :: Lz :: Lk :: Lt :: Lv :: Lr :: Lo :: []) h' →
        Zr.j9 K (.ptr b2 0 0) (.ptr b 0 0) (.ptr b4 0 0) h' :=
      fun i' h' e p0 p1 S => k c i' h' mk ⟨pz, e⟩ em p0 p1 ⟨z, kk, t, v, r, o, Lz, Lk, Lt, Lv, Lr, Lo, R, S⟩
    by_cases hr : c.cells.length < c.zones.length
    · (have G := S.facts; simp only [factsL, factsP, tp, and_true, true_and] at G; simp +contextual (disch := omega) [ld_pb, G, Zb, Zr.b2g, hr, lz])
      exact add (by omega) i h i0 (by omega) S
    · (have G := S.facts; simp only [factsL, factsP, tp, and_true, true_and] at G; simp +contextual (disch := omega) [ld_pb, G, Zb, Zr.b2g, hr, lz])
      refine Z1G (n := 2) (by omega) (by omega) b l i (by omega) (by omega) (by omega) S fun q i4 h10 q4 n1 n2 n3 S13 => ?_
      obtain ⟨u, rfl⟩ := q4
      try simp +contextual (disch := omega)
      refine bK'_b (fun hm => ?_) (fun hm => ?_)
      · exact add (by simp at hm; omega) i4 h10 (by omega) (by omega) S13
      · exact fin i4 h10 (by omega) (by omega) (by omega) S13
end
end Go.Ideal
namespace Go.Ideal
open Go.Proofs
set_option maxRecDepth 100000
theorem shl1_eq {r : Int} (h : 1 ≤ r ∧ r ≤ 3) : shl1 r = 2 ^ r.toNat := by
  obtain rfl | rfl | rfl : r = 1 ∨ r = 2 ∨ r = 3 := by omega
  all_goals rfl
theorem pow_bd {r : Int} (h : 1 ≤ r ∧ r ≤ 3) : 2 ≤ (2 : Int) ^ r.toNat ∧ (2 : Int) ^ r.toNat ≤ 8 := by
  obtain rfl | rfl | rfl : r = 1 ∨ r = 2 ∨ r = 3 := by omega
  all_goals decide
section
variable {h0 : Heap} {K : KT} {b b4 b2 : Nat} {l : List Int}
theorem cfg_tenants (hl : (l.length : Int) ≤ 900000) {I : Int} (hI : I ≤ 1000000) (k : ∀ c i h, Made c → P2 c → Em2 c → 0 ≤ i → i ≤ I → Mk h0 b b4 b2 l i c h → Zr.j15 K (.ptr b2 0 0) (.ptr b 0 0) (.ptr b4 0 0) h) :
    ∀ (m : Nat) (c : Config) (i : Int) (h : Heap), c.tenants.length + m ≤ 5 → Made c → P2 c → Em2 c → 0 ≤ i → i + 9 * m ≤ I → Mk h0 b b4 b2 l i c h →
      Zr.l3 K (.ptr b2 0 0) (.ptr b 0 0) (.ptr b4 0 0) (.n m) h := by
  intro m
  induction m with
  | zero =>
    intro c i h hm mk p em i0 i1 M
    refine Zr.l3_round ?_
    try simp +contextual (disch := omega) [Zr.b3g]
    exact k c i h mk p em i0 (by omega) M
  | succ m ih =>
    intro c i h hm mk p em i0 i1 M
    refine Zr.l3_round ?_
    obtain ⟨z, kk, t, v, r, o, Lz, Lk, Lt, Lv, Lr, Lo, R, S⟩ := M
    have reg := mk.regions
    have pw := pow_bd reg
    have e1 := shl1_eq reg
    have pos : (0 : Int) < m + 1 := by omega
    try simp +contextual (disch := omega) [Zr.b3g, pos]
    try simp +contextual (disch := omega) [Zr.j10g]
    refine Z1N (a := 1) (z := 12) (by omega) (by omega) (by omega) b l i (by omega) (by omega) (by omega) S fun q ia hia q4 n1ia n2ia n3ia Sa => ?_
    obtain ⟨ld, rfl, ld0, ld1⟩ := q4
    try (have G := Sa.slot.facts; simp only [factsL, factsP, tp, and_true, true_and] at G; simp +contextual (disch := omega) [ld_pb, G, Zb, Zr.j11g, w64, convI, wu64, ar_shl1, e1, new_tenant])
    refine ZN (n := ld + 1) (by omega) (by omega) b l ia (by omega) (by omega) (by omega) Sa.slot.m1 fun q ib hib q4 n1ib n2ib n3ib Sb => ?_
    obtain ⟨sh, rfl, sh0, sh1⟩ := q4
    try (have G := Sb.facts; simp only [factsL, factsP, tp, and_true, true_and] at G; simp +contextual (disch := omega) [ld_pb, G, Zb, w64, convI, wu64])
    refine ZN (n := 4) (by omega) (by omega) b l ib (by omega) (by omega) (by omega) Sb fun q ic hic q4 n1ic n2ic n3ic Sc => ?_
    obtain ⟨pr, rfl, pr0, pr1⟩ := q4
    try (have G := Sc.facts; simp only [factsL, factsP, tp, and_true, true_and] at G; simp +contextual (disch := omega) [ld_pb, G, Zb, w64, convI, wu64])
    refine Z1N (a := -1) (z := 3) (by omega) (by omega) (by omega) b l ic (by omega) (by omega) (by omega) Sc fun q id hid q4 n1id n2id n3id Sd => ?_
    obtain ⟨lg, rfl, lg0, lg1⟩ := q4
    try (have G := Sd.facts; simp only [factsL, factsP, tp, and_true, true_and] at G; simp +contextual (disch := omega) [ld_pb, G, Zb, w64, convI, wu64])
    refine ZN (n := 3) (by omega) (by omega) b l id (by omega) (by omega) (by omega) Sd fun q ie hie q4 n1ie n2ie n3ie Se => ?_
    obtain ⟨gr, rfl, gr0, gr1⟩ := q4
    try (have G := Se.facts; simp only [factsL, factsP, tp, and_true, true_and] at G; simp +contextual (disch := omega) [ld_pb, G, Zb, w64, convI, wu64])
    refine Z1G (n := 4) (by omega) (by omega) b l ie (by omega) (by omega) (by omega) Se fun q jf hjf q4 n1jf n2jf n3jf Sf => ?_
    obtain ⟨ny, rfl⟩ := q4
    let x : Tenant := ⟨ld, sh, pr, lg, 2 ^ c.regions.toNat - 1, gr, ny⟩
    have hx : Zo PP Zs [(0, .n ld), (1, .n sh), (2, .n pr), (3, .n lg), (4, .n (2 ^ c.regions.toNat - 1)), (5, .n gr), (6, .bool ny)] = some x.v := by
      simp only [Zo, Z4Z, Z3g]; rfl
    try (have G := Sf.facts; simp only [factsL, factsP, tp, and_true, true_and] at G; simp +contextual (disch := omega) [ld_pb, G, Zb, w64, convI, wu64, hx, new_tenant])
    have Sg := Sf.fi1 (some ⟨7, Zs, [(Tenant.mk 0 0 0 0 0 0 false).c]⟩)
    refine Sg.pu1 (new := x.c) rfl (by simp) rfl (by simp) fun h8 Sh => ?_
    try simp +contextual (disch := omega) [Zr.j12g]
    have tail : ∀ (al : Int) i' h', (1 ≤ al ∧ al ≤ 2 ^ c.regions.toNat - 1) → 0 ≤ i' → i' + 9 * m ≤ I → Own h0 (tp b l i' :: [(hia.length, some ⟨7, Zs, [(Tenant.mk ld sh pr lg al gr ny).c]⟩)] :: [(b4, some ⟨10, Z6, [ccv c z kk t v r o]⟩)] :: [(b2, some ⟨10, Z6, [zeroCfg]⟩)] :: Lz :: Lk :: Lt :: Lv :: Lr :: Lo :: []) h' →
        Zr.j13 K (.ptr b2 0 0) (.ptr b 0 0) (.ptr b4 0 0) (.n (m + 1)) (.ptr hia.length 0 0) h' := by
      intro al i' h' ha p0 p1 S
      have mtl := mk.tl
      try (have G := S.facts; simp only [factsL, factsP, tp, and_true, true_and] at G; simp +contextual (disch := omega) [ld_pb, G, Zb, Zr.j13g])
      refine Z5s (cs := (Tenant.mk ld sh pr lg al gr ny).c) R.t S.m6 rfl rfl rfl (by simp; omega) fun s' L' h9 l' S1 => ?_
      try simp +contextual (disch := omega)
      refine S1.st3 (new := [s']) (by rcases l' with ⟨rfl, _⟩ | ⟨x, rfl, _⟩ <;> rfl) (by simp) (by simp) (by simp [l'.one.2]) fun h10 S2 => ?_
      try simp +contextual (disch := omega) [Zr.j14g, w64]
      refine ih { c with tenants := c.tenants ++ [⟨ld, sh, pr, lg, al, gr, ny⟩] } i' h10 (by simp; omega) ?_ p em p0 p1 ?_
      · refine { mk with tenants := ?_, tl := by simp; omega }
        intro x hx
        rcases List.mem_append.1 hx with hx | hx
        · exact mk.tenants x hx
        · simp at hx; subst hx
          exact ⟨⟨ld0, ld1⟩, ⟨sh0, by show sh ≤ ld; omega⟩, ⟨pr0, by show pr ≤ 3; omega⟩, ⟨lg0, lg1⟩, ha, ⟨gr0, by show gr ≤ 2; omega⟩⟩
      · exact ⟨z, kk, s', v, r, o, Lz, Lk, L', Lv, Lr, Lo, ⟨R.z, R.k, by simpa using l', R.v, R.r, R.o⟩, S2.dp2.b5⟩
    refine Z1G (n := 4) (by omega) (by omega) b l jf (by omega) (by omega) (by omega) Sh fun q ig hig q4 n1ig n2ig n3ig Si => ?_
    obtain ⟨yn, rfl⟩ := q4
    try simp +contextual (disch := omega)
    refine bK'_b (fun hm => ?_) (fun hm => ?_)
    · try (have G := Si.facts; simp only [factsL, factsP, tp, and_true, true_and] at G; simp +contextual (disch := omega) [ld_pb, G, Zb, w64, convI, wu64, ar_shl1, e1])
      refine Z1N (a := 1) (z := 2 ^ c.regions.toNat - 1) (by omega) (by omega) (by omega) b l ig (by omega) (by omega) (by omega) Si fun q ih2 hih2 q4 n1ih2 n2ih2 n3ih2 Sj => ?_
      obtain ⟨al, rfl, al0, al1⟩ := q4
      try simp +contextual (disch := omega)
      refine Sj.st1 rfl (by simp) (by simp) (by simp [oneI]) fun h11 Sk => ?_
      exact tail al ih2 h11 ⟨al0, al1⟩ (by omega) (by omega) Sk
    · exact tail _ ig hig ⟨by omega, by omega⟩ (by omega) (by omega) Si
end
end Go.Ideal
