/- Part of a proof: functions of the program over an ideal memory, and what they compute. No condition. -/
import Derived.Test.YtcbcdjfbcihgoaaLE6
set_option linter.unusedVariables false
set_option linter.unusedSimpArgs false
namespace Go.Ideal
open Go.Proofs
set_option maxRecDepth 100000
theorem Own.lits {P : Program} {h0 h : Heap} {rs : List PT} {KH : KT} {t e n m : Nat} {z cs : List IV} {es : List (List IV)} {ps : List (Nat × IV)} (S : Own h0 rs h) (ht : elO P t = some e) (hz : zrO P e = some z) (hs : szO P e = some n)
    (hc : (decide (m * n ≤ 16777216) && decide (0 < n) && decide (z.length = n)) = true) (hf : fillI (fun i => some (i * n, n)) (List.replicate m z).flatten ps = some cs) (he : chunks n m cs = es)
    (k : ∀ s L h', Sl n e s es L → Own h0 (L :: rs) h' → KH s h') : oA (ZA P t m ps h) h KH := by
  simp only [Bool.and_eq_true, decide_eq_true_eq] at hc
  have e1 : ZA P t m ps h = some (.sl h.length 0 m, h ++ [some ⟨n, e, es⟩]) := by
    unfold ZA
    simp only [ht, hz, hs]
    rw [if_pos ⟨hc.1.1, hc.1.2, hc.2⟩, hf, ← he]
    rfl
  rw [e1]
  simp only [oA_some]
  have hl : m = es.length := by rw [← he, chunks_len]
  refine k _ _ _ ?_ (S.push _)
  rw [hl]
  exact Sl.mk n e h.length es
def P4 (c : Config) : Prop := P2 c ∧ 1 ≤ c.versions.length
def P5 (c : Config) : Prop := P4 c ∧ (c.replicas.length = 1 ∨ c.replicas.length = 3)
def P6 (c : Config) : Prop := P5 c ∧ 1 ≤ c.observers.length
section
variable {h0 : Heap} {K : KT} {b b4 b2 : Nat} {l : List Int}
theorem cfg_versions (hl : (l.length : Int) ≤ 900000) {I : Int} (hI : I ≤ 1000000) (k : ∀ c i h, Made c → P4 c → Em3 c → 0 ≤ i → i ≤ I → Mk h0 b b4 b2 l i c h → Zr.j19 K (.ptr b2 0 0) (.ptr b 0 0) (.ptr b4 0 0) h) :
    ∀ (m : Nat) (c : Config) (i : Int) (h : Heap), c.versions.length + m ≤ 3 → Made c → P4 c → Em3 c → 0 ≤ i → i + 2 * m ≤ I → Mk h0 b b4 b2 l i c h →
      Zr.l4 K (.ptr b2 0 0) (.ptr b 0 0) (.ptr b4 0 0) (.n m) h := by
  intro m
  induction m with
  | zero =>
    intro c i h hm mk p em i0 i1 M
    refine Zr.l4_round ?_
    try simp +contextual (disch := omega) [Zr.b4g]
    exact k c i h mk p em i0 (by omega) M
  | succ m ih =>
    intro c i h hm mk p em i0 i1 M
    refine Zr.l4_round ?_
    obtain ⟨z, kk, t, v, r, o, Lz, Lk, Lt, Lv, Lr, Lo, R, S⟩ := M
    have pos : (0 : Int) < m + 1 := by omega
    try simp +contextual (disch := omega) [Zr.b4g, pos]
    try simp +contextual (disch := omega) [Zr.j17g]
    refine ZN (n := 2) (by omega) (by omega) b l i (by omega) (by omega) (by omega) S fun q ia hia q4 n1ia n2ia n3ia Sa => ?_
    obtain ⟨lo, rfl, lo0, lo1⟩ := q4
    try (have G := Sa.slot.facts; simp only [factsL, factsP, tp, and_true, true_and] at G; simp +contextual (disch := omega) [ld_pb, G, Zb, w64])
    refine ZN (n := 3) (by omega) (by omega) b l ia (by omega) (by omega) (by omega) Sa.slot.m1 fun q ib hib q4 n1ib n2ib n3ib Sb => ?_
    obtain ⟨hi, rfl, hi0, hi1⟩ := q4
    have hx : Zo PP ZD [(0, .n lo), (1, .n (lo + hi))] = some (Version.mk lo (lo + hi)).v := by
      simp only [Zo, Z4i, Z2a]; rfl
    try (have G := Sb.facts; simp only [factsL, factsP, tp, and_true, true_and] at G; simp +contextual (disch := omega) [ld_pb, G, Zb, w64, hx, new_version])
    have Sg := Sb.fi1 (some ⟨2, ZD, [(Version.mk lo (lo + hi)).c]⟩)
    refine Z5t R.v Sg.m7 (xs := [(Version.mk lo (lo + hi)).c]) (by simp [srcI, Sg.at1]) (by simp [ZT]) (by simp; omega) fun z' L' h2 l' S3 => ?_
    try simp +contextual (disch := omega)
    refine S3.st3 (new := [z']) (by rcases l' with ⟨rfl, _⟩ | ⟨x, rfl, _⟩ <;> rfl) (by simp) (by simp) (by simp [l'.one.2]) fun h3 S4 => ?_
    try simp +contextual (disch := omega) [Zr.j18g, w64]
    refine ih { c with versions := c.versions ++ [⟨lo, lo + hi⟩] } ib h3 (by simp; omega) ?_ ⟨p.1, by simp⟩ em (by omega) (by omega) ?_
    · refine { mk with versions := ?_, version0 := ?_, vl := by simp; omega }
      · intro x hx
        rcases List.mem_append.1 hx with hx | hx
        · exact mk.versions x hx
        · simp at hx; subst hx; simp; omega
      · intro x hx
        rcases get_snoc hx with hx | ⟨e, rfl⟩
        · exact mk.version0 x hx
        · have := p.2; omega
    · exact ⟨z, kk, t, z', r, o, Lz, Lk, Lt, L', Lr, Lo, ⟨R.z, R.k, R.t, by simpa using l', R.r, R.o⟩, S4.dp2.b6⟩
theorem cfg_replicas (hl : (l.length : Int) ≤ 900000) {I : Int} (hI : I ≤ 1000000) {T : Nat} (hT : T = 1 ∨ T = 3) (k : ∀ c i h, Made c → P5 c → Em4 c → 0 ≤ i → i ≤ I → Mk h0 b b4 b2 l i c h → Zr.j22 K (.ptr b2 0 0) (.ptr b 0 0) (.ptr b4 0 0) h) :
    ∀ (m : Nat) (c : Config) (i : Int) (h : Heap), c.replicas.length + m = T → Made c → P4 c → Em4 c → 0 ≤ i → i + m ≤ I → Mk h0 b b4 b2 l i c h →
      Zr.l5 K (.ptr b2 0 0) (.ptr b 0 0) (.ptr b4 0 0) (.n m) h := by
  intro m
  induction m with
  | zero =>
    intro c i h hm mk p em i0 i1 M
    refine Zr.l5_round ?_
    try simp +contextual (disch := omega) [Zr.b5g]
    exact k c i h mk ⟨p, by omega⟩ em i0 (by omega) M
  | succ m ih =>
    intro c i h hm mk p em i0 i1 M
    refine Zr.l5_round ?_
    obtain ⟨z, kk, t, v, r, o, Lz, Lk, Lt, Lv, Lr, Lo, R, S⟩ := M
    have pos : (0 : Int) < m + 1 := by omega
    have lz := R.z.len Z3e
    have reg := mk.regions
    have mzl := mk.zl
    have pz : c.regions ≤ c.zones.length := p.1.1
    try simp +contextual (disch := omega) [Zr.b5g, pos]
    try (have G := S.slot.facts; simp only [factsL, factsP, tp, and_true, true_and] at G; simp +contextual (disch := omega) [ld_pb, G, Zb, Zr.j20g, lz])
    refine ZN (n := (c.zones.length : Int)) (by omega) (by omega) b l i (by omega) (by omega) (by omega) S.slot.m1 fun q ib hib q4 n1ib n2ib n3ib Sb => ?_
    obtain ⟨x, rfl, x0, x1⟩ := q4
    try (have G := Sb.facts; simp only [factsL, factsP, tp, and_true, true_and] at G; simp +contextual (disch := omega) [ld_pb, G, Zb, new_int])
    have Sg := Sb.fi1 (some ⟨1, Z0, [[.n x]]⟩)
    refine Z4R R.r Sg.m8 (xs := [[.n x]]) (by simp [srcI, Sg.at1]) (by simp [ZT, oneI]) (by simp; omega) fun z' L' h2 l' S3 => ?_
    try simp +contextual (disch := omega)
    refine S3.st3 (new := [z']) (by rcases l' with ⟨rfl, _⟩ | ⟨x, rfl, _⟩ <;> rfl) (by simp) (by simp) (by simp [l'.one.2]) fun h3 S4 => ?_
    try simp +contextual (disch := omega) [Zr.j21g, w64]
    refine ih { c with replicas := c.replicas ++ [x] } ib h3 (by simp; omega) ?_ p em (by omega) (by omega) ?_
    · refine { mk with replicas := ?_, rl := by simp; omega }
      intro y hx
      rcases List.mem_append.1 hx with hx | hx
      · exact mk.replicas y hx
      · simp at hx; subst hx; exact ⟨x0, x1⟩
    · exact ⟨z, kk, t, v, z', o, Lz, Lk, Lt, Lv, L', Lo, ⟨R.z, R.k, R.t, R.v, by simpa [ints_append] using l', R.o⟩, S4.dp2.b7⟩
theorem cfg_observers (hl : (l.length : Int) ≤ 900000) {I : Int} (hI : I ≤ 1000000) (k : ∀ c i h, Made c → P6 c → 0 ≤ i → i ≤ I → Mk h0 b b4 b2 l i c h → Zr.j25 K (.ptr b2 0 0) (.ptr b4 0 0) h) :
    ∀ (m : Nat) (c : Config) (i : Int) (h : Heap), 1 ≤ c.observers.length + m → c.observers.length + m ≤ 4 → Made c → P5 c → 0 ≤ i → i + m ≤ I → Mk h0 b b4 b2 l i c h →
      Zr.l6 K (.ptr b2 0 0) (.ptr b 0 0) (.ptr b4 0 0) (.n m) h := by
  intro m
  induction m with
  | zero =>
    intro c i h hm hm4 mk p i0 i1 M
    refine Zr.l6_round ?_
    try simp +contextual (disch := omega) [Zr.b6g]
    exact k c i h mk ⟨p, by omega⟩ i0 (by omega) M
  | succ m ih =>
    intro c i h hm hm4 mk p i0 i1 M
    refine Zr.l6_round ?_
    obtain ⟨z, kk, t, v, r, o, Lz, Lk, Lt, Lv, Lr, Lo, R, S⟩ := M
    have pos : (0 : Int) < m + 1 := by omega
    have lz := R.z.len Z3e
    have reg := mk.regions
    have mzl := mk.zl
    have pz : c.regions ≤ c.zones.length := p.1.1.1
    try simp +contextual (disch := omega) [Zr.b6g, pos]
    try (have G := S.slot.facts; simp only [factsL, factsP, tp, and_true, true_and] at G; simp +contextual (disch := omega) [ld_pb, G, Zb, Zr.j23g, lz])
    refine ZN (n := (c.zones.length : Int)) (by omega) (by omega) b l i (by omega) (by omega) (by omega) S.slot.m1 fun q ib hib q4 n1ib n2ib n3ib Sb => ?_
    obtain ⟨x, rfl, x0, x1⟩ := q4
    try (have G := Sb.facts; simp only [factsL, factsP, tp, and_true, true_and] at G; simp +contextual (disch := omega) [ld_pb, G, Zb, new_int])
    have Sg := Sb.fi1 (some ⟨1, Z0, [[.n x]]⟩)
    refine Z4R R.o Sg.m9 (xs := [[.n x]]) (by simp [srcI, Sg.at1]) (by simp [ZT, oneI]) (by simp; omega) fun z' L' h2 l' S3 => ?_
    try simp +contextual (disch := omega)
    refine S3.st3 (new := [z']) (by rcases l' with ⟨rfl, _⟩ | ⟨x, rfl, _⟩ <;> rfl) (by simp) (by simp) (by simp [l'.one.2]) fun h3 S4 => ?_
    try simp +contextual (disch := omega) [Zr.j24g, w64]
    refine ih { c with observers := c.observers ++ [x] } ib h3 (by simp; omega) (by simp; omega) ?_ p (by omega) (by omega) ?_
    · refine { mk with observers := ?_, ol := by simp; omega }
      intro y hx
      rcases List.mem_append.1 hx with hx | hx
      · exact mk.observers y hx
      · simp at hx; subst hx; exact ⟨x0, x1⟩
    · exact ⟨z, kk, t, v, r, z', Lz, Lk, Lt, Lv, Lr, L', ⟨R.z, R.k, R.t, R.v, R.r, by simpa [ints_append] using l'⟩, S4.dp2.b8⟩
end
theorem Z6f {l : List Int} (hl : (l.length : Int) ≤ 900000) : FunQ PP Z3m [.vs 1 (ints l)] (fun r => ∃ c, r = c.v ∧ Made c ∧ P6 c) := by
  refine FunQ.intro fun h0 => Zr.call ?_
  refine (Own.start h0).alloc Z1t fun b2 h1 S1 => ?_
  try simp +contextual (disch := omega) [Zr.j1g]
  refine Z5d S1 fun b h2 S2 => ?_
  try simp +contextual (disch := omega) [Zr.j2g]
  refine ZN (n := 5) (by omega) (by omega) b l 0 (by omega) (by omega) (by omega) S2 fun q ia hia q4 n1ia n2ia n3ia Sa => ?_
  obtain ⟨rg, rfl, rg0, rg1⟩ := q4
  try simp +contextual (disch := omega) [w64]
  refine (Z2K (by omega) (by omega) (by omega)).call ?_
  try simp +contextual (disch := omega)
  have r0 := Int.emod_nonneg (rg + 1) (show (3 : Int) ≠ 0 by omega)
  have r1 := Int.emod_lt_of_pos (rg + 1) (show (0 : Int) < 3 by omega)
  refine Z1N (a := 1) (z := 3) (by omega) (by omega) (by omega) b l ia (by omega) (by omega) (by omega) Sa fun q ib hib q4 n1ib n2ib n3ib Sb => ?_
  obtain ⟨bl, rfl, bl0, bl1⟩ := q4
  refine Z1N (a := 2) (z := 12) (by omega) (by omega) (by omega) b l ib (by omega) (by omega) (by omega) Sb fun q ic hic q4 n1ic n2ic n3ic Sc => ?_
  obtain ⟨le, rfl, le0, le1⟩ := q4
  refine ZN (n := 9) (by omega) (by omega) b l ic (by omega) (by omega) (by omega) Sc fun q id hid q4 n1id n2id n3id Sd => ?_
  obtain ⟨ba, rfl, ba0, ba1⟩ := q4
  let c0 : Config := ⟨1 + (rg + 1) % 3, [], [], [], [], [], [], bl, le, ba⟩
  have hx : Zo PP Z6 [(0, .n (1 + (rg + 1) % 3)), (7, .n bl), (8, .n le), (9, .n ba)] = some (.agg (ccv c0 .snil .snil .snil .snil .snil .snil)) := by
    simp only [Zo, Z4V, Z1t]; rfl
  try simp +contextual (disch := omega) [hx]
  refine Sd.alloc Z1t fun b4 h4 S4 => ?_
  try simp +contextual (disch := omega)
  refine S4.pu0 (new := ccv c0 .snil .snil .snil .snil .snil .snil) rfl (by simp) rfl rfl fun h5 S5 => ?_
  try simp +contextual (disch := omega) [Zr.j3g]
  have mk0 : Made c0 := ⟨by simp [c0]; omega, by simp [c0], by simp [c0], by simp [c0], by simp [c0], by simp [c0], by simp [c0], by simp [c0], by simp [c0], by simp [c0], by simp [c0], by simp [c0], by simp [c0], by simp [c0], by simp [c0]; omega, by simp [c0]; omega, by simp [c0]; omega⟩
  have S5' : Own h0 (tp b l id :: [(b4, some ⟨10, Z6, [ccv c0 .snil .snil .snil .snil .snil .snil]⟩)] :: [(b2, some ⟨10, Z6, [zeroCfg]⟩)] :: [] :: [] :: [] :: [] :: [] :: [] :: []) h5 := S5.m1.perm (by simp)
  refine cfg_zones hl (I := 20) (by omega) ?_ 7 c0 id h5 rfl mk0 ⟨rfl, rfl, rfl, rfl, rfl⟩ (by omega) (by omega) ⟨.snil, .snil, .snil, .snil, .snil, .snil, [], [], [], [], [], [], ⟨Sl.nil _ _, Sl.nil _ _, Sl.nil _ _, Sl.nil _ _, Sl.nil _ _, Sl.nil _ _⟩, S5'⟩
  intro c i h mk p1 em i0 i1 M
  try simp +contextual (disch := omega) [Zr.j6g]
  have := cfg_cells (K := Ret (fun r => ∃ c : Config, r = c.v ∧ Made c ∧ P6 c) h0) (b2 := b2) hl (I := 40) (by omega) ?_ 8 c i h (by rw [em.1]; rfl) mk p1 em.2 i0 (by omega) M
  · rw [em.1] at this; simpa using this
  clear M i0 i1 em p1 mk i h c
  intro c i h mk p2 em i0 i1 M
  obtain ⟨z, kk, t, v, r, o, Lz, Lk, Lt, Lv, Lr, Lo, R, S⟩ := M
  try simp +contextual (disch := omega) [Zr.j9g]
  refine ZN (n := 6) (by omega) (by omega) b l i (by omega) (by omega) (by omega) S fun q ie hie q4 n1ie n2ie n3ie Se => ?_
  obtain ⟨tn, rfl, tn0, tn1⟩ := q4
  try simp +contextual (disch := omega)
  obtain ⟨tn, rfl⟩ := Int.eq_ofNat_of_zero_le tn0
  refine cfg_tenants hl (I := 90) (by omega) ?_ tn c ie hie (by rw [em.1]; simp; omega) mk p2 em.2 (by omega) (by omega) ⟨z, kk, t, v, r, o, Lz, Lk, Lt, Lv, Lr, Lo, R, Se⟩
  clear R S Se i0 i1 em p2 mk i h c tn0 tn1 n1ie n2ie n3ie
  intro c i h mk p2 em i0 i1 M
  obtain ⟨z, kk, t, v, r, o, Lz, Lk, Lt, Lv, Lr, Lo, R, S⟩ := M
  try simp +contextual (disch := omega) [Zr.j15g]
  refine ZN (n := 3) (by omega) (by omega) b l i (by omega) (by omega) (by omega) S fun q jf hjf q4 n1jf n2jf n3jf Sf => ?_
  obtain ⟨hi, rfl, hi0, hi1⟩ := q4
  have hx : Zo PP ZD [(1, .n hi)] = some (Version.mk 0 hi).v := by
    simp only [Zo, Z4i, Z2a]; rfl
  try simp +contextual (disch := omega) [hx]
  refine Sf.lits (n := 2) (e := ZD) (es := [(Version.mk 0 hi).c]) (cs := (Version.mk 0 hi).c) rfl Z2a Z4h rfl rfl rfl fun s L h6 l6 Sg => ?_
  try simp +contextual (disch := omega)
  refine Sg.st2 (new := [s]) (by rcases l6 with ⟨rfl, _⟩ | ⟨x, rfl, _⟩ <;> rfl) (by simp) (by simp) (by simp [l6.one.2]) fun h7 Sh => ?_
  try simp +contextual (disch := omega) [Zr.j16g]
  refine ZN (n := 3) (by omega) (by omega) b l jf (by omega) (by omega) (by omega) Sh.m1 fun q jg hjg q4 n1jg n2jg n3jg Si => ?_
  obtain ⟨vn, rfl, vn0, vn1⟩ := q4
  try simp +contextual (disch := omega)
  obtain ⟨vn, rfl⟩ := Int.eq_ofNat_of_zero_le vn0
  refine cfg_versions (h0 := h0) (K := Ret (fun r => ∃ c : Config, r = c.v ∧ Made c ∧ P6 c) h0) (b2 := b2) hl (I := 100) (by omega) ?_ vn { c with versions := [⟨0, hi⟩] } jg hjg (by simp; omega) { mk with versions := fun x hx => by simp at hx; subst hx; simp; omega, version0 := by simp, vl := by simp } ⟨p2, by simp⟩ em.2 (by omega) (by omega) ⟨z, kk, t, s, r, o, Lz, Lk, Lt, L, Lr, Lo, ⟨R.z, R.k, R.t, by simpa using l6, R.r, R.o⟩, Si.m1.b6.dp7⟩
  clear Si Sh Sg l6 Sf R S i0 i1 em p2 mk i h c vn0 vn1 n1jf n2jf n3jf n1jg n2jg n3jg hx
  intro c i h mk p em i0 i1 M
  obtain ⟨z, kk, t, v, r, o, Lz, Lk, Lt, Lv, Lr, Lo, R, S⟩ := M
  try simp +contextual (disch := omega) [Zr.j19g]
  refine ZN (n := 2) (by omega) (by omega) b l i (by omega) (by omega) (by omega) S fun q jf hjf q4 n1jf n2jf n3jf Sf => ?_
  obtain ⟨rn, rfl, rn0, rn1⟩ := q4
  try simp +contextual (disch := omega) [w64]
  obtain ⟨rn, rfl⟩ := Int.eq_ofNat_of_zero_le rn0
  have := cfg_replicas (K := Ret (fun r => ∃ c : Config, r = c.v ∧ Made c ∧ P6 c) h0) (b2 := b2) hl (I := 110) (by omega) (T := 2 * rn + 1) (by omega) ?_ (2 * rn + 1) c jf hjf (by rw [em.1]; simp) mk p em.2 (by omega) (by omega) ⟨z, kk, t, v, r, o, Lz, Lk, Lt, Lv, Lr, Lo, R, Sf⟩
  · simpa using this
  clear Sf R S i0 i1 em p mk i h c rn0 rn1 n1jf n2jf n3jf
  intro c i h mk p em i0 i1 M
  obtain ⟨z, kk, t, v, r, o, Lz, Lk, Lt, Lv, Lr, Lo, R, S⟩ := M
  try simp +contextual (disch := omega) [Zr.j22g]
  refine Z1N (a := 1) (z := 4) (by omega) (by omega) (by omega) b l i (by omega) (by omega) (by omega) S fun q jf hjf q4 n1jf n2jf n3jf Sf => ?_
  obtain ⟨on, rfl, on0, on1⟩ := q4
  try simp +contextual (disch := omega)
  obtain ⟨on, rfl⟩ := Int.eq_ofNat_of_zero_le (show 0 ≤ on by omega)
  replace em : c.observers = [] := em
  refine cfg_observers hl (I := 120) (by omega) ?_ on c jf hjf (by rw [em]; simp; omega) (by rw [em]; simp; omega) mk p (by omega) (by omega) ⟨z, kk, t, v, r, o, Lz, Lk, Lt, Lv, Lr, Lo, R, Sf⟩
  clear Sf R S i0 i1 em p mk i h c on0 on1 n1jf n2jf n3jf
  intro c i h mk p i0 i1 M
  obtain ⟨z, kk, t, v, r, o, Lz, Lk, Lt, Lv, Lr, Lo, R, S⟩ := M
  try (have G := S.facts; simp only [factsL, factsP, tp, and_true, true_and] at G; simp +contextual (disch := omega) [ld_pb, G, Zb, Zr.j25])
  refine S.pu2 (new := ccv c z kk t v r o) rfl (by simp) rfl (ccv_ones c R) fun h8 S8 => ?_
  try (have G := S8.facts; simp only [factsL, factsP, tp, and_true, true_and] at G; simp +contextual (disch := omega) [ld_pb, G, Zb, ])
  exact ⟨c.v, S8.pre, R.fz S8.dp0.dp0.dp0, by simp [Bel], c, rfl, mk, p⟩
end Go.Ideal
namespace Go.Ideal
open Go.Proofs
set_option maxRecDepth 100000
theorem Made.cfg {c : Config} (m : Made c) (p : P6 c) : CfgV c := by
  have p1 : c.regions ≤ c.zones.length := p.1.1.1.1
  have p2 : c.zones.length ≤ c.cells.length := p.1.1.1.2
  have p4 : 1 ≤ c.versions.length := p.1.1.2
  have := m.regions; have := m.cl; have := m.zl; have := m.tl; have := m.vl; have := m.lease; have := m.bake
  refine ⟨⟨by omega, by omega, by omega, by omega, ⟨?_, ?_⟩, by omega, by omega⟩, by omega, by omega, by omega, by omega⟩
  · intro x hx
    obtain ⟨i, hi⟩ := List.getElem?_of_mem hx
    have e := (m.cells i x hi).1
    have hz : 0 < (c.zones.length : Int) := by omega
    have q0 := Int.tmod_nonneg (a := (i : Int)) (c.zones.length : Int) (by omega)
    have q1 := Int.tmod_lt_of_pos (i : Int) hz
    rw [e]; exact ⟨q0, q1⟩
  · intro z hz
    obtain ⟨i, hi⟩ := List.getElem?_of_mem hz
    have e := m.zones i z hi
    have q0 := Int.tmod_nonneg (a := (i : Int)) c.regions (by omega)
    have q1 := Int.tmod_lt_of_pos (i : Int) (show 0 < c.regions by omega)
    rw [e]; omega
theorem Inv.fits {c : Config} {s : State} (h : Inv c s) : Fits c s := ⟨h.tl, h.cl, fun x hx => ⟨(h.ten x hx).home, (h.ten x hx).standby⟩⟩
@[simp] theorem TState.st_self (x y : TState) : splice 0 x.c y.c = x.c := Zc rfl
@[simp] theorem CState.st_self (x y : CState) : splice 0 x.c y.c = x.c := Zc rfl
theorem mem_set {α : Type} {l : List α} {i : Nat} {x y : α} (h : y ∈ l.set i x) : y = x ∨ y ∈ l := by
  rcases List.mem_or_eq_of_mem_set h with h | h
  · exact .inr h
  · exact .inl h
theorem Fits.setT {c : Config} {s : State} (f : Fits c s) (i : Nat) (x : TState) (hx : (-1 ≤ x.home ∧ x.home < c.cells.length) ∧ (-1 ≤ x.standby ∧ x.standby < c.cells.length)) : Fits c { s with tenants := s.tenants.set i x } :=
  ⟨by simpa using f.tn, f.cl, fun y hy => by
    rcases mem_set hy with rfl | h
    · exact hx
    · exact f.at_ y h⟩
def btwV (v n : Int) : Int := -1 + v % (n + 1)
theorem btw {v n : Int} (hn : 0 ≤ n) : -1 ≤ btwV v n ∧ btwV v n < n := by
  have h3 := Int.emod_nonneg v (by omega : n + 1 ≠ 0)
  have h4 := Int.emod_lt_of_pos v (by omega : 0 < n + 1)
  unfold btwV
  omega
theorem ok_btw {v n : Int} (hn : 0 ≤ n) (h : n ≤ 1000) : Fun PP Z1v [.n v, .n (-1), .n (n - 1)] (.n (btwV v n)) := by
  have := Z2K (v := v) (low := -1) (high := n - 1) (by omega) (by omega) (by omega)
  have e : -1 + v % (n - 1 - -1 + 1) = btwV v n := by unfold btwV; congr 2; omega
  rw [e] at this; exact this
structure MadeS (wild : Bool) (c : Config) (s : State) : Prop where
  made : Made c
  p : P6 c
  fits : Fits c s
  ten : wild = false → ∃ es, s = (foldS c es (newState c) 0).1
section
variable {h0 : Heap} {b8 b9 b10 b11 : Nat} {t : List TState} {x : List CState} {wild : Bool} {c : Config}
abbrev MadeK (wild : Bool) (h0 : Heap) : KT := Ret (fun r => ∃ c s, r = .tup [c.v, s.v] ∧ MadeS wild c s) h0
def MadeM (h0 : Heap) (b8 b9 b10 b11 : Nat) (c : Config) (s : State) (h : Heap) : Prop := ∃ a z L1 L2, Rep s (SV s a z) L1 L2 ∧
  Own h0 (L1 :: L2 :: [(b11, some ⟨8, Z3, [svc s a z]⟩)] :: [(b10, some ⟨10, Z6, [c.c]⟩)] :: [(b9, some ⟨8, Z3, [svc emptyS .snil .snil]⟩)] :: [(b8, some ⟨10, Z6, [zeroCfg]⟩)] :: []) h
theorem made_end {s : State} (ms : MadeS wild c s) {h : Heap} (M : MadeM h0 b8 b9 b10 b11 c s h) : ZO.j10 (MadeK wild h0) (.ptr b8 0 0) (.ptr b9 0 0) (.ptr b10 0 0) (.ptr b11 0 0) h := by
  obtain ⟨a, z, L1, L2, r, S⟩ := M
  obtain ⟨a', z', e, l1, l2⟩ := r.ex
  have e1 : a = a' ∧ z = z' := by simp [svc] at e; exact e
  obtain ⟨rfl, rfl⟩ := e1
  try (have G := S.facts; simp only [factsL, factsP, tp, List.cons_append, List.nil_append, and_true, true_and] at G; simp +contextual (disch := omega) [-getElem?_pos, ld_pb, ix_sb, ix_vs, G, Zb, ZO.j10])
  refine S.pu5 (new := c.c) rfl (by simp) rfl (by simp) fun h1 S1 => ?_
  try (have G := S1.facts; simp only [factsL, factsP, tp, List.cons_append, List.nil_append, and_true, true_and] at G; simp +contextual (disch := omega) [-getElem?_pos, ld_pb, ix_sb, ix_vs, G, Zb, ])
  refine S1.pu4 (new := svc s a z) rfl (by simp) rfl (svc_ones s a z l1.one.2 l2.one.2) fun h2 S2 => ?_
  try (have G := S2.facts; simp only [factsL, factsP, tp, List.cons_append, List.nil_append, and_true, true_and] at G; simp +contextual (disch := omega) [-getElem?_pos, ld_pb, ix_sb, ix_vs, G, Zb, ])
  refine ⟨.tup [c.v, s.v], S2.pre, ?_, by simp [Bel, Bels], c, s, rfl, ms⟩
  simp only [Fz]
  exact ⟨_, rfl, Fzs.cons (Fz.refl _ _ _ (by simp [Bel])) (Fzs.cons (r.fz S2) (Fzs.nil _ _))⟩
theorem made_l2 (ht : x.length ≤ 20) (hc : c.cells.length ≤ 1000) : ∀ (m i : Nat) (s : State) (h : Heap), i + m = c.cells.length → MadeS wild c s → MadeM h0 b8 b9 b10 b11 c s h →
    ZO.l2 (MadeK wild h0) (.vs 4 (x.map CState.c)) (.bool wild) (.ptr b8 0 0) (.ptr b9 0 0) (.ptr b10 0 0) (.ptr b11 0 0) (.n c.cells.length) (.n i) h := by
  intro m
  induction m with
  | zero =>
    intro i s h hm ms M
    refine ZO.l2_round ?_
    have : (c.cells.length : Int) ≤ i := by omega
    have hlt : ¬ (i : Int) < c.cells.length := by omega
    try simp +contextual (disch := omega) [ZO.b2g, hlt]
    exact made_end ms M
  | succ m ih =>
    intro i s h hm ms M
    refine ZO.l2_round ?_
    have hlt : i < c.cells.length := by omega
    have fit := ms.fits
    by_cases hw : ((decide (i < x.length)) && wild) = true
    · simp only [Bool.and_eq_true, decide_eq_true_eq] at hw
      obtain ⟨hw1, rfl⟩ := hw
      obtain ⟨y, hy⟩ : ∃ y, x[i]? = some y := ⟨_, List.getElem?_eq_getElem hw1⟩
      obtain ⟨u, hu⟩ : ∃ u, s.cells[i]? = some u := ⟨_, List.getElem?_eq_getElem (by rw [fit.cl]; exact hlt)⟩
      try simp +contextual (disch := omega) [ZO.b2g, hlt, hw1]
      obtain ⟨a, z, L1, L2, r, S⟩ := M
      obtain ⟨a', z', e, l1, l2⟩ := r.ex
      have e1 : a = a' ∧ z = z' := by simp [svc] at e; exact e
      obtain ⟨rfl, rfl⟩ := e1
      obtain ⟨bt, rfl, rfl, _⟩ := l2.at_ (c := u.c) (i := i) (by simp [hu])
      try (have G := S.facts; simp only [factsL, factsP, tp, List.cons_append, List.nil_append, and_true, true_and] at G; simp +contextual (disch := omega) [-getElem?_pos, ld_pb, ix_sb, ix_vs, G, Zb, ZO.j8g, hy, hlt, fit.cl])
      refine S.m1.seM (y' := y) hu rfl (by simp) (by simp) (by simp) (by simp) fun h1 S1 => ?_
      try (have G := S1.facts; simp only [factsL, factsP, tp, List.cons_append, List.nil_append, and_true, true_and] at G; simp +contextual (disch := omega) [-getElem?_pos, ld_pb, ix_sb, ix_vs, G, Zb, hy])
      refine (Z2K (by omega) (by omega) (by omega)).call ?_
      try (have G := S1.facts; simp only [factsL, factsP, tp, List.cons_append, List.nil_append, and_true, true_and] at G; simp +contextual (disch := omega) [-getElem?_pos, ld_pb, ix_sb, ix_vs, G, Zb, hlt, fit.cl])
      refine S1.seM (y := y) (y' := { y with mode := 1 + y.mode % 3 }) (by rw [List.getElem?_set_self]; rw [fit.cl]; exact hlt) rfl (by simp) (by simp) (by simp [oneI]) rfl fun h2 S2 => ?_
      try simp +contextual (disch := omega) [ZO.j9g, w64]
      rw [set_set] at S2
      refine ih (i + 1) { s with cells := s.cells.set i { y with mode := 1 + y.mode % 3 } } h2 (by omega) ⟨ms.made, ms.p, ⟨fit.tn, by simpa using fit.cl, fit.at_⟩, by simp⟩ ⟨a, .sl bt 0 s.cells.length, L1, _, ⟨_, _, rfl, l1, ?_⟩, by simpa [svc] using S2.swap⟩
      have := Sl.mk 4 Zj bt ((s.cells.set i { y with mode := 1 + y.mode % 3 }).map CState.c)
      simpa using this
    · have : ((decide (i < x.length)) && wild) = false := by simpa using hw
      try simp +contextual (disch := omega) [ZO.b2g, hlt, this]
      exact made_end ms M
set_option maxHeartbeats 1000000 in
theorem made_l1 (ht : t.length ≤ 10) (hx : x.length ≤ 20) (hc : 1 ≤ c.cells.length ∧ c.cells.length ≤ 1000) (htn : c.tenants.length ≤ 1000) : ∀ (m i : Nat) (s : State) (h : Heap), i + m = c.tenants.length → MadeS wild c s → MadeM h0 b8 b9 b10 b11 c s h →
    ZO.l1 (MadeK wild h0) (.vs 12 (t.map TState.c)) (.vs 4 (x.map CState.c)) (.bool wild) (.ptr b8 0 0) (.ptr b9 0 0) (.ptr b10 0 0) (.ptr b11 0 0) (.n c.cells.length) (.n i) h := by
  intro m
  have fin : ∀ (i : Nat) (s : State) (h : Heap), MadeS wild c s → MadeM h0 b8 b9 b10 b11 c s h → ZO.j7 (MadeK wild h0) (.vs 4 (x.map CState.c)) (.bool wild) (.ptr b8 0 0) (.ptr b9 0 0) (.ptr b10 0 0) (.ptr b11 0 0) (.n c.cells.length) h := by
    intro i s h ms M
    try simp +contextual (disch := omega) [ZO.j7g]
    exact made_l2 hx hc.2 c.cells.length 0 s h (by omega) ms M
  induction m with
  | zero =>
    intro i s h hm ms M
    refine ZO.l1_round ?_
    have := ms.fits.tn
    have hlt : ¬ (i : Int) < c.tenants.length := by omega
    have M0 := M
    obtain ⟨a, z, L1, L2, r, S⟩ := M
    obtain ⟨a', z', e, l1, l2⟩ := r.ex
    have e1 : a = a' ∧ z = z' := by simp [svc] at e; exact e
    obtain ⟨rfl, rfl⟩ := e1
    try (have G := S.facts; simp only [factsL, factsP, tp, List.cons_append, List.nil_append, and_true, true_and] at G; simp +contextual (disch := omega) [-getElem?_pos, ld_pb, ix_sb, ix_vs, G, Zb, ZO.b1g, hlt, l1.len Z29, this])
    exact fin i s h ms M0
  | succ m ih =>
    intro i s h hm ms M
    refine ZO.l1_round ?_
    have hlt : i < c.tenants.length := by omega
    have fit := ms.fits
    have M0 := M
    obtain ⟨a, z, L1, L2, r, S⟩ := M
    obtain ⟨a', z', e, l1, l2⟩ := r.ex
    have e1 : a = a' ∧ z = z' := by simp [svc] at e; exact e
    obtain ⟨rfl, rfl⟩ := e1
    by_cases hw : ((decide (i < t.length)) && wild) = true
    · simp only [Bool.and_eq_true, decide_eq_true_eq] at hw
      obtain ⟨hw1, rfl⟩ := hw
      obtain ⟨y, hy⟩ : ∃ y, t[i]? = some y := ⟨_, List.getElem?_eq_getElem hw1⟩
      obtain ⟨u, hu⟩ : ∃ u, s.tenants[i]? = some u := ⟨_, List.getElem?_eq_getElem (by rw [fit.tn]; exact hlt)⟩
      try (have G := S.facts; simp only [factsL, factsP, tp, List.cons_append, List.nil_append, and_true, true_and] at G; simp +contextual (disch := omega) [-getElem?_pos, ld_pb, ix_sb, ix_vs, G, Zb, ZO.b1g, hlt, hw1, l1.len Z29, fit.tn])
      obtain ⟨bt, rfl, rfl, _⟩ := l1.at_ (c := u.c) (i := i) (by simp [hu])
      have at_ : ∀ y : TState, (s.tenants.set i y)[i]? = some y := fun y => by rw [List.getElem?_set_self]; rw [fit.tn]; exact hlt
      try (have G := S.facts; simp only [factsL, factsP, tp, List.cons_append, List.nil_append, and_true, true_and] at G; simp +contextual (disch := omega) [-getElem?_pos, ld_pb, ix_sb, ix_vs, G, Zb, ZO.j5g, hy, hlt, fit.tn])
      refine S.seM (y' := y) hu rfl (by simp) (by simp) (by simp) (by simp) fun h1 S1 => ?_
      try (have G := S1.facts; simp only [factsL, factsP, tp, List.cons_append, List.nil_append, and_true, true_and] at G; simp +contextual (disch := omega) [-getElem?_pos, ld_pb, ix_sb, ix_vs, G, Zb, hy, w64])
      refine (ok_btw (by omega) (by omega)).call ?_
      try (have G := S1.facts; simp only [factsL, factsP, tp, List.cons_append, List.nil_append, and_true, true_and] at G; simp +contextual (disch := omega) [-getElem?_pos, ld_pb, ix_sb, ix_vs, G, Zb, hy])
      refine (ok_btw (by omega) (by omega)).call ?_
      have b1 := btw (v := y.home) (n := c.cells.length) (by omega)
      have b2 := btw (v := y.standby) (n := c.cells.length) (by omega)
      generalize btwV y.home c.cells.length = v1 at *
      generalize btwV y.standby c.cells.length = v2 at *
      try (have G := S1.facts; simp only [factsL, factsP, tp, List.cons_append, List.nil_append, and_true, true_and] at G; simp +contextual (disch := omega) [-getElem?_pos, ld_pb, ix_sb, ix_vs, G, Zb, hlt, fit.tn])
      refine S1.seM (y := y) (y' := { y with home := v1 }) (at_ _) rfl (by simp) (by simp) (by simp [oneI]) rfl fun h2 S2 => ?_
      rw [set_set] at S2
      try (have G := S2.facts; simp only [factsL, factsP, tp, List.cons_append, List.nil_append, and_true, true_and] at G; simp +contextual (disch := omega) [-getElem?_pos, ld_pb, ix_sb, ix_vs, G, Zb, hlt, fit.tn])
      refine S2.seM (y := { y with home := v1 }) (y' := { y with home := v1, standby := v2 }) (at_ _) rfl (by simp) (by simp) (by simp [oneI]) rfl fun h3 S3 => ?_
      rw [set_set] at S3
      try (have G := S3.facts; simp only [factsL, factsP, tp, List.cons_append, List.nil_append, and_true, true_and] at G; simp +contextual (disch := omega) [-getElem?_pos, ld_pb, ix_sb, ix_vs, G, Zb, hy, w64])
      refine (ok_btw (by omega) (by omega)).call ?_
      try (have G := S3.facts; simp only [factsL, factsP, tp, List.cons_append, List.nil_append, and_true, true_and] at G; simp +contextual (disch := omega) [-getElem?_pos, ld_pb, ix_sb, ix_vs, G, Zb, hy])
      refine (ok_btw (by omega) (by omega)).call ?_
      generalize btwV y.next c.cells.length = v3
      generalize btwV y.target c.cells.length = v4
      try (have G := S3.facts; simp only [factsL, factsP, tp, List.cons_append, List.nil_append, and_true, true_and] at G; simp +contextual (disch := omega) [-getElem?_pos, ld_pb, ix_sb, ix_vs, G, Zb, hlt, fit.tn])
      refine S3.seM (y := { y with home := v1, standby := v2 }) (y' := { y with home := v1, standby := v2, next := v3 }) (at_ _) rfl (by simp) (by simp) (by simp [oneI]) rfl fun h4 S4 => ?_
      rw [set_set] at S4
      try (have G := S4.facts; simp only [factsL, factsP, tp, List.cons_append, List.nil_append, and_true, true_and] at G; simp +contextual (disch := omega) [-getElem?_pos, ld_pb, ix_sb, ix_vs, G, Zb, hlt, fit.tn])
      refine S4.seM (y := { y with home := v1, standby := v2, next := v3 }) (y' := { y with home := v1, standby := v2, next := v3, target := v4 }) (at_ _) rfl (by simp) (by simp) (by simp [oneI]) rfl fun h5 S5 => ?_
      rw [set_set] at S5
      try (have G := S5.facts; simp only [factsL, factsP, tp, List.cons_append, List.nil_append, and_true, true_and] at G; simp +contextual (disch := omega) [-getElem?_pos, ld_pb, ix_sb, ix_vs, G, Zb, hy, w64])
      refine (ok_btw (by omega) (by omega)).call ?_
      generalize btwV y.window.cell c.cells.length = v5
      try (have G := S5.facts; simp only [factsL, factsP, tp, List.cons_append, List.nil_append, and_true, true_and] at G; simp +contextual (disch := omega) [-getElem?_pos, ld_pb, ix_sb, ix_vs, G, Zb, hlt, fit.tn])
      refine S5.seM (y := { y with home := v1, standby := v2, next := v3, target := v4 }) (y' := { y with home := v1, standby := v2, next := v3, target := v4, window := { y.window with cell := v5 } }) (at_ _) rfl (by simp) (by simp) (by simp [oneI]) rfl fun h6 S6 => ?_
      rw [set_set] at S6
      try simp +contextual (disch := omega) [ZO.j6g, w64]
      refine ih (i + 1) { s with tenants := s.tenants.set i { y with home := v1, standby := v2, next := v3, target := v4, window := { y.window with cell := v5 } } } h6 (by omega) ⟨ms.made, ms.p, fit.setT i _ ⟨b1, b2⟩, by simp⟩ ⟨.sl bt 0 s.tenants.length, z, _, L2, ⟨_, _, rfl, ?_, l2⟩, by simpa [svc] using S6⟩
      have := Sl.mk 12 Za bt ((s.tenants.set i { y with home := v1, standby := v2, next := v3, target := v4, window := { y.window with cell := v5 } }).map TState.c)
      simpa using this
    · have hw' : ((decide (i < t.length)) && wild) = false := by simpa using hw
      try (have G := S.facts; simp only [factsL, factsP, tp, List.cons_append, List.nil_append, and_true, true_and] at G; simp +contextual (disch := omega) [-getElem?_pos, ld_pb, ix_sb, ix_vs, G, Zb, ZO.b1g, hlt, hw', l1.len Z29, fit.tn])
      exact fin i s h ms M0
end
theorem Z2t {l : List Int} (hl : (l.length : Int) ≤ 900000) {t : List TState} {x : List CState} (ht : t.length ≤ 10) (hx : x.length ≤ 20) (wild : Bool) :
    FunQ PP Z1P [.vs 1 (ints l), .vs 12 (t.map TState.c), .vs 4 (x.map CState.c), .bool wild] (fun r => ∃ c s, r = .tup [c.v, s.v] ∧ MadeS wild c s) := by
  refine FunQ.intro fun h0 => ZO.call ?_
  unfold ZO.e ZO.eg
  refine (Own.start h0).alloc Z1t fun b8 h1 S1 => ?_
  refine S1.alloc ZH fun b9 h2 S2 => ?_
  try simp +contextual (disch := omega) [ZO.j1g]
  refine (Z6f hl).call fun r hr => ?_
  obtain ⟨c, rfl, mk, p⟩ := hr
  have hc := mk.cfg p
  refine S2.alloc Z1t fun b10 h3 S3 => ?_
  try simp +contextual (disch := omega)
  refine S3.pu0 (new := c.c) rfl (by simp) rfl (by simp) fun h4 S4 => ?_
  try (have G := S4.facts; simp only [factsL, factsP, tp, List.cons_append, List.nil_append, and_true, true_and] at G; simp +contextual (disch := omega) [-getElem?_pos, ld_pb, ix_sb, ix_vs, G, Zb, ZO.j2g])
  refine (Z6e hc hl (by omega)).call S4 fun w Ls h5 r S5 => ?_
  obtain ⟨es, L1, L2, rfl, r⟩ := r
  obtain ⟨a, z, rfl, l1, l2⟩ := r.ex
  refine S5.alloc ZH fun b11 h6 S6 => ?_
  try simp +contextual (disch := omega)
  refine S6.pu0 (new := svc (foldS c es (newState c) 0).1 a z) rfl (by simp) rfl (svc_ones _ a z l1.one.2 l2.one.2) fun h7 S7 => ?_
  try (have G := S7.facts; simp only [factsL, factsP, tp, List.cons_append, List.nil_append, and_true, true_and] at G; simp +contextual (disch := omega) [-getElem?_pos, ld_pb, ix_sb, ix_vs, G, Zb, ZO.j3g, ZO.j4g])
  have inv := inv_fold es (newState c) 0 (inv_new hc.toCfgOk)
  have q1 := mk.cl; have q2 := mk.tl; have q3 := hc.cells1
  exact made_l1 ht hx (by omega) (by omega) c.tenants.length 0 _ h7 (by omega) ⟨mk, p, inv.fits, fun _ => ⟨es, rfl⟩⟩ ⟨a, z, L1, L2, ⟨a, z, rfl, l1, l2⟩, S7.b2⟩
end Go.Ideal
namespace Go.Ideal
open Go.Proofs
set_option maxRecDepth 100000
@[simp] theorem lget0 {α : Type} {a : α} {l : List α} : (a :: l)[0]? = some a := Zc rfl
theorem cellsI_int (k : IntKind) (n : Int) : ZC (.int k n) = some [.int k n] := Zc rfl
theorem cellsI_bool (b : Bool) : ZC (.bool b) = some [.bool b] := rfl
theorem cellsI_agg (cs : List IV) : ZC (.agg cs) = some cs := rfl
theorem Sl.fzm {n e : Nat} {s : IV} {es : List (List IV)} {L : PT} {h0 h : Heap} {rs : List PT} (l : Sl n e s es L) (S : Own h0 rs h) (hm : L ∈ rs) (hb : Belss 0 es) : Fz h (Ideal.geB h0.length) (.vs n es) s := by
  simp only [Fz]
  rcases l with ⟨rfl, rfl, rfl⟩ | ⟨b, rfl, rfl⟩
  · exact .inl ⟨rfl, rfl⟩
  · have g := S.get (b, some ⟨n, e, es⟩) (List.mem_flatten.2 ⟨_, hm, by simp⟩)
    refine .inr (.inl ⟨b, 0, ⟨n, e, es⟩, rfl, by simp [Ideal.geB]; exact g.1, g.2, rfl, by simp, ?_⟩)
    simpa using Fzss.refl h _ es hb
theorem RepC.fzm {c : Config} {z k t v r o : IV} {Lz Lk Lt Lv Lr Lo : PT} (R : RepC c z k t v r o Lz Lk Lt Lv Lr Lo) {h0 h : Heap} {rs : List PT} (S : Own h0 rs h) (m1 : Lz ∈ rs) (m2 : Lk ∈ rs) (m3 : Lt ∈ rs) (m4 : Lv ∈ rs) (m5 : Lr ∈ rs) (m6 : Lo ∈ rs) : Fz h (geB h0.length) c.v (.agg (ccv c z k t v r o)) := by
  simp only [Fz, Config.c, ccv]
  refine ⟨_, rfl, ?_⟩
  exact Fzs.cons (by simp [Fz]) (Fzs.cons (R.z.fzm S m1 (Zone.bels 0 _)) (Fzs.cons (R.k.fzm S m2 (CellC.bels 0 _)) (Fzs.cons (R.t.fzm S m3 (Tenant.bels 0 _)) (Fzs.cons (R.v.fzm S m4 (Version.bels 0 _)) (Fzs.cons (R.r.fzm S m5 (by simp)) (Fzs.cons (R.o.fzm S m6 (by simp)) (Fzs.cons (by simp [Fz]) (Fzs.cons (by simp [Fz]) (Fzs.cons (by simp [Fz]) (Fzs.nil _ _))))))))))
theorem Rep.fzm {s : State} {v : IV} {L1 L2 : PT} (r : Rep s v L1 L2) {h0 h : Heap} {rs : List PT} (S : Own h0 rs h) (m1 : L1 ∈ rs) (m2 : L2 ∈ rs) : Fz h (geB h0.length) s.v v := by
  obtain ⟨a, b, rfl, l1, l2⟩ := r.ex
  simp only [Fz, State.c, svc]
  refine ⟨_, rfl, ?_⟩
  exact Fzs.cons (by simp [Fz]) (Fzs.cons (by simp [Fz]) (Fzs.cons (l1.fzm S m1 (TState.bels 0 _)) (Fzs.cons (l2.fzm S m2 (CState.bels 0 _)) (Fzs.cons (by simp [Fz]) (Fzs.cons (by simp [Fz]) (Fzs.cons (by simp [Fz]) (Fzs.cons (by simp [Fz]) (Fzs.nil _ _))))))))
def aC : Config := ⟨2, [⟨0⟩, ⟨1⟩], [⟨0, 9⟩, ⟨1, 3⟩], [⟨5, 2, 0, 0, 3, 0, false⟩], [⟨0, 0⟩], [0], [0], 1, 5, 0⟩
def aT : TState := ⟨true, false, 0, 1, -1, -1, 0, ⟨0, 0, 0, 2, 4⟩⟩
def aS : State := ⟨0, 0, [aT], [⟨1, 0, 0, 0⟩, ⟨1, 0, 0, 0⟩], 1, 0, 0, 0⟩
theorem aSmall : Small aC aS := ⟨by decide, by decide, by decide, by decide, by decide⟩
theorem aReg : RegOk aC := ⟨by intro x hx; simp [aC] at hx; rcases hx with rfl | rfl <;> decide, by intro x hx; simp [aC] at hx; rcases hx with rfl | rfl <;> decide⟩
theorem aBooked : booked aC aS = [5, 2] := by decide +kernel
theorem aLive : live aC aS 2 = [5, 0] := by decide +kernel
theorem aFree : free aC aS 0 = 4 := by decide +kernel
theorem aOver : over aC aS = [] := by decide +kernel
theorem aHead0 : headroom aC aS 0 = false := by decide +kernel
theorem aHead1 : headroom aC aS 1 = true := by decide +kernel
theorem Z1u : Fun PP Z1b [] (.bool true) := by
  refine FunQ.intro fun h0 => Z3Y.call ?_
  have z0 : Zo PP ZR [] = some (Zone.mk 0).v := by simp only [Zo, Z4g, Z2J]; rfl
  have z1 : Zo PP ZR [(0, .n 1)] = some (Zone.mk 1).v := by simp only [Zo, Z4g, Z2J]; rfl
  have k0 : Zo PP Zz [(1, .n 9)] = some (CellC.mk 0 9).v := by simp only [Zo, Z4f, Z2n]; rfl
  have k1 : Zo PP Zz [(0, .n 1), (1, .n 3)] = some (CellC.mk 1 3).v := by simp only [Zo, Z4f, Z2n]; rfl
  have t0 : Zo PP Zs [(0, .n 5), (1, .n 2), (4, .n 3)] = some (Tenant.mk 5 2 0 0 3 0 false).v := by simp only [Zo, Z4Z, Z3g]; rfl
  have v0 : Zo PP ZD [] = some (Version.mk 0 0).v := by simp only [Zo, Z4i, Z2a]; rfl
  have c0 : Zo PP Zj [(0, .n 1)] = some (CState.mk 1 0 0 0).v := by simp only [Zo, Z50, Z21]; rfl
  have w0 : Zo PP Zu [(3, .n 2), (4, .n 4)] = some (Window.mk 0 0 0 2 4).v := by simp only [Zo, Z3f, Z20]; rfl
  have x0 : Zo PP Za [(0, .bool true), (3, .n 1), (4, .n (-1)), (5, .n (-1)), (7, (Window.mk 0 0 0 2 4).v)] = some aT.v := by simp only [Zo, Z4e, Z1D]; rfl
  try simp +contextual (disch := omega) [Z3Y.e, z0, z1]
  refine (Own.start h0).lits (n := 1) (e := ZR) (es := aC.zones.map Zone.c) (cs := [.n 0, .n 1]) rfl Z2J Z4Y rfl rfl rfl fun s1 L1 h1 l1 S1 => ?_
  try simp +contextual (disch := omega) [k0, k1]
  refine S1.lits (n := 2) (e := Zz) (es := aC.cells.map CellC.c) (cs := [.n 0, .n 9, .n 1, .n 3]) rfl Z2n Z4X rfl rfl rfl fun s2 L2 h2 l2 S2 => ?_
  try simp +contextual (disch := omega) [t0]
  refine S2.lits (n := 7) (e := Zs) (es := aC.tenants.map Tenant.c) (cs := (Tenant.mk 5 2 0 0 3 0 false).c) rfl Z3g Z5v rfl rfl rfl fun s3 L3 h3 l3 S3 => ?_
  try simp +contextual (disch := omega) [v0]
  refine S3.lits (n := 2) (e := ZD) (es := aC.versions.map Version.c) (cs := (Version.mk 0 0).c) rfl Z2a Z4h rfl rfl rfl fun s4 L4 h4 l4 S4 => ?_
  try simp +contextual (disch := omega)
  refine S4.lits (n := 1) (e := Z0) (es := ints aC.replicas) (cs := [.n 0]) rfl Z4a Z49 rfl rfl rfl fun s5 L5 h5 l5 S5 => ?_
  try simp +contextual (disch := omega)
  refine S5.lits (n := 1) (e := Z0) (es := ints aC.observers) (cs := [.n 0]) rfl Z4a Z49 rfl rfl rfl fun s6 L6 h6 l6 S6 => ?_
  have hx : Zo PP Z6 [(0, .n 2), (1, s1), (2, s2), (3, s3), (4, s4), (5, s5), (6, s6), (7, .n 1), (8, .n 5)] = some (.agg (ccv aC s1 s2 s3 s4 s5 s6)) := by
    simp [Zo, Z4V, Z1t, fillI, splice, cellsI_int, l1.one.1, l2.one.1, l3.one.1, l4.one.1, l5.one.1, l6.one.1, ccv, aC]
  try simp +contextual (disch := omega) [hx]
  refine S6.alloc Z1t fun b1 h7 S7 => ?_
  have R : RepC aC s1 s2 s3 s4 s5 s6 L1 L2 L3 L4 L5 L6 := ⟨l1, l2, l3, l4, l5, l6⟩
  refine S7.pu0 (new := ccv aC s1 s2 s3 s4 s5 s6) rfl (by simp) rfl (ccv_ones aC R) fun h8 S8 => ?_
  try simp +contextual (disch := omega) [c0]
  refine S8.lits (n := 4) (e := Zj) (es := aS.cells.map CState.c) (cs := (CState.mk 1 0 0 0).c ++ (CState.mk 1 0 0 0).c) rfl Z21 Z5w rfl rfl rfl fun s7 L7 h9 l7 S9 => ?_
  try simp +contextual (disch := omega) [w0]
  try simp +contextual (disch := omega) [x0]
  refine S9.lits (n := 12) (e := Za) (es := aS.tenants.map TState.c) (cs := aT.c) rfl Z1D Z4d rfl rfl rfl fun s8 L8 h10 l8 S10 => ?_
  have hy : Zo PP Z3 [(4, .n 1), (3, s7), (2, s8)] = some (SV aS s8 s7) := by
    simp [Zo, Z4W, ZH, fillI, splice, cellsI_int, l7.one.1, l8.one.1, svc, aS]
  try simp +contextual (disch := omega) [hy]
  refine S10.alloc ZH fun b2 h11 S11 => ?_
  refine S11.pu0 (new := svc aS s8 s7) rfl (by simp) rfl (svc_ones aS s8 s7 l8.one.2 l7.one.2) fun h12 S12 => ?_
  have r : Rep aS (SV aS s8 s7) L8 L7 := ⟨s8, s7, rfl, l8, l7⟩
  have zc : ∀ (rs : List PT) (h : Heap), Own h0 (rs ++ ([(b2, some ⟨8, Z3, [svc aS s8 s7]⟩)] :: L8 :: L7 :: [(b1, some ⟨10, Z6, [ccv aC s1 s2 s3 s4 s5 s6]⟩)] :: L6 :: L5 :: L4 :: L3 :: L2 :: L1 :: [])) h →
      Fz h (geB h0.length) aC.v (.agg (ccv aC s1 s2 s3 s4 s5 s6)) := fun rs h S => R.fzm S (by simp) (by simp) (by simp) (by simp) (by simp) (by simp)
  have zs : ∀ (rs : List PT) (h : Heap), Own h0 (rs ++ ([(b2, some ⟨8, Z3, [svc aS s8 s7]⟩)] :: L8 :: L7 :: [(b1, some ⟨10, Z6, [ccv aC s1 s2 s3 s4 s5 s6]⟩)] :: L6 :: L5 :: L4 :: L3 :: L2 :: L1 :: [])) h →
      Fz h (geB h0.length) aS.v (SV aS s8 s7) := fun rs h S => r.fzm S (by simp) (by simp)
  try (have G := S12.facts; simp only [factsL, factsP, tp, List.cons_append, List.nil_append, and_true, true_and] at G; simp +contextual (disch := omega) [-getElem?_pos, ld_pb, ix_sb, ix_vs, G, Zb, ])
  refine (Z4m aSmall).lend (nofss_ints _) _ (Fzs.cons (zc [] _ S12) (Fzs.cons (zs [] _ S12) (Fzs.nil _ _))) S12 fun sv M1 h13 m1 S13 => ?_
  rw [aBooked] at m1
  try (have G := S13.facts; simp only [factsL, factsP, tp, List.cons_append, List.nil_append, and_true, true_and] at G; simp +contextual (disch := omega) [-getElem?_pos, ld_pb, ix_sb, ix_vs, G, Zb, ])
  refine (Z59 aSmall 2).lend (nofss_ints _) _ (Fzs.cons (zc [M1] _ S13) (Fzs.cons (zs [M1] _ S13) (Fzs.cons (Fz.refl _ _ _ (by simp [Bel])) (Fzs.nil _ _)))) S13 fun sw M2 h14 m2 S14 => ?_
  rw [aLive] at m2
  obtain ⟨c1, rfl, rfl, _⟩ := m1.at_ (i := 0) (c := [.n 5]) rfl
  obtain ⟨c2, rfl, rfl, _⟩ := m2.at_ (i := 0) (c := [.n 5]) rfl
  try (have G := S14.facts; simp only [factsL, factsP, tp, List.cons_append, List.nil_append, and_true, true_and] at G; simp +contextual (disch := omega) [-getElem?_pos, ld_pb, ix_sb, ix_vs, G, Zb, ldB_gen])
  refine Fun.lend (Z2N aSmall 0) rfl (Fzs.cons (zc [_, _] _ S14) (Fzs.cons (zs [_, _] _ S14) (Fzs.cons (Fz.refl _ _ _ (by simp [Bel])) (Fzs.nil _ _)))) ?_
  rw [aFree]
  try (have G := S14.facts; simp only [factsL, factsP, tp, List.cons_append, List.nil_append, and_true, true_and] at G; simp +contextual (disch := omega) [-getElem?_pos, ld_pb, ix_sb, ix_vs, G, Zb, ldB_gen])
  refine FunSl.lend (Z4n aSmall) (nofss_ints _) _ (Fzs.cons (zc [_, _] _ S14) (Fzs.cons (zs [_, _] _ S14) (Fzs.nil _ _))) S14 fun sx M3 h15 m3 S15 => ?_
  rw [aOver] at m3
  try (have G := S15.facts; simp only [factsL, factsP, tp, List.cons_append, List.nil_append, and_true, true_and] at G; simp +contextual (disch := omega) [-getElem?_pos, ld_pb, ix_sb, ix_vs, G, Zb, ldB_gen, m3.len Z1K])
  refine Fun.lend (Z2d aSmall aReg 0) rfl (Fzs.cons (zc [_, _, _] _ S15) (Fzs.cons (zs [_, _, _] _ S15) (Fzs.cons (Fz.refl _ _ _ (by simp [Bel])) (Fzs.nil _ _)))) ?_
  rw [aHead0]
  try (have G := S15.facts; simp only [factsL, factsP, tp, List.cons_append, List.nil_append, and_true, true_and] at G; simp +contextual (disch := omega) [-getElem?_pos, ld_pb, ix_sb, ix_vs, G, Zb, ldB_gen])
  refine Fun.lend (Z2d aSmall aReg 1) rfl (Fzs.cons (zc [_, _, _] _ S15) (Fzs.cons (zs [_, _, _] _ S15) (Fzs.cons (Fz.refl _ _ _ (by simp [Bel])) (Fzs.nil _ _)))) ?_
  rw [aHead1]
  try (have G := S15.facts; simp only [factsL, factsP, tp, List.cons_append, List.nil_append, and_true, true_and] at G; simp +contextual (disch := omega) [-getElem?_pos, ld_pb, ix_sb, ix_vs, G, Zb, ldB_gen])
  exact Ret.val S15 (by simp [Bel, Bels]) (by first | rfl | simp)
end Go.Ideal
namespace Go.Ideal
open Go.Proofs
set_option maxRecDepth 100000
theorem Z1k (a b : List Int) (ha : (a.length : Int) ≤ 1000000) : Fun PP Z1H [.vs 1 (ints a), .vs 1 (ints b)] (.bool (decide (a = b))) := by
  refine FunQ.intro fun h0 => Z1c.call ?_
  by_cases hl : a.length = b.length
  · have hl' : (a.length : Int) = b.length := by omega
    have S := Own.start h0
    try simp +contextual (disch := omega) [Z1c.eg, Z1c.j1g, hl']
    try simp +contextual (disch := omega) [Z1c.j2g]
    have loop : ∀ (m i : Nat), i + m = a.length → a.take i = b.take i → Z1c.l1 (Ret (fun x => x = .bool (decide (a = b))) h0) (.vs 1 (ints a)) (.vs 1 (ints b)) (.n i) h0 := by
      intro m
      induction m with
      | zero =>
        intro i hi he
        refine Z1c.l1_round ?_
        have hlt : ¬ (i : Int) < a.length := by omega
        try simp +contextual (disch := omega) [Z1c.b1g, hlt, Z1c.j5]
        have e : a = b := by
          rw [List.take_of_length_le (by omega), List.take_of_length_le (by omega)] at he
          exact he
        exact Ret.val S (by simp [Bel]) (by simp [e])
      | succ m ih =>
        intro i hi he
        refine Z1c.l1_round ?_
        have hlt : i < a.length := by omega
        obtain ⟨u, hu⟩ : ∃ u, a[i]? = some u := ⟨_, List.getElem?_eq_getElem hlt⟩
        obtain ⟨w, hw⟩ : ∃ w, b[i]? = some w := ⟨_, List.getElem?_eq_getElem (by omega)⟩
        have ix1 : ∀ h, Zf PP Zk (.vs 1 (ints a)) (.n i) h = some (.fptr [.n u]) := fun h => Z1y (by omega) (ints_get (by simpa using hu))
        have ix2 : ∀ h, Zf PP Zk (.vs 1 (ints b)) (.n i) h = some (.fptr [.n w]) := fun h => Z1y (by omega) (ints_get (by simpa using hw))
        have hlt' : (i : Int) < a.length := by omega
        try simp +contextual (disch := omega) [Z1c.b1g, hlt', Z1c.j3g, ix1, ix2]
        by_cases huw : u = w
        · subst huw
          try simp +contextual (disch := omega) [Z1c.j4g, w64]
          refine ih (i + 1) (by omega) ?_
          rw [List.take_add_one, List.take_add_one, he, hu, hw]
        · try simp +contextual (disch := omega) [huw]
          refine Ret.val S (by simp [Bel]) ?_
          have : ¬ a = b := fun e => by subst e; rw [hu] at hw; exact huw (Option.some.inj hw)
          simp [this]
    exact loop a.length 0 (by omega) rfl
  · have hl' : ¬ (a.length : Int) = b.length := by omega
    have : ¬ a = b := fun e => hl (by rw [e])
    try simp +contextual (disch := omega) [Z1c.eg, Z1c.j1g, hl']
    exact Ret.val (Own.start h0) (by simp [Bel]) (by simp [this])
theorem small_of {c : Config} {s : State} (m : Made c) (f : Fits c s) : Small c s := by
  have := m.cl; have := m.zl; have := m.tl; have := f.tn; have := f.cl
  exact ⟨by omega, by omega, by omega, by omega, by omega⟩
theorem Z6g (l : List Int) (t : List TState) (x : List CState) (wild : Bool) (cell : Int) :
    Fun PP Z4p [.vs 1 (ints l), .vs 12 (t.map TState.c), .vs 4 (x.map CState.c), .bool wild, .n cell] (.bool true) := by
  refine FunQ.intro fun h0 => Z2A.call ?_
  try simp +contextual (disch := omega) [Z2A.eg, Z2A.j1g]
  refine (Z2o l).call ?_
  try simp +contextual (disch := omega)
  refine bK'_b (fun hc => ?_) (fun hc => ?_)
  · refine Z1u.call ?_
    try simp +contextual (disch := omega)
    exact Ret.val (Own.start h0) (by simp [Bel]) rfl
  simp at hc
  obtain ⟨⟨hl, ht⟩, hx⟩ := hc
  try simp +contextual (disch := omega) [Z2A.j2]
  refine (Z2t (by omega) (by omega) (by omega) wild).call fun r hr => ?_
  obtain ⟨c, s, rfl, ms⟩ := hr
  have hm := small_of ms.made ms.fits
  have ft := ms.fits
  try simp +contextual (disch := omega)
  refine (Own.start h0).alloc Z1t fun b1 h1 S1 => ?_
  try simp +contextual (disch := omega)
  refine S1.alloc ZH fun b2 h2 S2 => ?_
  try simp +contextual (disch := omega)
  refine S2.pu1 (new := c.c) rfl (by simp) rfl (by simp) fun h3 S3 => ?_
  try simp +contextual (disch := omega)
  refine S3.pu0 (new := s.c) rfl (by simp) rfl (by simp) fun h4 S4 => ?_
  refine (Z2K (by omega) (by omega) (by omega)).call ?_
  refine Z1u.call ?_
  try (have G := S4.facts; simp only [factsL, factsP, tp, List.cons_append, List.nil_append, and_true, true_and] at G; simp +contextual (disch := omega) [-getElem?_pos, ld_pb, ix_sb, ix_vs, G, Zb, ])
  first | refine (Z22 hm).call ?_ | refine callB_fun (fun _ => Z22 hm) ?_
  try (have G := S4.facts; simp only [factsL, factsP, tp, List.cons_append, List.nil_append, and_true, true_and] at G; simp +contextual (disch := omega) [-getElem?_pos, ld_pb, ix_sb, ix_vs, G, Zb, ])
  first | refine (Z2M hm ft.tn).call ?_ | refine callB_fun (fun _ => Z2M hm ft.tn) ?_
  have hq := hm.cells
  try (have G := S4.facts; simp only [factsL, factsP, tp, List.cons_append, List.nil_append, and_true, true_and] at G; simp +contextual (disch := omega) [-getElem?_pos, ld_pb, ix_sb, ix_vs, G, Zb, ])
  first | refine (Z1k _ _ (by simp; omega)).call ?_ | refine callB_fun (fun _ => Z1k _ _ (by simp; omega)) ?_
  try (have G := S4.facts; simp only [factsL, factsP, tp, List.cons_append, List.nil_append, and_true, true_and] at G; simp +contextual (disch := omega) [-getElem?_pos, ld_pb, ix_sb, ix_vs, G, Zb, ])
  first | refine (Z54 hm).call ?_ | refine callB_fun (fun _ => Z54 hm) ?_
  try (have G := S4.facts; simp only [factsL, factsP, tp, List.cons_append, List.nil_append, and_true, true_and] at G; simp +contextual (disch := omega) [-getElem?_pos, ld_pb, ix_sb, ix_vs, G, Zb, ])
  first | refine (Z56 hm ft.tn).call ?_ | refine callB_fun (fun _ => Z56 hm ft.tn) ?_
  have hov := filt_length c.cells.length (overP c s)
  try (have G := S4.facts; simp only [factsL, factsP, tp, List.cons_append, List.nil_append, and_true, true_and] at G; simp +contextual (disch := omega) [-getElem?_pos, ld_pb, ix_sb, ix_vs, G, Zb, ])
  first | refine (Z1k _ _ (by unfold over; omega)).call ?_ | refine callB_fun (fun _ => Z1k _ _ (by unfold over; omega)) ?_
  try (have G := S4.facts; simp only [factsL, factsP, tp, List.cons_append, List.nil_append, and_true, true_and] at G; simp +contextual (disch := omega) [-getElem?_pos, ld_pb, ix_sb, ix_vs, G, Zb, ])
  first | refine (Z2N hm cell).call ?_ | refine callB_fun (fun _ => Z2N hm cell) ?_
  try (have G := S4.facts; simp only [factsL, factsP, tp, List.cons_append, List.nil_append, and_true, true_and] at G; simp +contextual (disch := omega) [-getElem?_pos, ld_pb, ix_sb, ix_vs, G, Zb, ])
  first | refine (Z3i hm ft.tn cell).call ?_ | refine callB_fun (fun _ => Z3i hm ft.tn cell) ?_
  try (have G := S4.facts; simp only [factsL, factsP, tp, List.cons_append, List.nil_append, and_true, true_and] at G; simp +contextual (disch := omega) [-getElem?_pos, ld_pb, ix_sb, ix_vs, G, Zb, ])
  first | refine (Z2N hm _).call ?_ | refine callB_fun (fun _ => Z2N hm _) ?_
  try (have G := S4.facts; simp only [factsL, factsP, tp, List.cons_append, List.nil_append, and_true, true_and] at G; simp +contextual (disch := omega) [-getElem?_pos, ld_pb, ix_sb, ix_vs, G, Zb, ])
  first | refine (Z3i hm ft.tn _).call ?_ | refine callB_fun (fun _ => Z3i hm ft.tn _) ?_
  try (have G := S4.facts; simp only [factsL, factsP, tp, List.cons_append, List.nil_append, and_true, true_and] at G; simp +contextual (disch := omega) [-getElem?_pos, ld_pb, ix_sb, ix_vs, G, Zb, ])
  exact Ret.val S4 (by simp [Bel, Bels]) (by first | rfl | simp)
theorem Z6h (l : List Int) (t : List TState) (x : List CState) (wild : Bool) (tick : Int) :
    Fun PP Z4r [.vs 1 (ints l), .vs 12 (t.map TState.c), .vs 4 (x.map CState.c), .bool wild, .n tick] (.bool true) := by
  refine FunQ.intro fun h0 => Z2B.call ?_
  try simp +contextual (disch := omega) [Z2B.eg, Z2B.j1g]
  refine (Z2o l).call ?_
  try simp +contextual (disch := omega)
  refine bK'_b (fun hc => ?_) (fun hc => ?_)
  · refine Z1u.call ?_
    try simp +contextual (disch := omega)
    exact Ret.val (Own.start h0) (by simp [Bel]) rfl
  simp at hc
  obtain ⟨⟨hl, ht⟩, hx⟩ := hc
  try simp +contextual (disch := omega) [Z2B.j2]
  refine (Z2t (by omega) (by omega) (by omega) wild).call fun r hr => ?_
  obtain ⟨c, s, rfl, ms⟩ := hr
  have hm := small_of ms.made ms.fits
  have ft := ms.fits
  try simp +contextual (disch := omega)
  refine (Own.start h0).alloc Z1t fun b1 h1 S1 => ?_
  try simp +contextual (disch := omega)
  refine S1.alloc ZH fun b2 h2 S2 => ?_
  try simp +contextual (disch := omega)
  refine S2.pu1 (new := c.c) rfl (by simp) rfl (by simp) fun h3 S3 => ?_
  try simp +contextual (disch := omega)
  refine S3.pu0 (new := s.c) rfl (by simp) rfl (by simp) fun h4 S4 => ?_
  refine (Z2b (by omega) (by omega)).call ?_
  refine Z1u.call ?_
  have hq := hm.cells
  have hll : ∀ k, (live c s k).length = c.cells.length := fun k => by unfold live; rw [foldl_length _ (fun a p => by unfold liveT; split <;> simp)]; simp [zeros]
  try (have G := S4.facts; simp only [factsL, factsP, tp, List.cons_append, List.nil_append, and_true, true_and] at G; simp +contextual (disch := omega) [-getElem?_pos, ld_pb, ix_sb, ix_vs, G, Zb, ])
  first | refine (Z2Q hm _).call ?_ | refine callB_fun (fun _ => Z2Q hm _) ?_
  try (have G := S4.facts; simp only [factsL, factsP, tp, List.cons_append, List.nil_append, and_true, true_and] at G; simp +contextual (disch := omega) [-getElem?_pos, ld_pb, ix_sb, ix_vs, G, Zb, ])
  first | refine (Z3j hm ft.tn _).call ?_ | refine callB_fun (fun _ => Z3j hm ft.tn _) ?_
  try (have G := S4.facts; simp only [factsL, factsP, tp, List.cons_append, List.nil_append, and_true, true_and] at G; simp +contextual (disch := omega) [-getElem?_pos, ld_pb, ix_sb, ix_vs, G, Zb, ])
  first | refine (Z1k _ _ (by rw [hll]; omega)).call ?_ | refine callB_fun (fun _ => Z1k _ _ (by rw [hll]; omega)) ?_
  try (have G := S4.facts; simp only [factsL, factsP, tp, List.cons_append, List.nil_append, and_true, true_and] at G; simp +contextual (disch := omega) [-getElem?_pos, ld_pb, ix_sb, ix_vs, G, Zb, ])
  first | refine (Z2Q hm _).call ?_ | refine callB_fun (fun _ => Z2Q hm _) ?_
  try (have G := S4.facts; simp only [factsL, factsP, tp, List.cons_append, List.nil_append, and_true, true_and] at G; simp +contextual (disch := omega) [-getElem?_pos, ld_pb, ix_sb, ix_vs, G, Zb, ])
  first | refine (Z3j hm ft.tn _).call ?_ | refine callB_fun (fun _ => Z3j hm ft.tn _) ?_
  try (have G := S4.facts; simp only [factsL, factsP, tp, List.cons_append, List.nil_append, and_true, true_and] at G; simp +contextual (disch := omega) [-getElem?_pos, ld_pb, ix_sb, ix_vs, G, Zb, ])
  first | refine (Z1k _ _ (by rw [hll]; omega)).call ?_ | refine callB_fun (fun _ => Z1k _ _ (by rw [hll]; omega)) ?_
  try (have G := S4.facts; simp only [factsL, factsP, tp, List.cons_append, List.nil_append, and_true, true_and] at G; simp +contextual (disch := omega) [-getElem?_pos, ld_pb, ix_sb, ix_vs, G, Zb, ])
  exact Ret.val S4 (by simp [Bel, Bels]) (by first | rfl | simp)
theorem Z6i (l : List Int) (t : List TState) (x : List CState) (wild : Bool) (region evac : Int) :
    Fun PP Z4q [.vs 1 (ints l), .vs 12 (t.map TState.c), .vs 4 (x.map CState.c), .bool wild, .n region, .n evac] (.bool true) := by
  refine FunQ.intro fun h0 => Z1X.call ?_
  try simp +contextual (disch := omega) [Z1X.eg, Z1X.j1g]
  refine (Z2o l).call ?_
  try simp +contextual (disch := omega)
  refine bK'_b (fun hc => ?_) (fun hc => ?_)
  · refine Z1u.call ?_
    try simp +contextual (disch := omega)
    exact Ret.val (Own.start h0) (by simp [Bel]) rfl
  simp at hc
  obtain ⟨⟨hl, ht⟩, hx⟩ := hc
  try simp +contextual (disch := omega) [Z1X.j2]
  refine (Z2t (by omega) (by omega) (by omega) wild).call fun r hr => ?_
  obtain ⟨c, s, rfl, ms⟩ := hr
  have hm := small_of ms.made ms.fits
  have ft := ms.fits
  try simp +contextual (disch := omega)
  refine (Own.start h0).alloc Z1t fun b1 h1 S1 => ?_
  try simp +contextual (disch := omega)
  refine S1.alloc ZH fun b2 h2 S2 => ?_
  try simp +contextual (disch := omega)
  refine S2.pu1 (new := c.c) rfl (by simp) rfl (by simp) fun h3 S3 => ?_
  try simp +contextual (disch := omega)
  refine S3.pu0 (new := s.c) rfl (by simp) rfl (by simp) fun h4 S4 => ?_
  have main : ∀ (s : State) (h : Heap), Small c s → Fits c s → Own h0 ([(b2, some ⟨8, Z3, [s.c]⟩)] :: [(b1, some ⟨10, Z6, [c.c]⟩)] :: []) h → Z1X.j4 (Ret (fun x => x = .bool true) h0) (.n region) (.ptr b1 0 0) (.ptr b2 0 0) h := by
    intro s h4 hm ft S4
    have hr := (ms.made.cfg ms.p).reg
    have hq := hm.cells
    try simp +contextual (disch := omega) [Z1X.j4]
    refine (Z2K (by omega) (by omega) (by omega)).call ?_
    refine Z1u.call ?_
    try (have G := S4.facts; simp only [factsL, factsP, tp, List.cons_append, List.nil_append, and_true, true_and] at G; simp +contextual (disch := omega) [-getElem?_pos, ld_pb, ix_sb, ix_vs, G, Zb, ])
    first | refine (Z2R hm _).call ?_ | refine callB_fun (fun _ => Z2R hm _) ?_
    try (have G := S4.facts; simp only [factsL, factsP, tp, List.cons_append, List.nil_append, and_true, true_and] at G; simp +contextual (disch := omega) [-getElem?_pos, ld_pb, ix_sb, ix_vs, G, Zb, ])
    first | refine (Z2S hm ft hr _).call ?_ | refine callB_fun (fun _ => Z2S hm ft hr _) ?_
    try (have G := S4.facts; simp only [factsL, factsP, tp, List.cons_append, List.nil_append, and_true, true_and] at G; simp +contextual (disch := omega) [-getElem?_pos, ld_pb, ix_sb, ix_vs, G, Zb, ])
    first | refine (Z1k _ _ (by rw [extra_length]; omega)).call ?_ | refine callB_fun (fun _ => Z1k _ _ (by rw [extra_length]; omega)) ?_
    try (have G := S4.facts; simp only [factsL, factsP, tp, List.cons_append, List.nil_append, and_true, true_and] at G; simp +contextual (disch := omega) [-getElem?_pos, ld_pb, ix_sb, ix_vs, G, Zb, ])
    first | refine (Z2R hm _).call ?_ | refine callB_fun (fun _ => Z2R hm _) ?_
    try (have G := S4.facts; simp only [factsL, factsP, tp, List.cons_append, List.nil_append, and_true, true_and] at G; simp +contextual (disch := omega) [-getElem?_pos, ld_pb, ix_sb, ix_vs, G, Zb, ])
    first | refine (Z2S hm ft hr _).call ?_ | refine callB_fun (fun _ => Z2S hm ft hr _) ?_
    try (have G := S4.facts; simp only [factsL, factsP, tp, List.cons_append, List.nil_append, and_true, true_and] at G; simp +contextual (disch := omega) [-getElem?_pos, ld_pb, ix_sb, ix_vs, G, Zb, ])
    first | refine (Z1k _ _ (by rw [extra_length]; omega)).call ?_ | refine callB_fun (fun _ => Z1k _ _ (by rw [extra_length]; omega)) ?_
    try (have G := S4.facts; simp only [factsL, factsP, tp, List.cons_append, List.nil_append, and_true, true_and] at G; simp +contextual (disch := omega) [-getElem?_pos, ld_pb, ix_sb, ix_vs, G, Zb, ])
    first | refine (Z2d hm hr _).call ?_ | refine callB_fun (fun _ => Z2d hm hr _) ?_
    try (have G := S4.facts; simp only [factsL, factsP, tp, List.cons_append, List.nil_append, and_true, true_and] at G; simp +contextual (disch := omega) [-getElem?_pos, ld_pb, ix_sb, ix_vs, G, Zb, ])
    first | refine (Z3k hm ft hr _).call ?_ | refine callB_fun (fun _ => Z3k hm ft hr _) ?_
    try (have G := S4.facts; simp only [factsL, factsP, tp, List.cons_append, List.nil_append, and_true, true_and] at G; simp +contextual (disch := omega) [-getElem?_pos, ld_pb, ix_sb, ix_vs, G, Zb, bin_bb Z4b])
    first | refine (Z2d hm hr _).call ?_ | refine callB_fun (fun _ => Z2d hm hr _) ?_
    try (have G := S4.facts; simp only [factsL, factsP, tp, List.cons_append, List.nil_append, and_true, true_and] at G; simp +contextual (disch := omega) [-getElem?_pos, ld_pb, ix_sb, ix_vs, G, Zb, ])
    first | refine (Z3k hm ft hr _).call ?_ | refine callB_fun (fun _ => Z3k hm ft hr _) ?_
    try (have G := S4.facts; simp only [factsL, factsP, tp, List.cons_append, List.nil_append, and_true, true_and] at G; simp +contextual (disch := omega) [-getElem?_pos, ld_pb, ix_sb, ix_vs, G, Zb, bin_bb Z4b])
    exact Ret.val S4 (by simp [Bel, Bels]) (by first | rfl | simp)
  try simp +contextual (disch := omega) [Z1X.j3g]
  refine bK'_b (fun hc => ?_) (fun hc => ?_)
  · refine (Z2b (by omega) (by omega)).call ?_
    try simp +contextual (disch := omega)
    refine S4.st0 rfl (by simp) (by simp) (by simp [oneI]) fun h5 S5 => ?_
    exact main { s with evacuating := evac % 8 } h5 ⟨hm.cells, hm.zones, hm.tenants, hm.stenants, hm.scells⟩ ⟨ft.tn, ft.cl, ft.at_⟩ S5
  · exact main s h4 hm ft S4
end Go.Ideal
