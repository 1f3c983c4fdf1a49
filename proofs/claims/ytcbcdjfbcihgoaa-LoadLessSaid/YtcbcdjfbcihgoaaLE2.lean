/- Part of a proof: functions of the program over an ideal memory, and what they compute. No condition. -/
import Derived.Test.YtcbcdjfbcihgoaaLE1
import Derived.Test.YtcbcdjfbcihgoaaProg
set_option linter.unusedVariables false
set_option linter.unusedSimpArgs false
namespace Go.Proofs
theorem Try.mixed : Try.prog.follows .mixedOrders = true := by kernel_rfl
end Go.Proofs
namespace Go.Ideal
open Go.Proofs
noncomputable abbrev PP : Program := Try.prog
abbrev Z4p : FuncId := 3
abbrev Z4q : FuncId := 4
abbrev Z4r : FuncId := 5
abbrev Z4s : FuncId := 6
abbrev Z4t : FuncId := 7
abbrev Z4u : FuncId := 8
abbrev Z1O : FuncId := 9
abbrev Z1b : FuncId := 10
abbrev Z1P : FuncId := 11
abbrev Z1v : FuncId := 12
abbrev Z1H : FuncId := 13
abbrev Z1z : FuncId := 14
abbrev Z2e : FuncId := 15
abbrev Z2f : FuncId := 16
abbrev Z2u : FuncId := 17
abbrev Z2v : FuncId := 18
abbrev Z2T : FuncId := 19
abbrev Z1I : FuncId := 20
abbrev Z2w : FuncId := 21
abbrev Z2x : FuncId := 22
abbrev Z23 : FuncId := 23
abbrev Z2U : FuncId := 24
abbrev Z24 : FuncId := 25
abbrev Z2V : FuncId := 26
abbrev Z1l : FuncId := 27
abbrev Z3m : FuncId := 28
abbrev Z3n : FuncId := 29
abbrev Z2g : FuncId := 30
abbrev Z3o : FuncId := 31
abbrev Z2y : FuncId := 32
abbrev Z1Q : FuncId := 33
abbrev Z1R : FuncId := 34
abbrev Z3p : FuncId := 35
abbrev Z25 : FuncId := 36
abbrev Z2W : FuncId := 37
abbrev Z3q : FuncId := 38
abbrev Z3r : FuncId := 39
abbrev Z1S : FuncId := 40
abbrev Z3s : FuncId := 41
abbrev Z3t : FuncId := 42
abbrev Z2X : FuncId := 43
abbrev ZL : FuncId := 44
abbrev Z1A : FuncId := 45
abbrev Z1m : FuncId := 46
abbrev Z3u : FuncId := 47
abbrev Z3v : FuncId := 48
abbrev Z2Y : FuncId := 49
abbrev Z2Z : FuncId := 50
abbrev Z30 : FuncId := 51
abbrev Z3w : FuncId := 52
abbrev Z3x : FuncId := 53
abbrev Z3y : FuncId := 54
abbrev Z3z : FuncId := 55
abbrev Z3A : FuncId := 56
abbrev Zv : FuncId := 57
abbrev Z3B : FuncId := 58
abbrev Z3C : FuncId := 59
abbrev Z3D : FuncId := 60
abbrev Z3E : FuncId := 61
abbrev Z3F : FuncId := 62
abbrev Z3G : FuncId := 63
abbrev Z3H : FuncId := 64
abbrev Z3I : FuncId := 65
abbrev Z3J : FuncId := 66
abbrev Z3K : FuncId := 67
abbrev Z3L : FuncId := 68
abbrev Z3M : FuncId := 69
abbrev Z3N : FuncId := 70
abbrev Z31 : FuncId := 71
abbrev Z2z : FuncId := 72
abbrev Z2h : FuncId := 73
abbrev Z32 : FuncId := 74
abbrev Z33 : FuncId := 75
abbrev Z3O : FuncId := 76
abbrev Z34 : FuncId := 77
abbrev Z3P : FuncId := 78
abbrev Z2i : FuncId := 79
abbrev Z1T : FuncId := 80
abbrev Z26 : FuncId := 81
abbrev Z1U : FuncId := 82
abbrev Z3Q : FuncId := 83
abbrev Z3R : FuncId := 84
abbrev Z3S : FuncId := 85
abbrev Z1V : FuncId := 86
abbrev Z35 : FuncId := 87
abbrev Z18 : FuncId := 88
abbrev Z3T : FuncId := 89
abbrev Z3U : FuncId := 90
abbrev ZW : FuncId := 91
abbrev Z3V : FuncId := 92
abbrev Z0 : TypeId := 3
abbrev Zy : TypeId := 4
abbrev t_uint8 : TypeId := 5
abbrev Z1n : TypeId := 9
abbrev Zk : TypeId := 22
abbrev Zh : TypeId := 23
abbrev Zl : TypeId := 24
abbrev ZK : TypeId := 27
abbrev Zn : TypeId := 28
abbrev Zw : TypeId := 29
abbrev ZI : TypeId := 30
abbrev Z6 : TypeId := 32
abbrev Z3 : TypeId := 34
abbrev Zu : TypeId := 47
abbrev Za : TypeId := 49
abbrev Zz : TypeId := 54
abbrev ZR : TypeId := 57
abbrev Zs : TypeId := 59
abbrev ZD : TypeId := 61
abbrev Zj : TypeId := 63
abbrev ZF : TypeId := 66
abbrev Z1B : TypeId := 80
abbrev Z3W : TypeId := 81
abbrev Z13 : TypeId := 84
abbrev ZX : TypeId := 87
abbrev Z8 : TypeId := 92
abbrev Z1W : TypeId := 115
end Go.Ideal
namespace Go.Ideal
mutual
/-- 'Fz h B r2 r': r2 is r, with the blocks of B taken as they are in h. -/
def Fz (h : Heap) (B : Nat → Bool) : IV → IV → Prop
  | .any, _ => True
  | .bool b, r => r = .bool b
  | .int k n, r => r = .int k n
  | .str s, r => r = .str s
  | .nil, r => r = .nil
  | .snil, r => r = .snil
  | .ptr b i o, r => r = .ptr b i o ∧ B b = false
  | .sl b lo len, r => r = .sl b lo len ∧ B b = false
  | .fptr cs, r => (∃ b i o k e, r = .ptr b i o ∧ B b = true ∧ h[b]? = some (some k) ∧ k.es[i]? = some e ∧ Fzs h B cs (e.drop o)) ∨ ∃ cs', r = .fptr cs' ∧ Fzs h B cs cs'
  | .vs s es, r => (r = .snil ∧ es = []) ∨ (∃ b lo k, r = .sl b lo es.length ∧ B b = true ∧ h[b]? = some (some k) ∧ k.size = s ∧ lo + es.length ≤ k.es.length ∧ Fzss h B es ((k.es.drop lo).take es.length)) ∨ ∃ es', r = .vs s es' ∧ Fzss h B es es'
  | .fn f cs, r => ∃ cs', r = .fn f cs' ∧ Fzs h B cs cs'
  | .agg cs, r => ∃ cs', r = .agg cs' ∧ Fzs h B cs cs'
  | .tup cs, r => ∃ cs', r = .tup cs' ∧ Fzs h B cs cs'
def Fzs (h : Heap) (B : Nat → Bool) : List IV → List IV → Prop
  | [], rs => rs = []
  | c :: cs, rs => ∃ r rs', rs = r :: rs' ∧ Fz h B c r ∧ Fzs h B cs rs'
def Fzss (h : Heap) (B : Nat → Bool) : List (List IV) → List (List IV) → Prop
  | [], rs => rs = []
  | c :: cs, rs => ∃ r rs', rs = r :: rs' ∧ Fzs h B c r ∧ Fzss h B cs rs'
end
mutual
theorem Fz.refl (h : Heap) (B : Nat → Bool) : ∀ (r : IV), Bel 0 r → Fz h B r r
  | .any, _ => by simp [Fz]
  | .bool _, _ => by simp [Fz]
  | .int _ _, _ => by simp [Fz]
  | .str _, _ => by simp [Fz]
  | .nil, _ => by simp [Fz]
  | .snil, _ => by simp [Fz]
  | .ptr b _ _, k => by simp [Bel] at k
  | .sl b _ _, k => by simp [Bel] at k
  | .fptr cs, k => by simp only [Fz]; exact .inr ⟨cs, rfl, Fzs.refl h B cs (by simpa [Bel] using k)⟩
  | .vs s es, k => by simp only [Fz]; exact .inr (.inr ⟨es, rfl, Fzss.refl h B es (by simpa [Bel] using k)⟩)
  | .fn f cs, k => by simp only [Fz]; exact ⟨cs, rfl, Fzs.refl h B cs (by simpa [Bel] using k)⟩
  | .agg cs, k => by simp only [Fz]; exact ⟨cs, rfl, Fzs.refl h B cs (by simpa [Bel] using k)⟩
  | .tup cs, k => by simp only [Fz]; exact ⟨cs, rfl, Fzs.refl h B cs (by simpa [Bel] using k)⟩
theorem Fzs.refl (h : Heap) (B : Nat → Bool) : ∀ (rs : List IV), Bels 0 rs → Fzs h B rs rs
  | [], _ => by simp [Fzs]
  | r :: rs, k => by
    simp only [Bels] at k
    simp only [Fzs]
    exact ⟨r, rs, rfl, Fz.refl h B r k.1, Fzs.refl h B rs k.2⟩
theorem Fzss.refl (h : Heap) (B : Nat → Bool) : ∀ (rs : List (List IV)), Belss 0 rs → Fzss h B rs rs
  | [], _ => by simp [Fzss]
  | r :: rs, k => by
    simp only [Belss] at k
    simp only [Fzss]
    exact ⟨r, rs, rfl, Fzs.refl h B r k.1, Fzss.refl h B rs k.2⟩
end
def killB (B : Nat → Bool) (h : Heap) : Heap := h.mapIdx fun b x => if B b then none else x
@[simp] theorem killB_length (B : Nat → Bool) (h : Heap) : (killB B h).length = h.length := by simp [killB]
theorem killB_get (B : Nat → Bool) (h : Heap) (b : Nat) : (killB B h)[b]? = (h[b]?).map fun x => if B b then none else x := by simp [killB]
theorem killB_some {B : Nat → Bool} {h : Heap} {b : Nat} {k : Blk} : (killB B h)[b]? = some (some k) ↔ B b = false ∧ h[b]? = some (some k) := by
  rw [killB_get]
  cases e : h[b]? with
  | none => simp
  | some x =>
    cases hB : B b <;> simp
section
variable {F : Frz} {ρ : Lay} {h : Heap} {w : World} (hr : Rel F ρ h w) (B : Nat → Bool)
open Classical in
noncomputable def frzB (F : Frz) (ρ : Lay) (h : Heap) (w : World) (B : Nat → Bool) : Frz := fun R => if ∃ b k l, B b = true ∧ h[b]? = some (some k) ∧ ρ b = some l ∧ l.R = R then w.heap[R]? else F R
include hr in
theorem frzB_le : FLe F (frzB F ρ h w B) := by
  intro R o e
  unfold frzB
  split
  · exact hr.frz R o e
  · exact e
include hr in
theorem Rel.freezeSet : Step F ρ h w (frzB F ρ h w B) ρ (killB B h) w := by
  have hle := frzB_le hr B
  refine ⟨hle, fun _ _ e => e, ⟨?_, ?_, ?_, ?_⟩, fun _ _ _ => rfl, ?_, ?_, by simp, fun _ _ _ e => e, Nat.le_refl _, rfl, rfl, rfl⟩
  · intro R o e
    unfold frzB at e
    split at e
    · exact e
    · exact hr.frz R o e
  · intro c k' e
    obtain ⟨hB, e⟩ := killB_some.1 e
    obtain ⟨l', hl', hF', cs', g1, g2, g3, g4, g5⟩ := hr.liv c k' e
    refine ⟨l', hl', ?_, cs', g1, g2, g3, g4, RowsAt.move (n := h.length) hle (fun _ _ _ e => e) _ _ _ _ _ (RowsAt.bel hr.low _ _ _ _ g5) (fun _ _ e => e) g5⟩
    unfold frzB
    rw [if_neg]
    · exact hF'
    · rintro ⟨b, k, l, h1, h2, h3, h4⟩
      have := hr.inj b c k k' l l' h2 e h3 hl' h4
      subst this
      rw [hB] at h1; cases h1
  · intro c c' k1 k2 l1 l2 e e'
    exact hr.inj c c' k1 k2 l1 l2 (killB_some.1 e).2 (killB_some.1 e').2
  · intro c l' e
    simpa using hr.low c l' e
  · rintro i ⟨b, k, l, h1, h2, h3⟩ _
    exact ⟨b, k, l, (killB_some.1 h1).2, h2, h3⟩
  · intro R o e
    unfold frzB at e
    split at e
    · rename_i hx
      obtain ⟨b, k, l, h1, h2, h3, h4⟩ := hx
      exact .inr (.inr ⟨b, k, l, h2, h3, h4⟩)
    · exact .inl e
theorem frzB_at {b : Nat} {k : Blk} {l : Loc} (hB : B b = true) (hb : h[b]? = some (some k)) (hl : ρ b = some l) : frzB F ρ h w B l.R = w.heap[l.R]? := by
  unfold frzB
  rw [if_pos ⟨b, k, l, hB, hb, hl, rfl⟩]
theorem frzB_cell {b : Nat} {k : Blk} {l : Loc} {cs : Array Value} (hB : B b = true) (hb : h[b]? = some (some k)) (hl : ρ b = some l) (g1 : w.heap[l.R]? = some (.cells cs k.ty (0, 0))) : fcell (frzB F ρ h w B) l.R = (cs[·]?) := by
  funext off
  unfold fcell
  rw [frzB_at B hB hb hl, g1]
end
mutual
theorem VRz {F : Frz} {ρ : Lay} {h : Heap} {w : World} (hr : Rel F ρ h w) (B : Nat → Bool) : ∀ (r2 r : IV) (u : Value), Fz h B r2 r → VR F ρ r u → VR (frzB F ρ h w B) ρ r2 u
  | .any, _, _, _, _ => by simp [VR]
  | .bool _, _, _, hz, hv => by simp only [Fz] at hz; subst hz; simpa [VR] using hv
  | .int _ _, _, _, hz, hv => by simp only [Fz] at hz; subst hz; simpa [VR] using hv
  | .str _, _, _, hz, hv => by simp only [Fz] at hz; subst hz; simpa [VR] using hv
  | .nil, _, _, hz, hv => by simp only [Fz] at hz; subst hz; simpa [VR] using hv
  | .snil, _, _, hz, hv => by simp only [Fz] at hz; subst hz; simpa [VR] using hv
  | .ptr b i o, _, _, hz, hv => by simp only [Fz] at hz; obtain ⟨rfl, _⟩ := hz; simpa [VR] using hv
  | .sl b lo len, _, _, hz, hv => by simp only [Fz] at hz; obtain ⟨rfl, _⟩ := hz; simpa [VR] using hv
  | .fptr cs, r, u, hz, hv => by
    simp only [Fz] at hz
    simp only [VR]
    rcases hz with ⟨b, i, o, k, e, rfl, hB, hb, he, hc⟩ | ⟨cs', rfl, hc⟩
    · simp only [VR] at hv
      obtain ⟨l, hl, rfl⟩ := hv
      obtain ⟨l', hl', hF', cs', g1, g2, g3, g4, g5⟩ := hr.liv b k hb
      rw [hl] at hl'; cases hl'
      refine ⟨l.R, _, rfl, ?_⟩
      rw [frzB_cell B hB hb hl g1]
      have := CellsAt.drop o (RowsAt.get g5 he).2
      rw [← g3] at this
      exact CellsZ hr B cs _ _ _ _ hc (fun i x e => e) this
    · simp only [VR] at hv
      obtain ⟨R, off, rfl, hcc⟩ := hv
      exact ⟨R, off, rfl, CellsZ hr B cs _ _ _ _ hc (fun i x e => fcell_le (frzB_le hr B) e) hcc⟩
  | .vs s es, r, u, hz, hv => by
    simp only [Fz] at hz
    simp only [VR]
    rcases hz with ⟨rfl, rfl⟩ | ⟨b, lo, k, rfl, hB, hb, hs, hle, hc⟩ | ⟨es', rfl, hc⟩
    · simp only [VR] at hv
      subst hv
      exact ⟨none, 0, rfl, Nat.le_refl _, fun h => absurd rfl h⟩
    · simp only [VR] at hv
      obtain ⟨l, a, c, hl, rfl, hlc, hor⟩ := hv
      obtain ⟨l', hl', hF', cs', g1, g2, g3, g4, g5⟩ := hr.liv b k hb
      rw [hl] at hl'; cases hl'
      refine ⟨some a, c, rfl, hlc, fun hne => ?_⟩
      have hpos : 0 < es.length := by
        rcases Nat.eq_zero_or_pos es.length with h0 | h0
        · exact absurd (List.length_eq_zero_iff.1 h0) hne
        · exact h0
      rcases hor with ⟨h0, _⟩ | ⟨hA, _⟩
      · omega
      · refine ⟨l.R, l.base + lo * l.size, congrArg some hA, ?_⟩
        rw [frzB_cell B hB hb hl g1]
        have hrows := RowsAt.take es.length (RowsAt.drop lo g5)
        rw [g3, ← hs]
        exact RowsZ hr B k.size es _ _ _ _ hc (fun i x e => e) hrows
    · simp only [VR] at hv
      obtain ⟨A, c, rfl, hlc, hrow⟩ := hv
      have hlen : es.length = es'.length := FzssLen es es' hc
      rw [hlen]
      refine ⟨A, c, rfl, hlc, fun hne => ?_⟩
      obtain ⟨R, off, hA, hrows⟩ := hrow (by
        intro e; subst e; apply hne; exact List.length_eq_zero_iff.1 (by simpa using hlen))
      exact ⟨R, off, hA, RowsZ hr B s es _ _ _ _ hc (fun i x e => fcell_le (frzB_le hr B) e) hrows⟩
  | .fn f cs, _, _, hz, hv => by
    simp only [Fz] at hz
    obtain ⟨cs', rfl, hc⟩ := hz
    simp only [VR] at hv ⊢
    obtain ⟨us, rfl, hu⟩ := hv
    exact ⟨us, rfl, VRsZ hr B cs _ _ hc hu⟩
  | .agg cs, _, _, hz, hv => by
    simp only [Fz] at hz
    obtain ⟨cs', rfl, hc⟩ := hz
    simp only [VR] at hv ⊢
    obtain ⟨us, rfl, hu⟩ := hv
    exact ⟨us, rfl, VRsZ hr B cs _ _ hc hu⟩
  | .tup cs, _, _, hz, hv => by
    simp only [Fz] at hz
    obtain ⟨cs', rfl, hc⟩ := hz
    simp only [VR] at hv ⊢
    obtain ⟨us, rfl, hu⟩ := hv
    exact ⟨us, rfl, VRsZ hr B cs _ _ hc hu⟩
theorem VRsZ {F : Frz} {ρ : Lay} {h : Heap} {w : World} (hr : Rel F ρ h w) (B : Nat → Bool) : ∀ (cs rs : List IV) (us : List Value), Fzs h B cs rs → VRs F ρ rs us → VRs (frzB F ρ h w B) ρ cs us
  | [], _, _, hz, hv => by simp only [Fzs] at hz; subst hz; simpa [VRs] using hv
  | c :: cs, _, _, hz, hv => by
    simp only [Fzs] at hz
    obtain ⟨r, rs', rfl, h1, h2⟩ := hz
    simp only [VRs] at hv ⊢
    obtain ⟨u, us', rfl, g1, g2⟩ := hv
    exact ⟨u, us', rfl, VRz hr B c r u h1 g1, VRsZ hr B cs rs' us' h2 g2⟩
theorem CellsZ {F : Frz} {ρ : Lay} {h : Heap} {w : World} (hr : Rel F ρ h w) (B : Nat → Bool) : ∀ (cs rs : List IV) (g g' : Nat → Option Value) (off : Nat), Fzs h B cs rs → (∀ i x, g i = some x → g' i = some x) → CellsAt F ρ rs g off → CellsAt (frzB F ρ h w B) ρ cs g' off
  | [], _, _, _, _, _, _, _ => by simp [CellsAt]
  | c :: cs, _, g, g', off, hz, hg, hv => by
    simp only [Fzs] at hz
    obtain ⟨r, rs', rfl, h1, h2⟩ := hz
    simp only [CellsAt] at hv ⊢
    obtain ⟨⟨u, hu, g1⟩, g2⟩ := hv
    exact ⟨⟨u, hg _ _ hu, VRz hr B c r u h1 g1⟩, CellsZ hr B cs rs' g g' _ h2 hg g2⟩
theorem RowsZ {F : Frz} {ρ : Lay} {h : Heap} {w : World} (hr : Rel F ρ h w) (B : Nat → Bool) (s : Nat) : ∀ (es rs : List (List IV)) (g g' : Nat → Option Value) (off : Nat), Fzss h B es rs → (∀ i x, g i = some x → g' i = some x) → RowsAt F ρ s rs g off → RowsAt (frzB F ρ h w B) ρ s es g' off
  | [], _, _, _, _, _, _, _ => by simp [RowsAt]
  | e :: es, _, g, g', off, hz, hg, hv => by
    simp only [Fzss] at hz
    obtain ⟨r, rs', rfl, h1, h2⟩ := hz
    simp only [RowsAt] at hv ⊢
    exact ⟨by rw [FzsLen e r h1]; exact hv.1, CellsZ hr B e r g g' _ h1 hg hv.2.1, RowsZ hr B s es rs' g g' _ h2 hg hv.2.2⟩
theorem FzsLen {h : Heap} {B : Nat → Bool} : ∀ (cs rs : List IV), Fzs h B cs rs → cs.length = rs.length
  | [], _, hz => by simp only [Fzs] at hz; subst hz; rfl
  | c :: cs, _, hz => by
    simp only [Fzs] at hz
    obtain ⟨r, rs', rfl, h1, h2⟩ := hz
    simp [FzsLen cs rs' h2]
theorem FzssLen {h : Heap} {B : Nat → Bool} : ∀ (cs rs : List (List IV)), Fzss h B cs rs → cs.length = rs.length
  | [], _, hz => by simp only [Fzss] at hz; subst hz; rfl
  | c :: cs, _, hz => by
    simp only [Fzss] at hz
    obtain ⟨r, rs', rfl, h1, h2⟩ := hz
    simp [FzssLen cs rs' h2]
end
end Go.Ideal
namespace Go.Ideal
def FunQ (P : Program) (f : FuncId) (args : List IV) (Q : IV → Prop) : Prop := ∀ (h : Heap) (K : IV → Heap → Prop), (∀ r, Q r → K r h) → Z5 P f args h K
abbrev Fun (P : Program) (f : FuncId) (args : List IV) (r : IV) : Prop := FunQ P f args fun x => x = r
theorem Fun.call {P : Program} {f : FuncId} {args : List IV} {r : IV} {h : Heap} {K : IV → Heap → Prop} (hf : Fun P f args r) (k : K r h) : Z5 P f args h K := hf h K fun x e => e ▸ k
theorem FunQ.call {P : Program} {f : FuncId} {args : List IV} {Q : IV → Prop} {h : Heap} {K : IV → Heap → Prop} (hf : FunQ P f args Q) (k : ∀ r, Q r → K r h) : Z5 P f args h K := hf h K k
def geB (n : Nat) : Nat → Bool := fun b => decide (n ≤ b)
def Ret (Q : IV → Prop) (h : Heap) (r : IV) (h' : Heap) : Prop := ∃ r2, h <+: h' ∧ Fz h' (geB h.length) r2 r ∧ Bel h.length r2 ∧ Q r2
theorem FunQ.intro {P : Program} {f : FuncId} {args : List IV} {Q : IV → Prop} (hc : ∀ h, Z5 P f args h (Ret Q h)) : FunQ P f args Q := by
  intro h K hk F ρ w us hr hv
  have hb : ∀ (b : Nat) (k : Blk), h[b]? = some (some k) → Belss h.length k.es := fun b k e => by
    obtain ⟨_, _, _, _, _, _, _, _, q⟩ := hr.liv b k e
    exact RowsAt.bel hr.low _ _ _ _ q
  refine ((hc h).says (K' := fun r h' => ∃ t, h' = h ++ t ∧ Bel h.length r ∧ Q r) ?_ |>.drop (K' := K) ?_) F ρ w us hr hv
  · rintro r h' ⟨r2, ⟨t, rfl⟩, hz, hbel, hq⟩
    refine ⟨r2, killB (geB h.length) (h ++ t), ?_, ?_⟩
    · intro F ρ w u hr hv
      exact ⟨_, Rel.freezeSet hr _, VRz hr _ r2 r u hz hv⟩
    · refine ⟨(killB (geB h.length) (h ++ t)).drop h.length, ?_, hbel, hq⟩
      have : (killB (geB h.length) (h ++ t)).take h.length = h := by
        apply List.ext_getElem?
        intro i
        rw [List.getElem?_take]
        split
        · rename_i hi
          rw [killB_get, List.getElem?_append_left hi]
          have : geB h.length i = false := by unfold geB; simp; omega
          rw [this]; cases h[i]? <;> rfl
        · rw [List.getElem?_eq_none (by omega)]
      conv => rhs; lhs; rw [← this]
      exact (List.take_append_drop _ _).symm
  · rintro r h' ⟨t, rfl, hbel, hq⟩ _
    refine ⟨hbel, fun b k hlt e => hb b k ?_, ?_⟩
    · rwa [List.getElem?_append_left hlt] at e
    · rw [List.take_left]; exact hk r hq
def hidden (h : Heap) : Heap := killB (fun _ => true) h
theorem hidden_get (h : Heap) (b : Nat) (k : Blk) : (hidden h)[b]? ≠ some (some k) := by
  intro e
  have := (killB_some.1 e).1
  cases this
theorem hidden_img {h : Heap} {ρ : Lay} {i : Nat} : ¬ Img (hidden h) ρ i := by
  rintro ⟨b, k, l, h1, _⟩
  exact hidden_get h b k h1
theorem Rel.toHidden {F : Frz} {ρ : Lay} {h : Heap} {w : World} (hr : Rel F ρ h w) : Rel F ρ (hidden h) w :=
  (hr.hide (by simp [hidden]) (fun b k e => absurd e (hidden_get h b k))).1
theorem Step.unhide {F F1 : Frz} {ρ ρ1 : Lay} {h : Heap} {w w' : World} (hr : Rel F ρ h w) (s : Step F ρ (hidden h) w F1 ρ1 (hidden h) w') : ρ1 = ρ ∧ Step F ρ h w F1 ρ h w' ∧ ∀ i, i < w.heap.size → w'.heap[i]? = w.heap[i]? := by
  have hρ : ρ1 = ρ := by
    funext b
    cases e : ρ b with
    | some l => exact s.fρ b l e
    | none =>
      cases e1 : ρ1 b with
      | none => rfl
      | some l =>
        have h1 := s.rel.low b l e1
        have := s.old b l h1 e1
        rw [e] at this; cases this
  have hfr : ∀ i, i < w.heap.size → w'.heap[i]? = w.heap[i]? := fun i hi => s.frame i hi hidden_img
  have hlt : ∀ i o, w.heap[i]? = some o → i < w.heap.size := fun i o e => (Array.getElem?_eq_some_iff.1 e).1
  refine ⟨hρ, ⟨s.fF, fun _ _ e => e, ⟨s.rel.frz, ?_, hr.inj, hr.low⟩, fun i hi _ => hfr i hi, fun i e _ => e, ?_, Nat.le_refl _, fun _ _ _ e => e, s.size, s.os, s.tape, s.output⟩, hfr⟩
  · intro b k e
    obtain ⟨l, hl, hF, cs, g1, g2, g3, g4, g5⟩ := hr.liv b k e
    refine ⟨l, hl, ?_, cs, by rw [hfr _ (hlt _ _ g1)]; exact g1, g2, g3, g4, RowsAt.move (n := h.length) s.fF (fun _ _ _ e => e) _ _ _ _ _ (RowsAt.bel hr.low _ _ _ _ g5) (fun _ _ e => e) g5⟩
    cases e1 : F1 l.R with
    | none => rfl
    | some o =>
      rcases s.newF _ _ e1 with h1 | h1 | h1
      · rw [hF] at h1; cases h1
      · have := hlt _ _ g1; omega
      · exact absurd h1 hidden_img
  · intro R o e
    rcases s.newF _ _ e with h1 | h1 | h1
    · exact .inl h1
    · exact .inr (.inl h1)
    · exact absurd h1 hidden_img
theorem FunQ.give {P : Program} {f : FuncId} {args args2 : List IV} {Q : IV → Prop} {h : Heap} {K : IV → Heap → Prop} (hf : FunQ P f args2 Q) (B : Nat → Bool) (hz : Fzs h B args2 args) (k : ∀ r, Q r → K r (killB B h)) : Z5 P f args h K := by
  intro F ρ w us hr hv
  have s1 := Rel.freezeSet hr B
  have hv2 := VRsZ hr B args2 args us.toList hz hv
  refine ((hf (hidden (killB B h)) (fun r h' => Q r ∧ h' = hidden (killB B h)) fun r hq => ⟨hq, rfl⟩) _ ρ w us s1.rel.toHidden hv2).mono ?_
  rintro e w' ⟨r, h', v, F1, ρ1, ⟨hq, rfl⟩, rfl, st, hv'⟩
  obtain ⟨rfl, st2, _⟩ := Step.unhide s1.rel st
  exact ⟨r, _, v, F1, _, k r hq, rfl, s1.trans st2, hv'⟩
mutual
/-- No reference at all. -/
def Sca : IV → Bool
  | .bool _ => true
  | .int _ _ => true
  | .str _ => true
  | .nil => true
  | .snil => true
  | .any => true
  | .agg cs => Scas cs
  | .tup cs => Scas cs
  | _ => false
def Scas : List IV → Bool
  | [] => true
  | c :: cs => Sca c && Scas cs
end
mutual
theorem Sca.vr {F F' : Frz} {ρ ρ' : Lay} : ∀ (r : IV) (u : Value), Sca r = true → VR F ρ r u → VR F' ρ' r u
  | .any, _, _, _ => by simp [VR]
  | .bool _, _, _, h => by simpa [VR] using h
  | .int _ _, _, _, h => by simpa [VR] using h
  | .str _, _, _, h => by simpa [VR] using h
  | .nil, _, _, h => by simpa [VR] using h
  | .snil, _, _, h => by simpa [VR] using h
  | .ptr _ _ _, _, k, _ => by simp [Sca] at k
  | .sl _ _ _, _, k, _ => by simp [Sca] at k
  | .fptr _, _, k, _ => by simp [Sca] at k
  | .vs _ _, _, k, _ => by simp [Sca] at k
  | .fn _ _, _, k, _ => by simp [Sca] at k
  | .agg cs, u, k, h => by
    simp only [VR] at h ⊢
    obtain ⟨us, rfl, hc⟩ := h
    exact ⟨us, rfl, Scas.vrs cs _ (by simpa [Sca] using k) hc⟩
  | .tup cs, u, k, h => by
    simp only [VR] at h ⊢
    obtain ⟨us, rfl, hc⟩ := h
    exact ⟨us, rfl, Scas.vrs cs _ (by simpa [Sca] using k) hc⟩
theorem Scas.vrs {F F' : Frz} {ρ ρ' : Lay} : ∀ (rs : List IV) (us : List Value), Scas rs = true → VRs F ρ rs us → VRs F' ρ' rs us
  | [], _, _, h => by simpa [VRs] using h
  | r :: rs, us, k, h => by
    simp only [Scas, Bool.and_eq_true] at k
    simp only [VRs] at h ⊢
    obtain ⟨u, us', rfl, h1, h2⟩ := h
    exact ⟨u, us', rfl, Sca.vr r u k.1 h1, Scas.vrs rs us' k.2 h2⟩
end
theorem FunQ.lend {P : Program} {f : FuncId} {args args2 : List IV} {Q : IV → Prop} {h : Heap} {K : IV → Heap → Prop} (hf : FunQ P f args2 Q) (B : Nat → Bool) (hz : Fzs h B args2 args) (k : ∀ r, Q r → Sca r = true ∧ K r h) : Z5 P f args h K := by
  intro F ρ w us hr hv
  have s1 := Rel.freezeSet hr B
  have hv2 := VRsZ hr B args2 args us.toList hz hv
  refine ((hf (hidden (killB B h)) (fun r h' => Q r ∧ h' = hidden (killB B h)) fun r hq => ⟨hq, rfl⟩) _ ρ w us s1.rel.toHidden hv2).mono ?_
  rintro e w' ⟨r, h', v, F1, ρ1, ⟨hq, rfl⟩, rfl, st, hv'⟩
  obtain ⟨hsca, hk⟩ := k r hq
  obtain ⟨rfl, st2, hfr⟩ := Step.unhide s1.rel st
  have hlt : ∀ i o, w.heap[i]? = some o → i < w.heap.size := fun i o e => (Array.getElem?_eq_some_iff.1 e).1
  refine ⟨r, h, v, F, _, hk, rfl, ⟨FLe.refl F, fun _ _ e => e, ⟨fun R o e => ?_, fun b k e => ?_, hr.inj, hr.low⟩, fun i hi _ => hfr i hi, fun i e _ => e, fun R o e => .inl e, Nat.le_refl _, fun _ _ _ e => e, st.size, st.os, st.tape, st.output⟩, Sca.vr r v hsca hv'⟩
  · have := hr.frz R o e; rw [hfr _ (hlt _ _ this)]; exact this
  · obtain ⟨l, hl, hF, cs, g1, g2, g3, g4, g5⟩ := hr.liv b k e
    exact ⟨l, hl, hF, cs, by rw [hfr _ (hlt _ _ g1)]; exact g1, g2, g3, g4, g5⟩
abbrev PT := List (Nat × Option Blk)
structure Own (h0 : Heap) (rs : List PT) (h : Heap) : Prop where
  pre : h0 <+: h
  nd : (rs.flatten.map (·.1)).Nodup
  get : ∀ p ∈ rs.flatten, h0.length ≤ p.1 ∧ h[p.1]? = some p.2
theorem Own.start (h : Heap) : Own h [] h := ⟨List.prefix_rfl, by simp, by simp⟩
theorem Own.len {h0 h : Heap} {rs : List PT} (S : Own h0 rs h) : h0.length ≤ h.length := S.pre.length_le
theorem Own.sub {h0 h : Heap} {rs rs' : List PT} (S : Own h0 rs h) (hs : rs'.flatten.Sublist rs.flatten) : Own h0 rs' h :=
  ⟨S.pre, S.nd.sublist (hs.map _), fun p hp => S.get p (hs.subset hp)⟩
theorem Own.perm {h0 h : Heap} {rs rs' : List PT} (S : Own h0 rs h) (hs : rs'.flatten.Perm rs.flatten) : Own h0 rs' h :=
  ⟨S.pre, (hs.map _).nodup_iff.2 S.nd, fun p hp => S.get p (hs.subset hp)⟩
theorem Own.drop {h0 h : Heap} {L : PT} {rs : List PT} (S : Own h0 (L :: rs) h) : Own h0 rs h := S.sub (by simp)
theorem Own.swap {h0 h : Heap} {L M : PT} {rs : List PT} (S : Own h0 (L :: M :: rs) h) : Own h0 (M :: L :: rs) h := S.perm (by simp only [List.flatten_cons, ← List.append_assoc]; exact List.Perm.append_right _ List.perm_append_comm)
theorem Own.lt {h0 h : Heap} {rs : List PT} (S : Own h0 rs h) {p : Nat × Option Blk} (hp : p ∈ rs.flatten) : p.1 < h.length := (List.getElem?_eq_some_iff.1 (S.get p hp).2).1
theorem prefix_set {h0 h : Heap} (p : h0 <+: h) {b : Nat} (hb : h0.length ≤ b) (x : Option Blk) : h0 <+: h.set b x := by
  obtain ⟨t, rfl⟩ := p
  rw [List.set_append_right _ _ hb]
  exact ⟨_, rfl⟩
theorem Own.push {h0 h : Heap} {rs : List PT} (S : Own h0 rs h) (k : Option Blk) : Own h0 ([(h.length, k)] :: rs) (h ++ [k]) := by
  refine ⟨S.pre.trans (List.prefix_append _ _), ?_, ?_⟩
  · simp only [List.flatten_cons, List.map_append, List.map_cons, List.map_nil, List.singleton_append, List.nodup_cons]
    refine ⟨fun hm => ?_, S.nd⟩
    obtain ⟨p, hp, e⟩ := List.mem_map.1 hm
    have := S.lt hp
    omega
  · intro p hp
    simp only [List.flatten_cons, List.singleton_append, List.mem_cons] at hp
    rcases hp with rfl | hp
    · exact ⟨S.len, by simp⟩
    · refine ⟨(S.get p hp).1, ?_⟩
      rw [List.getElem?_append_left (S.lt hp)]
      exact (S.get p hp).2
theorem Own.set {h0 h : Heap} {b : Nat} {k : Option Blk} {L : PT} {rs : List PT} (S : Own h0 (((b, k) :: L) :: rs) h) (k' : Option Blk) : Own h0 (((b, k') :: L) :: rs) (h.set b k') := by
  have hb := S.get (b, k) (by simp)
  have hlt := S.lt (p := (b, k)) (by simp)
  have hnd := S.nd
  simp only [List.flatten_cons, List.cons_append, List.map_cons, List.nodup_cons] at hnd
  refine ⟨prefix_set S.pre hb.1 _, by simpa using S.nd, ?_⟩
  intro p hp
  simp only [List.flatten_cons, List.cons_append, List.mem_cons] at hp
  rcases hp with rfl | hp
  · exact ⟨hb.1, by simp at hlt; simp [hlt]⟩
  · have := S.get p (by simp only [List.flatten_cons, List.cons_append, List.mem_cons]; exact .inr hp)
    refine ⟨this.1, ?_⟩
    rw [List.getElem?_set_ne]
    · exact this.2
    · rintro rfl; exact hnd.1 (List.mem_map.2 ⟨p, hp, rfl⟩)
theorem Own.move {h0 h : Heap} {b : Nat} {k : Option Blk} {L : PT} {rs : List PT} (S : Own h0 (((b, k) :: L) :: rs) h) (k' : Option Blk) : Own h0 (((h.length, k') :: L) :: rs) (h.set b none ++ [k']) := by
  have hb := S.get (b, k) (by simp)
  have hnd := S.nd
  simp only [List.flatten_cons, List.cons_append, List.map_cons, List.nodup_cons] at hnd
  have S' : Own h0 (L :: rs) (h.set b none) := by
    refine ⟨prefix_set S.pre hb.1 _, by simpa using hnd.2, ?_⟩
    intro p hp
    have hp' : p ∈ L ++ rs.flatten := by simpa using hp
    have := S.get p (by simp only [List.flatten_cons, List.cons_append, List.mem_cons]; exact .inr hp')
    refine ⟨this.1, ?_⟩
    rw [List.getElem?_set_ne]
    · exact this.2
    · rintro rfl; exact hnd.1 (List.mem_map.2 ⟨p, hp', rfl⟩)
  have := S'.push k'
  simp only [List.length_set] at this
  exact this.perm (by simp)
def Sl (n : Nat) (e : TypeId) (s : IV) (es : List (List IV)) (L : PT) : Prop := (s = .snil ∧ es = [] ∧ L = []) ∨ ∃ b, s = .sl b 0 es.length ∧ L = [(b, some ⟨n, e, es⟩)]
theorem Sl.nil (n : Nat) (e : TypeId) : Sl n e .snil [] [] := .inl ⟨rfl, rfl, rfl⟩
theorem Sl.mk (n : Nat) (e : TypeId) (b : Nat) (es : List (List IV)) : Sl n e (.sl b 0 es.length) es [(b, some ⟨n, e, es⟩)] := .inr ⟨b, rfl, rfl⟩
theorem Sl.len {n : Nat} {e : TypeId} {s : IV} {es : List (List IV)} {L : PT} {P : Program} {t t' : TypeId} (l : Sl n e s es L) (ht : elO P t = some t') : lenI P t s = some (.int .i64 es.length) := by
  rcases l with ⟨rfl, rfl, rfl⟩ | ⟨b, rfl, rfl⟩ <;> simp [lenI, ht]
theorem Sl.one {n : Nat} {e : TypeId} {s : IV} {es : List (List IV)} {L : PT} (l : Sl n e s es L) : ZC s = some [s] ∧ oneI s = true := by
  rcases l with ⟨rfl, rfl, rfl⟩ | ⟨b, rfl, rfl⟩ <;> exact ⟨rfl, rfl⟩
theorem Sl.fz {n : Nat} {e : TypeId} {s : IV} {es : List (List IV)} {L : PT} {h0 h : Heap} {rs : List PT} {B : Nat → Bool} (l : Sl n e s es L) (S : Own h0 (L :: rs) h) (hB : ∀ p ∈ L, B p.1 = true) (hz : Fzss h B es es) : Fz h B (.vs n es) s := by
  simp only [Fz]
  rcases l with ⟨rfl, rfl, rfl⟩ | ⟨b, rfl, rfl⟩
  · exact .inl ⟨rfl, rfl⟩
  · refine .inr (.inl ⟨b, 0, ⟨n, e, es⟩, rfl, hB _ (List.mem_singleton.2 rfl), (S.get (b, some ⟨n, e, es⟩) (by simp)).2, rfl, by simp, ?_⟩)
    simpa using hz
theorem Sl.geB {n : Nat} {e : TypeId} {s : IV} {es : List (List IV)} {L : PT} {h0 h : Heap} {rs : List PT} (_ : Sl n e s es L) (S : Own h0 (L :: rs) h) : ∀ p ∈ L, geB h0.length p.1 = true := fun p hp => by
  have := (S.get p (by simp [hp])).1
  simp [Ideal.geB, this]
theorem Sl.append {n e : Nat} {h0 h : Heap} {rs : List PT} {s x : IV} {es xs : List (List IV)} {L : PT} {P : Program} {t t2 t' : TypeId} {z : List IV} {by_ : Nat} {K : IV → Heap → Prop}
    (l : Sl n e s es L) (S : Own h0 (L :: rs) h) (hx : srcI h n x = some xs) (ht : elO P t = some e) (ht2 : elO P t2 = some t') (hz : zrO P e = some z) (hs : szO P e = some n) (hb : byO P e = some by_)
    (hc : (decide (z.length = n) && decide (0 < n) && decide (by_ ≤ 65536)) = true) (ho : ZT xs = true) (hlen : es.length + xs.length ≤ 1073741824)
    (k : ∀ s' L' h', Sl n e s' (es ++ xs) L' → Own h0 (L' :: rs) h' → K s' h') : oA (ZJ P t t2 s x h) h K := by
  simp only [Bool.and_eq_true, decide_eq_true_eq] at hc
  unfold ZJ
  simp only [ht, ht2, hz, hs, hb, hx]
  rw [if_pos ⟨hc.1.1, hc.1.2, hc.2⟩]
  by_cases hne : xs = []
  · subst hne
    rw [if_pos rfl]
    rw [List.append_nil] at k
    rcases l with ⟨rfl, rfl, rfl⟩ | ⟨b, rfl, rfl⟩
    · simp only [oA_some]; exact k _ _ _ (.inl ⟨rfl, rfl, rfl⟩) S
    · simp only [oA_some]; exact k _ _ _ (.inr ⟨b, rfl, rfl⟩) S
  · rw [if_neg hne]
    rcases l with ⟨rfl, rfl, rfl⟩ | ⟨b, rfl, rfl⟩
    · simp only
      rw [if_pos (by simpa using hlen)]
      simp only [oA_some]
      exact k _ _ _ (Sl.mk n e h.length xs) (S.drop.push _)
    · have hg := (S.get (b, some ⟨n, e, es⟩) (by simp)).2
      simp only at hg
      simp only [hg]
      rw [if_pos (by simp [ho]; exact hlen)]
      simp only [oA_some, List.drop_zero, List.take_length]
      have := S.move (some ⟨n, e, es ++ xs⟩)
      refine k _ _ _ ?_ this
      have e1 : es.length + xs.length = (es ++ xs).length := by simp
      rw [e1]
      exact Sl.mk n e _ _
end Go.Ideal
namespace Go.Ideal
abbrev KT := IV → Heap → Prop
abbrev QT := IExit → IAct → Heap → Prop
abbrev sT : Option Bool := some true
abbrev G0 := (IV → Heap → Prop) → Heap → Prop
abbrev G1 := (IV → Heap → Prop) → IV → Heap → Prop
abbrev G2 := (IV → Heap → Prop) → IV → IV → Heap → Prop
abbrev G3 := (IV → Heap → Prop) → IV → IV → IV → Heap → Prop
abbrev G4 := (IV → Heap → Prop) → IV → IV → IV → IV → Heap → Prop
abbrev G5 := (IV → Heap → Prop) → IV → IV → IV → IV → IV → Heap → Prop
abbrev G6 := (IV → Heap → Prop) → IV → IV → IV → IV → IV → IV → Heap → Prop
abbrev G7 := (IV → Heap → Prop) → IV → IV → IV → IV → IV → IV → IV → Heap → Prop
abbrev G8 := (IV → Heap → Prop) → IV → IV → IV → IV → IV → IV → IV → IV → Heap → Prop
abbrev G9 := (IV → Heap → Prop) → IV → IV → IV → IV → IV → IV → IV → IV → IV → Heap → Prop
abbrev G10 := (IV → Heap → Prop) → IV → IV → IV → IV → IV → IV → IV → IV → IV → IV → Heap → Prop
def oB (A B : Prop) : Prop := A ∧ B
noncomputable def bodyN (f : Func) : Code := f.body.getD .skip
def oV (x : IV) (h : Heap) (K : IV → Prop) : Prop := oK (gOp (some true) (some (x, h)) h) fun p => K p.1
theorem oV_eq (x : IV) (h : Heap) (K : IV → Prop) : oV x h K = K x := Zc rfl
def ICx (P : Program) (n : Nat) (D : Nat → DI) (c : Code) (Q : QT) (a : IAct) (h : Heap) : Prop := IC P n D c Q a h
section
variable {P : Program} {n : Nat} {D : Nat → DI} {c cl x y : Code} {id : Nat} {o : Operand} {Q : QT} {m L : IAct → Heap → Prop} {a : IAct} {h : Heap} {X Y : Prop}
theorem ICx.blk (p : ICx P n D cl (Zq id Q) a h) (e : c = .block id cl := by kernel_rfl) : ICx P n D c Q a h := by subst e; exact p
theorem ICx.sq (hy : ∀ a h, m a h → ICx P n D y Q a h) (p : ICx P n D x (Z4 m Q) a h) (e : c = .seq x y := by kernel_rfl) : ICx P n D c Q a h := by
  subst e; exact IC.mono x (iThen_mono hy) p
theorem ICx.cnd (hx : X → ICx P n D x Q a h) (hy : Y → ICx P n D y Q a h) (p : bK' (ieval a o) X Y) (e : c = .cond o x y := by kernel_rfl) : ICx P n D c Q a h := by
  subst e; exact bK'_mono hx hy p
theorem ICx.lp (p : ILoop P n cl Q a h) (e : c = .loop cl := by kernel_rfl) : ICx P n D c Q a h := by subst e; exact p
theorem ICx.round (hm : P.follows .mixedOrders = true) (hL : ∀ a h, L a h → ILoop P n c Q a h) (hi : ICx P n D c (Z4 L Q) a h) (hc : chkC P n D c = true := by kernel_rfl) : ILoop P n c Q a h :=
  ILoop.round hm hc hL hi
theorem ICx.to {A B : Prop} (p : B) (e : A = B := by kernel_rfl) : A := Eq.mpr e p
theorem ICx.fn {f : FuncId} {fn : Func} {c : Code} {args : List IV} {K : KT} (hm : P.follows .mixedOrders = true) (hf : P.funcs[f]? = some fn) (hb : fn.body = some c) (hn : args.length ≤ fn.ntmps)
    (hi : ICx P fn.ntmps D c (finK P fn.results.toList K) (actI args) h) (hc : chkC P fn.ntmps D c = true := by kernel_rfl) : Z5 P f args h K := Z5.ofIC hm hf hb hn hc hi
end
attribute [irreducible] ICx
end Go.Ideal
namespace Go.Ideal
open Go.Proofs
set_option maxRecDepth 100000
noncomputable section
variable {K : KT} {a : IAct} {h : Heap}
namespace Z2A
def D : Nat → DI
  | 5 => ⟨[0, 1, 3, 3, 15, 3, 3, 127, 255, 511, 1023, 2047, 2047, 8191, 2047, 2047, 65535, 131071, 262143, 524287, 1048575, 1048575, 1048575, 8388607, 1048575, 1048575, 1048575, 134217727, 268435455, 536870911, 1073741823, 2147483647, 2147483647, 2147483647, 17179869183, 2147483647, 2147483647, 2147483647, 274877906943, 549755813887, 1099511627775, 2199023255551], [0, 1, 2, 3, 5, 6, 4, 7, 8, 9, 10, 11, 12, 14, 15, 13, 16, 17, 18, 19, 20, 21, 22, 24, 25, 26, 23, 27, 28, 29, 30, 31, 32, 33, 35, 36, 37, 34, 38, 39, 40, 41], []⟩
  | _ => ⟨[], [], []⟩
abbrev I := ICx PP 79 D
def c0 : Code := bodyN Try.f3
def c1 : Code := cR c0
def c2 : Code := cR c1
def c3 : Code := cL c1
def c4 : Code := cL c0
abbrev q1 (K : KT) : QT := finK PP Try.f3.results.toList K
def j2 (K : KT) (x0 x1 x2 x3 x4 : IV) (h : Heap) : Prop :=
 oV x0 h fun v1 =>
 oV x1 h fun v2 =>
 oV x2 h fun v3 =>
 oV x3 h fun v4 =>
 Z5 PP Z1P [v1, v2, v3, v4] h fun v5 h1 =>
 oV v5 h1 fun v6 =>
 oD (Zg v6 0) h1 fun v7 =>
 oD (Zg v6 1) h1 fun v8 =>
 oA (Zp PP Z6 h1) h1 fun v9 h2 =>
 oA (Zp PP Z3 h2) h2 fun v10 h3 =>
 oS (Z9 PP Z6 v9 v7 h3) h3 fun h4 =>
 oS (Z9 PP Z3 v10 v8 h4) h4 fun h5 =>
 oV x4 h5 fun v11 =>
 Z5 PP Z1v [v11, .int .i64 (-1), .int .i64 8] h5 fun v12 h6 =>
 oV v12 h6 fun v13 =>
 Z5 PP Z1b [] h6 fun v14 h7 => oB (True) <|
 oV v14 h7 fun v15 =>
 oG (gW v15 true) (Z1 PP Z6 v9 h7) h7 fun v16 =>
 oG (gW v15 true) (Z1 PP Z3 v10 h7) h7 fun v17 =>
 oG (gW v15 true) (Z1 PP Z6 v9 h7) h7 fun v18 =>
 oG (gW v15 true) (Z1 PP Z3 v10 h7) h7 fun v19 =>
 Zm PP (gW v15 true) Z1z [v16, v17] h7 fun v20 h8 => oB ((ZS (gW v15 true) (Z1 PP Z3 v10 h8) v19 h8) ∧ (ZS (gW v15 true) (Z1 PP Z6 v9 h8) v18 h8) ∧ True) <|
 Zm PP (gW v15 true) Z2e [v18, v19] h8 fun v21 h9 => oB (True) <|
 Zm PP (gW v15 true) Z1H [v20, v21] h9 fun v22 h10 => oB (True) <|
 oP sT (Ze v15 v22 (.bool false) h10) h10 fun v23 =>
 oV v23 h10 fun v24 =>
 oG (gW v24 true) (Z1 PP Z6 v9 h10) h10 fun v25 =>
 oG (gW v24 true) (Z1 PP Z3 v10 h10) h10 fun v26 =>
 oG (gW v24 true) (Z1 PP Z6 v9 h10) h10 fun v27 =>
 oG (gW v24 true) (Z1 PP Z3 v10 h10) h10 fun v28 =>
 Zm PP (gW v24 true) Z2f [v25, v26] h10 fun v29 h11 => oB ((ZS (gW v24 true) (Z1 PP Z3 v10 h11) v28 h11) ∧ (ZS (gW v24 true) (Z1 PP Z6 v9 h11) v27 h11) ∧ True) <|
 Zm PP (gW v24 true) Z2u [v27, v28] h11 fun v30 h12 => oB (True) <|
 Zm PP (gW v24 true) Z1H [v29, v30] h12 fun v31 h13 => oB (True) <|
 oP sT (Ze v24 v31 (.bool false) h13) h13 fun v32 =>
 oV v32 h13 fun v33 =>
 oG (gW v33 true) (Z1 PP Z6 v9 h13) h13 fun v34 =>
 oG (gW v33 true) (Z1 PP Z3 v10 h13) h13 fun v35 =>
 oG (gW v33 true) (some x4) h13 fun v36 =>
 oG (gW v33 true) (Z1 PP Z6 v9 h13) h13 fun v37 =>
 oG (gW v33 true) (Z1 PP Z3 v10 h13) h13 fun v38 =>
 oG (gW v33 true) (some x4) h13 fun v39 =>
 Zm PP (gW v33 true) Z2v [v34, v35, v36] h13 fun v40 h14 => oB ((ZS (gW v33 true) (Z1 PP Z3 v10 h14) v38 h14) ∧ (ZS (gW v33 true) (Z1 PP Z6 v9 h14) v37 h14) ∧ True) <|
 Zm PP (gW v33 true) Z2T [v37, v38, v39] h14 fun v41 h15 => oB (True) <|
 oG (gW v33 true) (Z7 PP .eql Z0 v40 v41) h15 fun v42 =>
 oP sT (Ze v33 v42 (.bool false) h15) h15 fun v43 =>
 oV v43 h15 fun v44 =>
 oG (gW v44 true) (Z1 PP Z6 v9 h15) h15 fun v45 =>
 oG (gW v44 true) (Z1 PP Z3 v10 h15) h15 fun v46 =>
 oG (gW v44 true) (some v13) h15 fun v47 =>
 oG (gW v44 true) (Z1 PP Z6 v9 h15) h15 fun v48 =>
 oG (gW v44 true) (Z1 PP Z3 v10 h15) h15 fun v49 =>
 oG (gW v44 true) (some v13) h15 fun v50 =>
 Zm PP (gW v44 true) Z2v [v45, v46, v47] h15 fun v51 h16 => oB ((ZS (gW v44 true) (Z1 PP Z3 v10 h16) v49 h16) ∧ (ZS (gW v44 true) (Z1 PP Z6 v9 h16) v48 h16) ∧ True) <|
 Zm PP (gW v44 true) Z2T [v48, v49, v50] h16 fun v52 h17 => oB (True) <|
 oG (gW v44 true) (Z7 PP .eql Z0 v51 v52) h17 fun v53 =>
 oP sT (Ze v44 v53 (.bool false) h17) h17 fun v54 =>
 oV v54 h17 fun v55 =>
 Zd PP [.v v55] h17 K
abbrev q2 (j2 : G5) (K : KT) : QT := Z4 (fun a h => j2 K (a 0) (a 1) (a 2) (a 3) (a 4) h) (q1 K)
def j1g (j2 : G5) (K : KT) (x0 x1 x2 x3 x4 : IV) (h : Heap) : Prop :=
 oV x0 h fun v1 =>
 Z5 PP Z1O [v1] h fun v2 h1 =>
 oD (unI .not v2) h1 fun v3 =>
 oV v3 h1 fun v4 =>
 oG (gW v4 false) (some x1) h1 fun v5 =>
 oG (gW v4 false) (lenI PP Zh v5) h1 fun v6 =>
 oG (gW v4 false) (Z7 PP .gtr Z0 v6 (.int .i64 10)) h1 fun v7 =>
 oP sT (Ze v4 (.bool true) v7 h1) h1 fun v8 =>
 oV v8 h1 fun v9 =>
 oG (gW v9 false) (some x2) h1 fun v10 =>
 oG (gW v9 false) (lenI PP Zl v10) h1 fun v11 =>
 oG (gW v9 false) (Z7 PP .gtr Z0 v11 (.int .i64 20)) h1 fun v12 =>
 oP sT (Ze v9 (.bool true) v12 h1) h1 fun v13 =>
 bK' v13
   (Z5 PP Z1b [] h1 fun v14 h2 =>
   oV v14 h2 fun v15 =>
   Zd PP [.v v15] h2 K)
   (j2 K x0 x1 x2 x3 x4 h1)
abbrev j1 : G5 := j1g j2
abbrev q3 (j1 : G5) (K : KT) : QT := Z4 (fun a h => j1 K (a 0) (a 1) (a 2) (a 3) (a 4) h) (q1 K)
def eg (j1 : G5) (K : KT) (x0 x1 x2 x3 x4 : IV) (h : Heap) : Prop :=
 oV (.bool false) h fun v1 =>
 j1 K x0 x1 x2 x3 x4 h
abbrev e : G5 := eg j1
theorem u2 (p : j2 K (a 0) (a 1) (a 2) (a 3) (a 4) h) : I c2 (q1 K) a h := ICx.to p
theorem j1_ok (j2 : G5) : I c3 (q2 j2 K) a h = j1g j2 K (a 0) (a 1) (a 2) (a 3) (a 4) h := by kernel_rfl
theorem u3 (p : j1 K (a 0) (a 1) (a 2) (a 3) (a 4) h) : I c3 (q2 j2 K) a h := ICx.to p (j1_ok j2)
theorem u1 (p : j1 K (a 0) (a 1) (a 2) (a 3) (a 4) h) : I c1 (q1 K) a h := ICx.sq (fun _ _ => u2) (u3 p)
theorem e_ok (j1 : G5) : I c4 (q3 j1 K) a h = eg j1 K (a 0) (a 1) (a 2) (a 3) (a 4) h := by kernel_rfl
theorem u4 (p : e K (a 0) (a 1) (a 2) (a 3) (a 4) h) : I c4 (q3 j1 K) a h := ICx.to p (e_ok j1)
theorem u0 (p : e K (a 0) (a 1) (a 2) (a 3) (a 4) h) : I c0 (q1 K) a h := ICx.sq (fun _ _ => u1) (u4 p)
theorem call {x0 x1 x2 x3 x4 : IV} (p : e K x0 x1 x2 x3 x4 h) : Z5 PP Z4p [x0, x1, x2, x3, x4] h K :=
  ICx.fn Try.mixed Try.func3 rfl (Nat.le_of_ble_eq_true rfl) (u0 (a := actI [x0, x1, x2, x3, x4]) p)
end Z2A
namespace Z1X
def D : Nat → DI
  | 7 => ⟨[0, 1, 3, 3, 3, 31, 3, 3, 3, 511, 1023, 2047, 4095, 8191, 8191, 8191, 65535, 8191, 8191, 8191, 1048575, 2097151, 4194303, 8388607, 16777215, 16777215, 16777215, 134217727, 16777215, 16777215, 16777215, 2147483647, 4294967295, 8589934591, 17179869183, 34359738367, 34359738367, 34359738367, 274877906943, 34359738367, 34359738367, 34359738367, 4398046511103, 8796093022207, 17592186044415, 35184372088831], [0, 1, 2, 3, 4, 6, 7, 8, 5, 9, 10, 11, 12, 13, 14, 15, 17, 18, 19, 16, 20, 21, 22, 23, 24, 25, 26, 28, 29, 30, 27, 31, 32, 33, 34, 35, 36, 37, 39, 40, 41, 38, 42, 43, 44, 45], []⟩
  | _ => ⟨[], [], []⟩
abbrev I := ICx PP 89 D
def c0 : Code := bodyN Try.f4
def c1 : Code := cR c0
def c2 : Code := cR c1
def c3 : Code := cR c2
def c4 : Code := cR c3
def c5 : Code := cL c3
def c6 : Code := cL c2
def c7 : Code := cL c1
def c8 : Code := cL c0
abbrev q1 (K : KT) : QT := finK PP Try.f4.results.toList K
def j4 (K : KT) (x4 x13 x14 : IV) (h : Heap) : Prop :=
 oV x4 h fun v1 =>
 Z5 PP Z1v [v1, .int .i64 (-1), .int .i64 3] h fun v2 h1 =>
 oV v2 h1 fun v3 =>
 Z5 PP Z1b [] h1 fun v4 h2 => oB (True) <|
 oV v4 h2 fun v5 =>
 oG (gW v5 true) (Z1 PP Z6 x13 h2) h2 fun v6 =>
 oG (gW v5 true) (Z1 PP Z3 x14 h2) h2 fun v7 =>
 oG (gW v5 true) (some x4) h2 fun v8 =>
 oG (gW v5 true) (Z1 PP Z6 x13 h2) h2 fun v9 =>
 oG (gW v5 true) (Z1 PP Z3 x14 h2) h2 fun v10 =>
 oG (gW v5 true) (some x4) h2 fun v11 =>
 Zm PP (gW v5 true) Z2w [v6, v7, v8] h2 fun v12 h3 => oB ((ZS (gW v5 true) (Z1 PP Z3 x14 h3) v10 h3) ∧ (ZS (gW v5 true) (Z1 PP Z6 x13 h3) v9 h3) ∧ True) <|
 Zm PP (gW v5 true) Z2x [v9, v10, v11] h3 fun v13 h4 => oB (True) <|
 Zm PP (gW v5 true) Z1H [v12, v13] h4 fun v14 h5 => oB (True) <|
 oP sT (Ze v5 v14 (.bool false) h5) h5 fun v15 =>
 oV v15 h5 fun v16 =>
 oG (gW v16 true) (Z1 PP Z6 x13 h5) h5 fun v17 =>
 oG (gW v16 true) (Z1 PP Z3 x14 h5) h5 fun v18 =>
 oG (gW v16 true) (some v3) h5 fun v19 =>
 oG (gW v16 true) (Z1 PP Z6 x13 h5) h5 fun v20 =>
 oG (gW v16 true) (Z1 PP Z3 x14 h5) h5 fun v21 =>
 oG (gW v16 true) (some v3) h5 fun v22 =>
 Zm PP (gW v16 true) Z2w [v17, v18, v19] h5 fun v23 h6 => oB ((ZS (gW v16 true) (Z1 PP Z3 x14 h6) v21 h6) ∧ (ZS (gW v16 true) (Z1 PP Z6 x13 h6) v20 h6) ∧ True) <|
 Zm PP (gW v16 true) Z2x [v20, v21, v22] h6 fun v24 h7 => oB (True) <|
 Zm PP (gW v16 true) Z1H [v23, v24] h7 fun v25 h8 => oB (True) <|
 oP sT (Ze v16 v25 (.bool false) h8) h8 fun v26 =>
 oV v26 h8 fun v27 =>
 oG (gW v27 true) (Z1 PP Z6 x13 h8) h8 fun v28 =>
 oG (gW v27 true) (Z1 PP Z3 x14 h8) h8 fun v29 =>
 oG (gW v27 true) (some x4) h8 fun v30 =>
 oG (gW v27 true) (Z1 PP Z6 x13 h8) h8 fun v31 =>
 oG (gW v27 true) (Z1 PP Z3 x14 h8) h8 fun v32 =>
 oG (gW v27 true) (some x4) h8 fun v33 =>
 Zm PP (gW v27 true) Z23 [v28, v29, v30] h8 fun v34 h9 => oB ((ZS (gW v27 true) (Z1 PP Z3 x14 h9) v32 h9) ∧ (ZS (gW v27 true) (Z1 PP Z6 x13 h9) v31 h9) ∧ True) <|
 Zm PP (gW v27 true) Z2U [v31, v32, v33] h9 fun v35 h10 => oB (True) <|
 oG (gW v27 true) (Z7 PP .eql Zy v34 v35) h10 fun v36 =>
 oP sT (Ze v27 v36 (.bool false) h10) h10 fun v37 =>
 oV v37 h10 fun v38 =>
 oG (gW v38 true) (Z1 PP Z6 x13 h10) h10 fun v39 =>
 oG (gW v38 true) (Z1 PP Z3 x14 h10) h10 fun v40 =>
 oG (gW v38 true) (some v3) h10 fun v41 =>
 oG (gW v38 true) (Z1 PP Z6 x13 h10) h10 fun v42 =>
 oG (gW v38 true) (Z1 PP Z3 x14 h10) h10 fun v43 =>
 oG (gW v38 true) (some v3) h10 fun v44 =>
 Zm PP (gW v38 true) Z23 [v39, v40, v41] h10 fun v45 h11 => oB ((ZS (gW v38 true) (Z1 PP Z3 x14 h11) v43 h11) ∧ (ZS (gW v38 true) (Z1 PP Z6 x13 h11) v42 h11) ∧ True) <|
 Zm PP (gW v38 true) Z2U [v42, v43, v44] h11 fun v46 h12 => oB (True) <|
 oG (gW v38 true) (Z7 PP .eql Zy v45 v46) h12 fun v47 =>
 oP sT (Ze v38 v47 (.bool false) h12) h12 fun v48 =>
 oV v48 h12 fun v49 =>
 Zd PP [.v v49] h12 K
abbrev q2 (j4 : G3) (K : KT) : QT := Z4 (fun a h => j4 K (a 4) (a 13) (a 14) h) (q1 K)
def j3g (j4 : G3) (K : KT) (x3 x4 x5 x13 x14 : IV) (h : Heap) : Prop :=
 oV x3 h fun v1 =>
 bK' v1
   (oV x5 h fun v2 =>
   Z5 PP Z1I [v2, .int .i64 8] h fun v3 h1 =>
   oD (Z2 PP Z3 x14 5) h1 fun v4 =>
   oS (Z9 PP Z0 v4 v3 h1) h1 fun h2 =>
   j4 K x4 x13 x14 h2)
   (j4 K x4 x13 x14 h)
abbrev j3 : G5 := j3g j4
abbrev q3 (j3 : G5) (K : KT) : QT := Z4 (fun a h => j3 K (a 3) (a 4) (a 5) (a 13) (a 14) h) (q1 K)
def j2g (j3 : G5) (K : KT) (x0 x1 x2 x3 x4 x5 : IV) (h : Heap) : Prop :=
 oV x0 h fun v1 =>
 oV x1 h fun v2 =>
 oV x2 h fun v3 =>
 oV x3 h fun v4 =>
 Z5 PP Z1P [v1, v2, v3, v4] h fun v5 h1 =>
 oV v5 h1 fun v6 =>
 oD (Zg v6 0) h1 fun v7 =>
 oD (Zg v6 1) h1 fun v8 =>
 oA (Zp PP Z6 h1) h1 fun v9 h2 =>
 oA (Zp PP Z3 h2) h2 fun v10 h3 =>
 oS (Z9 PP Z6 v9 v7 h3) h3 fun h4 =>
 oS (Z9 PP Z3 v10 v8 h4) h4 fun h5 =>
 j3 K x3 x4 x5 v9 v10 h5
abbrev j2 : G6 := j2g j3
abbrev q4 (j2 : G6) (K : KT) : QT := Z4 (fun a h => j2 K (a 0) (a 1) (a 2) (a 3) (a 4) (a 5) h) (q1 K)
def j1g (j2 : G6) (K : KT) (x0 x1 x2 x3 x4 x5 : IV) (h : Heap) : Prop :=
 oV x0 h fun v1 =>
 Z5 PP Z1O [v1] h fun v2 h1 =>
 oD (unI .not v2) h1 fun v3 =>
 oV v3 h1 fun v4 =>
 oG (gW v4 false) (some x1) h1 fun v5 =>
 oG (gW v4 false) (lenI PP Zh v5) h1 fun v6 =>
 oG (gW v4 false) (Z7 PP .gtr Z0 v6 (.int .i64 10)) h1 fun v7 =>
 oP sT (Ze v4 (.bool true) v7 h1) h1 fun v8 =>
 oV v8 h1 fun v9 =>
 oG (gW v9 false) (some x2) h1 fun v10 =>
 oG (gW v9 false) (lenI PP Zl v10) h1 fun v11 =>
 oG (gW v9 false) (Z7 PP .gtr Z0 v11 (.int .i64 20)) h1 fun v12 =>
 oP sT (Ze v9 (.bool true) v12 h1) h1 fun v13 =>
 bK' v13
   (Z5 PP Z1b [] h1 fun v14 h2 =>
   oV v14 h2 fun v15 =>
   Zd PP [.v v15] h2 K)
   (j2 K x0 x1 x2 x3 x4 x5 h1)
abbrev j1 : G6 := j1g j2
abbrev q5 (j1 : G6) (K : KT) : QT := Z4 (fun a h => j1 K (a 0) (a 1) (a 2) (a 3) (a 4) (a 5) h) (q1 K)
def eg (j1 : G6) (K : KT) (x0 x1 x2 x3 x4 x5 : IV) (h : Heap) : Prop :=
 oV (.bool false) h fun v1 =>
 j1 K x0 x1 x2 x3 x4 x5 h
abbrev e : G6 := eg j1
theorem u4 (p : j4 K (a 4) (a 13) (a 14) h) : I c4 (q1 K) a h := ICx.to p
theorem j3_ok (j4 : G3) : I c5 (q2 j4 K) a h = j3g j4 K (a 3) (a 4) (a 5) (a 13) (a 14) h := by kernel_rfl
theorem u5 (p : j3 K (a 3) (a 4) (a 5) (a 13) (a 14) h) : I c5 (q2 j4 K) a h := ICx.to p (j3_ok j4)
theorem u3 (p : j3 K (a 3) (a 4) (a 5) (a 13) (a 14) h) : I c3 (q1 K) a h := ICx.sq (fun _ _ => u4) (u5 p)
theorem j2_ok (j3 : G5) : I c6 (q3 j3 K) a h = j2g j3 K (a 0) (a 1) (a 2) (a 3) (a 4) (a 5) h := by kernel_rfl
theorem u6 (p : j2 K (a 0) (a 1) (a 2) (a 3) (a 4) (a 5) h) : I c6 (q3 j3 K) a h := ICx.to p (j2_ok j3)
theorem u2 (p : j2 K (a 0) (a 1) (a 2) (a 3) (a 4) (a 5) h) : I c2 (q1 K) a h := ICx.sq (fun _ _ => u3) (u6 p)
theorem j1_ok (j2 : G6) : I c7 (q4 j2 K) a h = j1g j2 K (a 0) (a 1) (a 2) (a 3) (a 4) (a 5) h := by kernel_rfl
theorem u7 (p : j1 K (a 0) (a 1) (a 2) (a 3) (a 4) (a 5) h) : I c7 (q4 j2 K) a h := ICx.to p (j1_ok j2)
theorem u1 (p : j1 K (a 0) (a 1) (a 2) (a 3) (a 4) (a 5) h) : I c1 (q1 K) a h := ICx.sq (fun _ _ => u2) (u7 p)
theorem e_ok (j1 : G6) : I c8 (q5 j1 K) a h = eg j1 K (a 0) (a 1) (a 2) (a 3) (a 4) (a 5) h := by kernel_rfl
theorem u8 (p : e K (a 0) (a 1) (a 2) (a 3) (a 4) (a 5) h) : I c8 (q5 j1 K) a h := ICx.to p (e_ok j1)
theorem u0 (p : e K (a 0) (a 1) (a 2) (a 3) (a 4) (a 5) h) : I c0 (q1 K) a h := ICx.sq (fun _ _ => u1) (u8 p)
theorem call {x0 x1 x2 x3 x4 x5 : IV} (p : e K x0 x1 x2 x3 x4 x5 h) : Z5 PP Z4q [x0, x1, x2, x3, x4, x5] h K :=
  ICx.fn Try.mixed Try.func4 rfl (Nat.le_of_ble_eq_true rfl) (u0 (a := actI [x0, x1, x2, x3, x4, x5]) p)
end Z1X
namespace Z2B
def D : Nat → DI
  | 5 => ⟨[0, 1, 3, 3, 3, 31, 3, 3, 3, 511, 1023, 2047, 4095, 8191, 8191, 8191, 65535, 8191, 8191, 8191, 1048575, 2097151, 4194303, 8388607], [0, 1, 2, 3, 4, 6, 7, 8, 5, 9, 10, 11, 12, 13, 14, 15, 17, 18, 19, 16, 20, 21, 22, 23], []⟩
  | _ => ⟨[], [], []⟩
abbrev I := ICx PP 61 D
def c0 : Code := bodyN Try.f5
def c1 : Code := cR c0
def c2 : Code := cR c1
def c3 : Code := cL c1
def c4 : Code := cL c0
abbrev q1 (K : KT) : QT := finK PP Try.f5.results.toList K
def j2 (K : KT) (x0 x1 x2 x3 x4 : IV) (h : Heap) : Prop :=
 oV x0 h fun v1 =>
 oV x1 h fun v2 =>
 oV x2 h fun v3 =>
 oV x3 h fun v4 =>
 Z5 PP Z1P [v1, v2, v3, v4] h fun v5 h1 =>
 oV v5 h1 fun v6 =>
 oD (Zg v6 0) h1 fun v7 =>
 oD (Zg v6 1) h1 fun v8 =>
 oA (Zp PP Z6 h1) h1 fun v9 h2 =>
 oA (Zp PP Z3 h2) h2 fun v10 h3 =>
 oS (Z9 PP Z6 v9 v7 h3) h3 fun h4 =>
 oS (Z9 PP Z3 v10 v8 h4) h4 fun h5 =>
 oV x4 h5 fun v11 =>
 Z5 PP Z1I [v11, .int .i64 60] h5 fun v12 h6 =>
 oV v12 h6 fun v13 =>
 Z5 PP Z1b [] h6 fun v14 h7 => oB (True) <|
 oV v14 h7 fun v15 =>
 oG (gW v15 true) (Z1 PP Z6 v9 h7) h7 fun v16 =>
 oG (gW v15 true) (Z1 PP Z3 v10 h7) h7 fun v17 =>
 oG (gW v15 true) (some x4) h7 fun v18 =>
 oG (gW v15 true) (Z1 PP Z6 v9 h7) h7 fun v19 =>
 oG (gW v15 true) (Z1 PP Z3 v10 h7) h7 fun v20 =>
 oG (gW v15 true) (some x4) h7 fun v21 =>
 Zm PP (gW v15 true) Z24 [v16, v17, v18] h7 fun v22 h8 => oB ((ZS (gW v15 true) (Z1 PP Z3 v10 h8) v20 h8) ∧ (ZS (gW v15 true) (Z1 PP Z6 v9 h8) v19 h8) ∧ True) <|
 Zm PP (gW v15 true) Z2V [v19, v20, v21] h8 fun v23 h9 => oB (True) <|
 Zm PP (gW v15 true) Z1H [v22, v23] h9 fun v24 h10 => oB (True) <|
 oP sT (Ze v15 v24 (.bool false) h10) h10 fun v25 =>
 oV v25 h10 fun v26 =>
 oG (gW v26 true) (Z1 PP Z6 v9 h10) h10 fun v27 =>
 oG (gW v26 true) (Z1 PP Z3 v10 h10) h10 fun v28 =>
 oG (gW v26 true) (some v13) h10 fun v29 =>
 oG (gW v26 true) (Z1 PP Z6 v9 h10) h10 fun v30 =>
 oG (gW v26 true) (Z1 PP Z3 v10 h10) h10 fun v31 =>
 oG (gW v26 true) (some v13) h10 fun v32 =>
 Zm PP (gW v26 true) Z24 [v27, v28, v29] h10 fun v33 h11 => oB ((ZS (gW v26 true) (Z1 PP Z3 v10 h11) v31 h11) ∧ (ZS (gW v26 true) (Z1 PP Z6 v9 h11) v30 h11) ∧ True) <|
 Zm PP (gW v26 true) Z2V [v30, v31, v32] h11 fun v34 h12 => oB (True) <|
 Zm PP (gW v26 true) Z1H [v33, v34] h12 fun v35 h13 => oB (True) <|
 oP sT (Ze v26 v35 (.bool false) h13) h13 fun v36 =>
 oV v36 h13 fun v37 =>
 Zd PP [.v v37] h13 K
abbrev q2 (j2 : G5) (K : KT) : QT := Z4 (fun a h => j2 K (a 0) (a 1) (a 2) (a 3) (a 4) h) (q1 K)
def j1g (j2 : G5) (K : KT) (x0 x1 x2 x3 x4 : IV) (h : Heap) : Prop :=
 oV x0 h fun v1 =>
 Z5 PP Z1O [v1] h fun v2 h1 =>
 oD (unI .not v2) h1 fun v3 =>
 oV v3 h1 fun v4 =>
 oG (gW v4 false) (some x1) h1 fun v5 =>
 oG (gW v4 false) (lenI PP Zh v5) h1 fun v6 =>
 oG (gW v4 false) (Z7 PP .gtr Z0 v6 (.int .i64 10)) h1 fun v7 =>
 oP sT (Ze v4 (.bool true) v7 h1) h1 fun v8 =>
 oV v8 h1 fun v9 =>
 oG (gW v9 false) (some x2) h1 fun v10 =>
 oG (gW v9 false) (lenI PP Zl v10) h1 fun v11 =>
 oG (gW v9 false) (Z7 PP .gtr Z0 v11 (.int .i64 20)) h1 fun v12 =>
 oP sT (Ze v9 (.bool true) v12 h1) h1 fun v13 =>
 bK' v13
   (Z5 PP Z1b [] h1 fun v14 h2 =>
   oV v14 h2 fun v15 =>
   Zd PP [.v v15] h2 K)
   (j2 K x0 x1 x2 x3 x4 h1)
abbrev j1 : G5 := j1g j2
abbrev q3 (j1 : G5) (K : KT) : QT := Z4 (fun a h => j1 K (a 0) (a 1) (a 2) (a 3) (a 4) h) (q1 K)
def eg (j1 : G5) (K : KT) (x0 x1 x2 x3 x4 : IV) (h : Heap) : Prop :=
 oV (.bool false) h fun v1 =>
 j1 K x0 x1 x2 x3 x4 h
abbrev e : G5 := eg j1
theorem u2 (p : j2 K (a 0) (a 1) (a 2) (a 3) (a 4) h) : I c2 (q1 K) a h := ICx.to p
theorem j1_ok (j2 : G5) : I c3 (q2 j2 K) a h = j1g j2 K (a 0) (a 1) (a 2) (a 3) (a 4) h := by kernel_rfl
theorem u3 (p : j1 K (a 0) (a 1) (a 2) (a 3) (a 4) h) : I c3 (q2 j2 K) a h := ICx.to p (j1_ok j2)
theorem u1 (p : j1 K (a 0) (a 1) (a 2) (a 3) (a 4) h) : I c1 (q1 K) a h := ICx.sq (fun _ _ => u2) (u3 p)
theorem e_ok (j1 : G5) : I c4 (q3 j1 K) a h = eg j1 K (a 0) (a 1) (a 2) (a 3) (a 4) h := by kernel_rfl
theorem u4 (p : e K (a 0) (a 1) (a 2) (a 3) (a 4) h) : I c4 (q3 j1 K) a h := ICx.to p (e_ok j1)
theorem u0 (p : e K (a 0) (a 1) (a 2) (a 3) (a 4) h) : I c0 (q1 K) a h := ICx.sq (fun _ _ => u1) (u4 p)
theorem call {x0 x1 x2 x3 x4 : IV} (p : e K x0 x1 x2 x3 x4 h) : Z5 PP Z4r [x0, x1, x2, x3, x4] h K :=
  ICx.fn Try.mixed Try.func5 rfl (Nat.le_of_ble_eq_true rfl) (u0 (a := actI [x0, x1, x2, x3, x4]) p)
end Z2B
namespace ZG
def D : Nat → DI
  | 14 => ⟨[0, 1, 0, 0, 8, 0, 56, 120, 255, 511], [0, 1, 2, 3, 4, 5, 6, 7, 8, 9], []⟩
  | 19 => ⟨[0, 0, 0, 0, 12, 28, 0, 0, 192, 448, 1020, 2047, 4095], [0, 1, 2, 3, 4, 5, 6, 7, 8, 9, 10, 11, 12], []⟩
  | _ => ⟨[], [], []⟩
abbrev I := ICx PP 105 D
def c0 : Code := bodyN Try.f6
def c1 : Code := cR c0
def c2 : Code := cR c1
def c3 : Code := cR c2
def c4 : Code := cR c3
def c5 : Code := cR c4
def c6 : Code := cL c4
def c7 : Code := cR c6
def c8 : Code := cL c7
def c9 : Code := cL c8
def c10 : Code := cR c9
def c11 : Code := cR c10
def c12 : Code := cL c10
def c13 : Code := cL c12
def c14 : Code := cR c13
def c15 : Code := cR c14
def c16 : Code := cR c15
def c17 : Code := cR c16
def c18 : Code := cR c17
def c19 : Code := cR c18
def c20 : Code := cL c19
def c21 : Code := cL c20
def c22 : Code := cR c21
def c23 : Code := cR c22
def c24 : Code := cL c22
def c25 : Code := cL c21
def c26 : Code := cL c18
def c27 : Code := cL c17
def c28 : Code := cL c16
def c29 : Code := cL c15
def c30 : Code := cR c29
def c31 : Code := cL c30
def c32 : Code := cL c31
def c33 : Code := cR c32
def c34 : Code := cR c33
def c35 : Code := cL c33
def c36 : Code := cL c32
def c37 : Code := cL c29
def c38 : Code := cL c14
def c39 : Code := cL c13
def c40 : Code := cL c9
def c41 : Code := cL c6
def c42 : Code := cL c3
def c43 : Code := cL c2
def c44 : Code := cL c1
def c45 : Code := cL c0
abbrev q1 (K : KT) : QT := finK PP Try.f6.results.toList K
def j16 (K : KT) (x7 x8 x9 : IV) (h : Heap) : Prop :=
 Z5 PP Z1b [] h fun v1 h1 =>
 oV v1 h1 fun v2 =>
 oG (gW v2 true) (Z1 PP Z6 x7 h1) h1 fun v3 =>
 oG (gW v2 true) (Z1 PP Z3 x8 h1) h1 fun v4 =>
 Zm PP (gW v2 true) Z1z [v3, v4] h1 fun v5 h2 =>
 oG (gW v2 true) (some x9) h2 fun v6 =>
 Zm PP (gW v2 true) Z1H [v5, v6] h2 fun v7 h3 =>
 oP sT (Ze v2 v7 (.bool false) h3) h3 fun v8 =>
 oV v8 h3 fun v9 =>
 Zd PP [.v v9] h3 K
abbrev q2 (j16 : G3) (K : KT) : QT := Z4 (fun a h => j16 K (a 7) (a 8) (a 9) h) (q1 K)
abbrev q3 (j16 : G3) (K : KT) : QT := Zq 0 (q2 j16 K)
def l1 (K : KT) (x7 x8 x9 x10 : IV) (h : Heap) : Prop := ∀ a : IAct, a 7 = x7 → a 8 = x8 → a 9 = x9 → a 10 = x10 → ILoop PP 105 c9 (q3 j16 K) a h
abbrev q4 (l1 : G4) (j16 : G3) (K : KT) : QT := Z4 (fun a h => l1 K (a 7) (a 8) (a 9) (a 10) h) (q3 j16 K)
def j15g (l1 : G4) (j16 : G3) (K : KT) (x7 x8 x9 x10 : IV) (h : Heap) : Prop :=
 oV x10 h fun v1 =>
 oD (Z7 PP .add Z0 v1 (.int .i64 1)) h fun v2 =>
 oV v2 h fun v3 =>
 l1 K x7 x8 x9 v3 h
abbrev j15 : G4 := j15g l1 j16
abbrev q5 (j15 : G4) (l1 : G4) (j16 : G3) (K : KT) : QT := Z4 (fun a h => j15 K (a 7) (a 8) (a 9) (a 10) h) (q4 l1 j16 K)
abbrev q6 (j15 : G4) (l1 : G4) (j16 : G3) (K : KT) : QT := Zq 1 (q5 j15 l1 j16 K)
abbrev q7 (j15 : G4) (l1 : G4) (j16 : G3) (K : KT) : QT := Zq 4 (q6 j15 l1 j16 K)
def l3 (K : KT) (x7 x8 x9 x10 x13 x14 : IV) (h : Heap) : Prop := ∀ a : IAct, a 7 = x7 → a 8 = x8 → a 9 = x9 → a 10 = x10 → a 13 = x13 → a 14 = x14 → ILoop PP 105 c21 (q7 j15 l1 j16 K) a h
abbrev q8 (l3 : G6) (j15 : G4) (l1 : G4) (j16 : G3) (K : KT) : QT := Z4 (fun a h => l3 K (a 7) (a 8) (a 9) (a 10) (a 13) (a 14) h) (q7 j15 l1 j16 K)
def j14g (l3 : G6) (j15 : G4) (l1 : G4) (j16 : G3) (K : KT) (x7 x8 x9 x10 x13 x14 : IV) (h : Heap) : Prop :=
 oV x14 h fun v1 =>
 oD (Z7 PP .add Z0 v1 (.int .i64 1)) h fun v2 =>
 oV v2 h fun v3 =>
 l3 K x7 x8 x9 x10 x13 v3 h
abbrev j14 : G6 := j14g l3 j15 l1 j16
abbrev q9 (j14 : G6) (l3 : G6) (j15 : G4) (l1 : G4) (j16 : G3) (K : KT) : QT := Z4 (fun a h => j14 K (a 7) (a 8) (a 9) (a 10) (a 13) (a 14) h) (q8 l3 j15 l1 j16 K)
def j13g (j14 : G6) (l3 : G6) (j15 : G4) (l1 : G4) (j16 : G3) (K : KT) (x7 x8 x9 x10 x13 x14 : IV) (h : Heap) : Prop :=
 oV x9 h fun v1 =>
 oV x14 h fun v2 =>
 oV x9 h fun v3 =>
 oV x14 h fun v4 =>
 oD (Zf PP Zk v3 v4 h) h fun v5 =>
 oD (Z1 PP Z0 v5 h) h fun v6 =>
 oV x13 h fun v7 =>
 oV x14 h fun v8 =>
 oD (Zf PP Zk v7 v8 h) h fun v9 =>
 oD (Z1 PP Z0 v9 h) h fun v10 =>
 oD (Z7 PP .add Z0 v6 v10) h fun v11 =>
 oD (Zf PP Zk v1 v2 h) h fun v12 =>
 oS (Z9 PP Z0 v12 v11 h) h fun h1 => oB (True) <|
 j14 K x7 x8 x9 x10 x13 x14 h1
abbrev j13 : G6 := j13g j14 l3 j15 l1 j16
abbrev q10 (j13 : G6) (l3 : G6) (j15 : G4) (l1 : G4) (j16 : G3) (K : KT) : QT := Z4 (fun a h => j13 K (a 7) (a 8) (a 9) (a 10) (a 13) (a 14) h) (q8 l3 j15 l1 j16 K)
def b3g (j13 : G6) (l3 : G6) (j15 : G4) (l1 : G4) (j16 : G3) (K : KT) (x7 x8 x9 x10 x13 x14 : IV) (h : Heap) : Prop :=
 oV x14 h fun v1 =>
 oV x9 h fun v2 =>
 oD (lenI PP Zk v2) h fun v3 =>
 oD (Z7 PP .lss Z0 v1 v3) h fun v4 =>
 oV v4 h fun v5 =>
 oG (gW v5 true) (some x14) h fun v6 =>
 oG (gW v5 true) (some x13) h fun v7 =>
 oG (gW v5 true) (lenI PP Zk v7) h fun v8 =>
 oG (gW v5 true) (Z7 PP .lss Z0 v6 v8) h fun v9 =>
 oP sT (Ze v5 v9 (.bool false) h) h fun v10 =>
 bK' v10
   (j13 K x7 x8 x9 x10 x13 x14 h)
   (j15 K x7 x8 x9 x10 h)
abbrev b3 : G6 := b3g j13 l3 j15 l1 j16
abbrev q11 (l3 : G6) (j15 : G4) (l1 : G4) (j16 : G3) (K : KT) : QT := Z4 (fun a h => l3 K (a 7) (a 8) (a 9) (a 10) (a 13) (a 14) h) (q6 j15 l1 j16 K)
def j12g (l3 : G6) (j15 : G4) (l1 : G4) (j16 : G3) (K : KT) (x7 x8 x9 x10 x13 : IV) (h : Heap) : Prop :=
 oV (.int .i64 0) h fun v1 =>
 l3 K x7 x8 x9 x10 x13 v1 h
abbrev j12 : G5 := j12g l3 j15 l1 j16
abbrev q12 (j12 : G5) (j15 : G4) (l1 : G4) (j16 : G3) (K : KT) : QT := Z4 (fun a h => j12 K (a 7) (a 8) (a 9) (a 10) (a 13) h) (q6 j15 l1 j16 K)
def j11g (j12 : G5) (j15 : G4) (l1 : G4) (j16 : G3) (K : KT) (x7 x8 x9 x10 x11 : IV) (h : Heap) : Prop :=
 oD (Z1 PP Z6 x7 h) h fun v1 =>
 oD (Z1 PP Z3 x11 h) h fun v2 =>
 Z5 PP Z1z [v1, v2] h fun v3 h1 =>
 oV v3 h1 fun v4 =>
 j12 K x7 x8 x9 x10 v4 h1
abbrev j11 : G5 := j11g j12 j15 l1 j16
abbrev q13 (j11 : G5) (j15 : G4) (l1 : G4) (j16 : G3) (K : KT) : QT := Z4 (fun a h => j11 K (a 7) (a 8) (a 9) (a 10) (a 11) h) (q6 j15 l1 j16 K)
def j10g (j11 : G5) (j15 : G4) (l1 : G4) (j16 : G3) (K : KT) (x7 x8 x9 x10 x11 : IV) (h : Heap) : Prop :=
 oD (Z2 PP Z3 x11 2) h fun v1 =>
 oD (Z1 PP Zh v1 h) h fun v2 =>
 oV x10 h fun v3 =>
 oD (Z2 PP Z3 x8 2) h fun v4 =>
 oD (Z1 PP Zh v4 h) h fun v5 =>
 oV x10 h fun v6 =>
 oD (Zf PP Zh v5 v6 h) h fun v7 =>
 oD (Z1 PP Za v7 h) h fun v8 =>
 oD (Zf PP Zh v2 v3 h) h fun v9 =>
 oS (Z9 PP Za v9 v8 h) h fun h1 => oB (True) <|
 j11 K x7 x8 x9 x10 x11 h1
abbrev j10 : G5 := j10g j11 j15 l1 j16
abbrev q14 (j10 : G5) (j15 : G4) (l1 : G4) (j16 : G3) (K : KT) : QT := Z4 (fun a h => j10 K (a 7) (a 8) (a 9) (a 10) (a 11) h) (q6 j15 l1 j16 K)
abbrev q15 (j10 : G5) (j15 : G4) (l1 : G4) (j16 : G3) (K : KT) : QT := Zq 2 (q14 j10 j15 l1 j16 K)
def l2 (K : KT) (x7 x8 x9 x10 x11 x12 : IV) (h : Heap) : Prop := ∀ a : IAct, a 7 = x7 → a 8 = x8 → a 9 = x9 → a 10 = x10 → a 11 = x11 → a 12 = x12 → ILoop PP 105 c32 (q15 j10 j15 l1 j16 K) a h
abbrev q16 (l2 : G6) (j10 : G5) (j15 : G4) (l1 : G4) (j16 : G3) (K : KT) : QT := Z4 (fun a h => l2 K (a 7) (a 8) (a 9) (a 10) (a 11) (a 12) h) (q15 j10 j15 l1 j16 K)
def j9g (l2 : G6) (j10 : G5) (j15 : G4) (l1 : G4) (j16 : G3) (K : KT) (x7 x8 x9 x10 x11 x12 : IV) (h : Heap) : Prop :=
 oV x12 h fun v1 =>
 oD (Z7 PP .add Z0 v1 (.int .i64 1)) h fun v2 =>
 oV v2 h fun v3 =>
 l2 K x7 x8 x9 x10 x11 v3 h
abbrev j9 : G6 := j9g l2 j10 j15 l1 j16
abbrev q17 (j9 : G6) (l2 : G6) (j10 : G5) (j15 : G4) (l1 : G4) (j16 : G3) (K : KT) : QT := Z4 (fun a h => j9 K (a 7) (a 8) (a 9) (a 10) (a 11) (a 12) h) (q16 l2 j10 j15 l1 j16 K)
def j8g (j9 : G6) (l2 : G6) (j10 : G5) (j15 : G4) (l1 : G4) (j16 : G3) (K : KT) (x7 x8 x9 x10 x11 x12 : IV) (h : Heap) : Prop :=
 oD (Z2 PP Z3 x11 2) h fun v1 =>
 oD (Z1 PP Zh v1 h) h fun v2 =>
 oV x12 h fun v3 =>
 oD (Zo PP Zu [(0, .int .i64 (-1))]) h fun v4 =>
 oD (Zo PP Za [(2, .int .i64 (-1)), (3, .int .i64 (-1)), (4, .int .i64 (-1)), (5, .int .i64 (-1)), (7, v4)]) h fun v5 =>
 oD (Zf PP Zh v2 v3 h) h fun v6 =>
 oS (Z9 PP Za v6 v5 h) h fun h1 =>
 j9 K x7 x8 x9 x10 x11 x12 h1
abbrev j8 : G6 := j8g j9 l2 j10 j15 l1 j16
abbrev q18 (j8 : G6) (l2 : G6) (j10 : G5) (j15 : G4) (l1 : G4) (j16 : G3) (K : KT) : QT := Z4 (fun a h => j8 K (a 7) (a 8) (a 9) (a 10) (a 11) (a 12) h) (q16 l2 j10 j15 l1 j16 K)
def b2g (j8 : G6) (l2 : G6) (j10 : G5) (j15 : G4) (l1 : G4) (j16 : G3) (K : KT) (x7 x8 x9 x10 x11 x12 : IV) (h : Heap) : Prop :=
 oV x12 h fun v1 =>
 oD (Z2 PP Z3 x11 2) h fun v2 =>
 oD (Z1 PP Zh v2 h) h fun v3 =>
 oD (lenI PP Zh v3) h fun v4 =>
 oD (Z7 PP .lss Z0 v1 v4) h fun v5 =>
 bK' v5
   (j8 K x7 x8 x9 x10 x11 x12 h)
   (j10 K x7 x8 x9 x10 x11 h)
abbrev b2 : G6 := b2g j8 l2 j10 j15 l1 j16
abbrev q19 (l2 : G6) (j10 : G5) (j15 : G4) (l1 : G4) (j16 : G3) (K : KT) : QT := Z4 (fun a h => l2 K (a 7) (a 8) (a 9) (a 10) (a 11) (a 12) h) (q14 j10 j15 l1 j16 K)
def j7g (l2 : G6) (j10 : G5) (j15 : G4) (l1 : G4) (j16 : G3) (K : KT) (x7 x8 x9 x10 x11 : IV) (h : Heap) : Prop :=
 oV (.int .i64 0) h fun v1 =>
 l2 K x7 x8 x9 x10 x11 v1 h
abbrev j7 : G5 := j7g l2 j10 j15 l1 j16
abbrev q20 (j7 : G5) (j15 : G4) (l1 : G4) (j16 : G3) (K : KT) : QT := Z4 (fun a h => j7 K (a 7) (a 8) (a 9) (a 10) (a 11) h) (q6 j15 l1 j16 K)
def j6g (j7 : G5) (j15 : G4) (l1 : G4) (j16 : G3) (K : KT) (x7 x8 x9 x10 x11 : IV) (h : Heap) : Prop :=
 oD (Z2 PP Z3 x8 2) h fun v1 =>
 oD (Z1 PP Zh v1 h) h fun v2 =>
 oD (lenI PP Zh v2) h fun v3 =>
 oA (Z12 PP Zh v3 v3 h) h fun v4 h1 =>
 oD (Z2 PP Z3 x11 2) h1 fun v5 =>
 oS (Z9 PP Zh v5 v4 h1) h1 fun h2 =>
 j7 K x7 x8 x9 x10 x11 h2
abbrev j6 : G5 := j6g j7 j15 l1 j16
abbrev q21 (j6 : G5) (j15 : G4) (l1 : G4) (j16 : G3) (K : KT) : QT := Z4 (fun a h => j6 K (a 7) (a 8) (a 9) (a 10) (a 11) h) (q6 j15 l1 j16 K)
def j5g (j6 : G5) (j15 : G4) (l1 : G4) (j16 : G3) (K : KT) (x7 x8 x9 x10 : IV) (h : Heap) : Prop :=
 oD (Z1 PP Z3 x8 h) h fun v1 =>
 oA (Zp PP Z3 h) h fun v2 h1 =>
 oS (Z9 PP Z3 v2 v1 h1) h1 fun h2 =>
 j6 K x7 x8 x9 x10 v2 h2
abbrev j5 : G4 := j5g j6 j15 l1 j16
abbrev q22 (j5 : G4) (l1 : G4) (j16 : G3) (K : KT) : QT := Z4 (fun a h => j5 K (a 7) (a 8) (a 9) (a 10) h) (q4 l1 j16 K)
def b1g (j5 : G4) (l1 : G4) (j16 : G3) (K : KT) (x7 x8 x9 x10 : IV) (h : Heap) : Prop :=
 oV x10 h fun v1 =>
 oD (Z2 PP Z3 x8 2) h fun v2 =>
 oD (Z1 PP Zh v2 h) h fun v3 =>
 oD (lenI PP Zh v3) h fun v4 =>
 oD (Z7 PP .lss Z0 v1 v4) h fun v5 =>
 bK' v5
   (j5 K x7 x8 x9 x10 h)
   (j16 K x7 x8 x9 h)
abbrev b1 : G4 := b1g j5 l1 j16
abbrev q23 (l1 : G4) (j16 : G3) (K : KT) : QT := Z4 (fun a h => l1 K (a 7) (a 8) (a 9) (a 10) h) (q2 j16 K)
def j4g (l1 : G4) (j16 : G3) (K : KT) (x7 x8 x9 : IV) (h : Heap) : Prop :=
 oV (.int .i64 0) h fun v1 =>
 l1 K x7 x8 x9 v1 h
abbrev j4 : G3 := j4g l1 j16
abbrev q24 (j4 : G3) (K : KT) : QT := Z4 (fun a h => j4 K (a 7) (a 8) (a 9) h) (q1 K)
def j3g (j4 : G3) (K : KT) (x7 x8 : IV) (h : Heap) : Prop :=
 oD (Z2 PP Z6 x7 2) h fun v1 =>
 oD (Z1 PP Zn v1 h) h fun v2 =>
 oD (lenI PP Zn v2) h fun v3 =>
 oA (Z12 PP Zk v3 v3 h) h fun v4 h1 =>
 oV v4 h1 fun v5 =>
 j4 K x7 x8 v5 h1
abbrev j3 : G2 := j3g j4
abbrev q25 (j3 : G2) (K : KT) : QT := Z4 (fun a h => j3 K (a 7) (a 8) h) (q1 K)
def j2g (j3 : G2) (K : KT) (x0 x1 x2 : IV) (h : Heap) : Prop :=
 oV x0 h fun v1 =>
 oV x1 h fun v2 =>
 oV x2 h fun v3 =>
 Z5 PP Z1P [v1, v2, .snil, v3] h fun v4 h1 =>
 oV v4 h1 fun v5 =>
 oD (Zg v5 0) h1 fun v6 =>
 oD (Zg v5 1) h1 fun v7 =>
 oA (Zp PP Z6 h1) h1 fun v8 h2 =>
 oA (Zp PP Z3 h2) h2 fun v9 h3 =>
 oS (Z9 PP Z6 v8 v6 h3) h3 fun h4 =>
 oS (Z9 PP Z3 v9 v7 h4) h4 fun h5 =>
 j3 K v8 v9 h5
abbrev j2 : G3 := j2g j3
abbrev q26 (j2 : G3) (K : KT) : QT := Z4 (fun a h => j2 K (a 0) (a 1) (a 2) h) (q1 K)
def j1g (j2 : G3) (K : KT) (x0 x1 x2 : IV) (h : Heap) : Prop :=
 oV x0 h fun v1 =>
 Z5 PP Z1O [v1] h fun v2 h1 =>
 oD (unI .not v2) h1 fun v3 =>
 oV v3 h1 fun v4 =>
 oG (gW v4 false) (some x1) h1 fun v5 =>
 oG (gW v4 false) (lenI PP Zh v5) h1 fun v6 =>
 oG (gW v4 false) (Z7 PP .gtr Z0 v6 (.int .i64 10)) h1 fun v7 =>
 oP sT (Ze v4 (.bool true) v7 h1) h1 fun v8 =>
 bK' v8
   (Z5 PP Z1b [] h1 fun v9 h2 =>
   oV v9 h2 fun v10 =>
   Zd PP [.v v10] h2 K)
   (j2 K x0 x1 x2 h1)
abbrev j1 : G3 := j1g j2
abbrev q27 (j1 : G3) (K : KT) : QT := Z4 (fun a h => j1 K (a 0) (a 1) (a 2) h) (q1 K)
def eg (j1 : G3) (K : KT) (x0 x1 x2 : IV) (h : Heap) : Prop :=
 oV (.bool false) h fun v1 =>
 j1 K x0 x1 x2 h
abbrev e : G3 := eg j1
theorem u5 (p : j16 K (a 7) (a 8) (a 9) h) : I c5 (q1 K) a h := ICx.to p
theorem j15_ok (l1 : G4) (j16 : G3) : I c11 (q4 l1 j16 K) a h = j15g l1 j16 K (a 7) (a 8) (a 9) (a 10) h := by kernel_rfl
theorem u11 (p : j15 K (a 7) (a 8) (a 9) (a 10) h) : I c11 (q4 l1 j16 K) a h := ICx.to p (j15_ok l1 j16)
theorem j14_ok (l3 : G6) (j15 : G4) (l1 : G4) (j16 : G3) : I c23 (q8 l3 j15 l1 j16 K) a h = j14g l3 j15 l1 j16 K (a 7) (a 8) (a 9) (a 10) (a 13) (a 14) h := by kernel_rfl
theorem u23 (p : j14 K (a 7) (a 8) (a 9) (a 10) (a 13) (a 14) h) : I c23 (q8 l3 j15 l1 j16 K) a h := ICx.to p (j14_ok l3 j15 l1 j16)
theorem j13_ok (j14 : G6) (l3 : G6) (j15 : G4) (l1 : G4) (j16 : G3) : I c24 (q9 j14 l3 j15 l1 j16 K) a h = j13g j14 l3 j15 l1 j16 K (a 7) (a 8) (a 9) (a 10) (a 13) (a 14) h := by kernel_rfl
theorem u24 (p : j13 K (a 7) (a 8) (a 9) (a 10) (a 13) (a 14) h) : I c24 (q9 j14 l3 j15 l1 j16 K) a h := ICx.to p (j13_ok j14 l3 j15 l1 j16)
theorem u22 (p : j13 K (a 7) (a 8) (a 9) (a 10) (a 13) (a 14) h) : I c22 (q8 l3 j15 l1 j16 K) a h := ICx.sq (fun _ _ => u23) (u24 p)
theorem b3_ok (j13 : G6) (l3 : G6) (j15 : G4) (l1 : G4) (j16 : G3) : I c25 (q10 j13 l3 j15 l1 j16 K) a h = b3g j13 l3 j15 l1 j16 K (a 7) (a 8) (a 9) (a 10) (a 13) (a 14) h := by kernel_rfl
theorem u25 (p : b3 K (a 7) (a 8) (a 9) (a 10) (a 13) (a 14) h) : I c25 (q10 j13 l3 j15 l1 j16 K) a h := ICx.to p (b3_ok j13 l3 j15 l1 j16)
theorem u21 (p : b3 K (a 7) (a 8) (a 9) (a 10) (a 13) (a 14) h) : I c21 (q8 l3 j15 l1 j16 K) a h := ICx.sq (fun _ _ => u22) (u25 p)
theorem u20 (p : l3 K (a 7) (a 8) (a 9) (a 10) (a 13) (a 14) h) : I c20 (q7 j15 l1 j16 K) a h := ICx.lp (p a rfl rfl rfl rfl rfl rfl)
theorem l3_round {x7 x8 x9 x10 x13 x14 : IV} (p : b3 K x7 x8 x9 x10 x13 x14 h) : l3 K x7 x8 x9 x10 x13 x14 h := by
  intro a e7 e8 e9 e10 e13 e14
  subst e7; subst e8; subst e9; subst e10; subst e13; subst e14; exact ICx.round Try.mixed (D := D) (L := fun a h => l3 K (a 7) (a 8) (a 9) (a 10) (a 13) (a 14) h) (fun a h p => p a rfl rfl rfl rfl rfl rfl) (u21 p)
theorem u19 (p : l3 K (a 7) (a 8) (a 9) (a 10) (a 13) (a 14) h) : I c19 (q6 j15 l1 j16 K) a h := ICx.blk (u20 p)
theorem j12_ok (l3 : G6) (j15 : G4) (l1 : G4) (j16 : G3) : I c26 (q11 l3 j15 l1 j16 K) a h = j12g l3 j15 l1 j16 K (a 7) (a 8) (a 9) (a 10) (a 13) h := by kernel_rfl
theorem u26 (p : j12 K (a 7) (a 8) (a 9) (a 10) (a 13) h) : I c26 (q11 l3 j15 l1 j16 K) a h := ICx.to p (j12_ok l3 j15 l1 j16)
theorem u18 (p : j12 K (a 7) (a 8) (a 9) (a 10) (a 13) h) : I c18 (q6 j15 l1 j16 K) a h := ICx.sq (fun _ _ => u19) (u26 p)
theorem j11_ok (j12 : G5) (j15 : G4) (l1 : G4) (j16 : G3) : I c27 (q12 j12 j15 l1 j16 K) a h = j11g j12 j15 l1 j16 K (a 7) (a 8) (a 9) (a 10) (a 11) h := by kernel_rfl
theorem u27 (p : j11 K (a 7) (a 8) (a 9) (a 10) (a 11) h) : I c27 (q12 j12 j15 l1 j16 K) a h := ICx.to p (j11_ok j12 j15 l1 j16)
theorem u17 (p : j11 K (a 7) (a 8) (a 9) (a 10) (a 11) h) : I c17 (q6 j15 l1 j16 K) a h := ICx.sq (fun _ _ => u18) (u27 p)
theorem j10_ok (j11 : G5) (j15 : G4) (l1 : G4) (j16 : G3) : I c28 (q13 j11 j15 l1 j16 K) a h = j10g j11 j15 l1 j16 K (a 7) (a 8) (a 9) (a 10) (a 11) h := by kernel_rfl
theorem u28 (p : j10 K (a 7) (a 8) (a 9) (a 10) (a 11) h) : I c28 (q13 j11 j15 l1 j16 K) a h := ICx.to p (j10_ok j11 j15 l1 j16)
theorem u16 (p : j10 K (a 7) (a 8) (a 9) (a 10) (a 11) h) : I c16 (q6 j15 l1 j16 K) a h := ICx.sq (fun _ _ => u17) (u28 p)
theorem j9_ok (l2 : G6) (j10 : G5) (j15 : G4) (l1 : G4) (j16 : G3) : I c34 (q16 l2 j10 j15 l1 j16 K) a h = j9g l2 j10 j15 l1 j16 K (a 7) (a 8) (a 9) (a 10) (a 11) (a 12) h := by kernel_rfl
theorem u34 (p : j9 K (a 7) (a 8) (a 9) (a 10) (a 11) (a 12) h) : I c34 (q16 l2 j10 j15 l1 j16 K) a h := ICx.to p (j9_ok l2 j10 j15 l1 j16)
theorem j8_ok (j9 : G6) (l2 : G6) (j10 : G5) (j15 : G4) (l1 : G4) (j16 : G3) : I c35 (q17 j9 l2 j10 j15 l1 j16 K) a h = j8g j9 l2 j10 j15 l1 j16 K (a 7) (a 8) (a 9) (a 10) (a 11) (a 12) h := by kernel_rfl
theorem u35 (p : j8 K (a 7) (a 8) (a 9) (a 10) (a 11) (a 12) h) : I c35 (q17 j9 l2 j10 j15 l1 j16 K) a h := ICx.to p (j8_ok j9 l2 j10 j15 l1 j16)
theorem u33 (p : j8 K (a 7) (a 8) (a 9) (a 10) (a 11) (a 12) h) : I c33 (q16 l2 j10 j15 l1 j16 K) a h := ICx.sq (fun _ _ => u34) (u35 p)
theorem b2_ok (j8 : G6) (l2 : G6) (j10 : G5) (j15 : G4) (l1 : G4) (j16 : G3) : I c36 (q18 j8 l2 j10 j15 l1 j16 K) a h = b2g j8 l2 j10 j15 l1 j16 K (a 7) (a 8) (a 9) (a 10) (a 11) (a 12) h := by kernel_rfl
theorem u36 (p : b2 K (a 7) (a 8) (a 9) (a 10) (a 11) (a 12) h) : I c36 (q18 j8 l2 j10 j15 l1 j16 K) a h := ICx.to p (b2_ok j8 l2 j10 j15 l1 j16)
theorem u32 (p : b2 K (a 7) (a 8) (a 9) (a 10) (a 11) (a 12) h) : I c32 (q16 l2 j10 j15 l1 j16 K) a h := ICx.sq (fun _ _ => u33) (u36 p)
theorem u31 (p : l2 K (a 7) (a 8) (a 9) (a 10) (a 11) (a 12) h) : I c31 (q15 j10 j15 l1 j16 K) a h := ICx.lp (p a rfl rfl rfl rfl rfl rfl)
theorem l2_round {x7 x8 x9 x10 x11 x12 : IV} (p : b2 K x7 x8 x9 x10 x11 x12 h) : l2 K x7 x8 x9 x10 x11 x12 h := by
  intro a e7 e8 e9 e10 e11 e12
  subst e7; subst e8; subst e9; subst e10; subst e11; subst e12; exact ICx.round Try.mixed (D := D) (L := fun a h => l2 K (a 7) (a 8) (a 9) (a 10) (a 11) (a 12) h) (fun a h p => p a rfl rfl rfl rfl rfl rfl) (u32 p)
theorem u30 (p : l2 K (a 7) (a 8) (a 9) (a 10) (a 11) (a 12) h) : I c30 (q14 j10 j15 l1 j16 K) a h := ICx.blk (u31 p)
theorem j7_ok (l2 : G6) (j10 : G5) (j15 : G4) (l1 : G4) (j16 : G3) : I c37 (q19 l2 j10 j15 l1 j16 K) a h = j7g l2 j10 j15 l1 j16 K (a 7) (a 8) (a 9) (a 10) (a 11) h := by kernel_rfl
theorem u37 (p : j7 K (a 7) (a 8) (a 9) (a 10) (a 11) h) : I c37 (q19 l2 j10 j15 l1 j16 K) a h := ICx.to p (j7_ok l2 j10 j15 l1 j16)
theorem u29 (p : j7 K (a 7) (a 8) (a 9) (a 10) (a 11) h) : I c29 (q14 j10 j15 l1 j16 K) a h := ICx.sq (fun _ _ => u30) (u37 p)
theorem u15 (p : j7 K (a 7) (a 8) (a 9) (a 10) (a 11) h) : I c15 (q6 j15 l1 j16 K) a h := ICx.sq (fun _ _ => u16) (u29 p)
theorem j6_ok (j7 : G5) (j15 : G4) (l1 : G4) (j16 : G3) : I c38 (q20 j7 j15 l1 j16 K) a h = j6g j7 j15 l1 j16 K (a 7) (a 8) (a 9) (a 10) (a 11) h := by kernel_rfl
theorem u38 (p : j6 K (a 7) (a 8) (a 9) (a 10) (a 11) h) : I c38 (q20 j7 j15 l1 j16 K) a h := ICx.to p (j6_ok j7 j15 l1 j16)
theorem u14 (p : j6 K (a 7) (a 8) (a 9) (a 10) (a 11) h) : I c14 (q6 j15 l1 j16 K) a h := ICx.sq (fun _ _ => u15) (u38 p)
theorem j5_ok (j6 : G5) (j15 : G4) (l1 : G4) (j16 : G3) : I c39 (q21 j6 j15 l1 j16 K) a h = j5g j6 j15 l1 j16 K (a 7) (a 8) (a 9) (a 10) h := by kernel_rfl
theorem u39 (p : j5 K (a 7) (a 8) (a 9) (a 10) h) : I c39 (q21 j6 j15 l1 j16 K) a h := ICx.to p (j5_ok j6 j15 l1 j16)
theorem u13 (p : j5 K (a 7) (a 8) (a 9) (a 10) h) : I c13 (q6 j15 l1 j16 K) a h := ICx.sq (fun _ _ => u14) (u39 p)
theorem u12 (p : j5 K (a 7) (a 8) (a 9) (a 10) h) : I c12 (q5 j15 l1 j16 K) a h := ICx.blk (u13 p)
theorem u10 (p : j5 K (a 7) (a 8) (a 9) (a 10) h) : I c10 (q4 l1 j16 K) a h := ICx.sq (fun _ _ => u11) (u12 p)
theorem b1_ok (j5 : G4) (l1 : G4) (j16 : G3) : I c40 (q22 j5 l1 j16 K) a h = b1g j5 l1 j16 K (a 7) (a 8) (a 9) (a 10) h := by kernel_rfl
theorem u40 (p : b1 K (a 7) (a 8) (a 9) (a 10) h) : I c40 (q22 j5 l1 j16 K) a h := ICx.to p (b1_ok j5 l1 j16)
theorem u9 (p : b1 K (a 7) (a 8) (a 9) (a 10) h) : I c9 (q4 l1 j16 K) a h := ICx.sq (fun _ _ => u10) (u40 p)
theorem u8 (p : l1 K (a 7) (a 8) (a 9) (a 10) h) : I c8 (q3 j16 K) a h := ICx.lp (p a rfl rfl rfl rfl)
theorem l1_round {x7 x8 x9 x10 : IV} (p : b1 K x7 x8 x9 x10 h) : l1 K x7 x8 x9 x10 h := by
  intro a e7 e8 e9 e10
  subst e7; subst e8; subst e9; subst e10; exact ICx.round Try.mixed (D := D) (L := fun a h => l1 K (a 7) (a 8) (a 9) (a 10) h) (fun a h p => p a rfl rfl rfl rfl) (u9 p)
theorem u7 (p : l1 K (a 7) (a 8) (a 9) (a 10) h) : I c7 (q2 j16 K) a h := ICx.blk (u8 p)
theorem j4_ok (l1 : G4) (j16 : G3) : I c41 (q23 l1 j16 K) a h = j4g l1 j16 K (a 7) (a 8) (a 9) h := by kernel_rfl
theorem u41 (p : j4 K (a 7) (a 8) (a 9) h) : I c41 (q23 l1 j16 K) a h := ICx.to p (j4_ok l1 j16)
theorem u6 (p : j4 K (a 7) (a 8) (a 9) h) : I c6 (q2 j16 K) a h := ICx.sq (fun _ _ => u7) (u41 p)
theorem u4 (p : j4 K (a 7) (a 8) (a 9) h) : I c4 (q1 K) a h := ICx.sq (fun _ _ => u5) (u6 p)
theorem j3_ok (j4 : G3) : I c42 (q24 j4 K) a h = j3g j4 K (a 7) (a 8) h := by kernel_rfl
theorem u42 (p : j3 K (a 7) (a 8) h) : I c42 (q24 j4 K) a h := ICx.to p (j3_ok j4)
theorem u3 (p : j3 K (a 7) (a 8) h) : I c3 (q1 K) a h := ICx.sq (fun _ _ => u4) (u42 p)
theorem j2_ok (j3 : G2) : I c43 (q25 j3 K) a h = j2g j3 K (a 0) (a 1) (a 2) h := by kernel_rfl
theorem u43 (p : j2 K (a 0) (a 1) (a 2) h) : I c43 (q25 j3 K) a h := ICx.to p (j2_ok j3)
theorem u2 (p : j2 K (a 0) (a 1) (a 2) h) : I c2 (q1 K) a h := ICx.sq (fun _ _ => u3) (u43 p)
theorem j1_ok (j2 : G3) : I c44 (q26 j2 K) a h = j1g j2 K (a 0) (a 1) (a 2) h := by kernel_rfl
theorem u44 (p : j1 K (a 0) (a 1) (a 2) h) : I c44 (q26 j2 K) a h := ICx.to p (j1_ok j2)
theorem u1 (p : j1 K (a 0) (a 1) (a 2) h) : I c1 (q1 K) a h := ICx.sq (fun _ _ => u2) (u44 p)
theorem e_ok (j1 : G3) : I c45 (q27 j1 K) a h = eg j1 K (a 0) (a 1) (a 2) h := by kernel_rfl
theorem u45 (p : e K (a 0) (a 1) (a 2) h) : I c45 (q27 j1 K) a h := ICx.to p (e_ok j1)
theorem u0 (p : e K (a 0) (a 1) (a 2) h) : I c0 (q1 K) a h := ICx.sq (fun _ _ => u1) (u45 p)
theorem call {x0 x1 x2 : IV} (p : e K x0 x1 x2 h) : Z5 PP Z4s [x0, x1, x2] h K :=
  ICx.fn Try.mixed Try.func6 rfl (Nat.le_of_ble_eq_true rfl) (u0 (a := actI [x0, x1, x2]) p)
end ZG
namespace ZM
def D : Nat → DI
  | 12 => ⟨[0, 1, 3, 7, 15, 31, 63, 127, 255, 511, 1023, 2047, 4095, 8191, 16383, 32767, 65535, 131071, 262143, 524287, 524287, 1572863, 3670015, 7864319, 16777215, 524287, 67108863, 134217727], [0, 1, 2, 3, 4, 5, 6, 7, 8, 9, 10, 11, 12, 13, 14, 15, 16, 17, 18, 19, 20, 21, 22, 23, 25, 24, 26, 27], []⟩
  | 13 => ⟨[0, 1, 3, 7, 15, 31, 63, 63, 191, 447, 959, 2047, 63, 8191, 16383], [0, 1, 2, 3, 4, 5, 6, 7, 8, 9, 10, 12, 11, 13, 14], []⟩
  | 20 => ⟨[0, 0, 0, 6, 14, 31, 0, 127], [0, 1, 2, 3, 4, 6, 5, 7], []⟩
  | _ => ⟨[], [], []⟩
abbrev I := ICx PP 142 D
def c0 : Code := bodyN Try.f7
def c1 : Code := cR c0
def c2 : Code := cR c1
def c3 : Code := cR c2
def c4 : Code := cR c3
def c5 : Code := cR c4
def c6 : Code := cR c5
def c7 : Code := cR c6
def c8 : Code := cR c7
def c9 : Code := cR c8
def c10 : Code := cL c8
def c11 : Code := cR c10
def c12 : Code := cL c11
def c13 : Code := cL c12
def c14 : Code := cR c13
def c15 : Code := cR c14
def c16 : Code := cL c14
def c17 : Code := cL c13
def c18 : Code := cL c10
def c19 : Code := cL c7
def c20 : Code := cL c6
def c21 : Code := cR c20
def c22 : Code := cL c21
def c23 : Code := cL c22
def c24 : Code := cR c23
def c25 : Code := cR c24
def c26 : Code := cL c24
def c27 : Code := cL c26
def c28 : Code := cR c27
def c29 : Code := cR c28
def c30 : Code := cR c29
def c31 : Code := cL c29
def c32 : Code := cL c28
def c33 : Code := cL c27
def c34 : Code := cL c23
def c35 : Code := cL c20
def c36 : Code := cL c5
def c37 : Code := cL c4
def c38 : Code := cL c3
def c39 : Code := cL c2
def c40 : Code := cL c1
def c41 : Code := cL c0
abbrev q1 (K : KT) : QT := finK PP Try.f7.results.toList K
def j16 (K : KT) (h : Heap) : Prop :=
 Z5 PP Z1b [] h fun v1 h1 =>
 oV v1 h1 fun v2 =>
 Zd PP [.v v2] h1 K
abbrev q2 (j16 : G0) (K : KT) : QT := Z4 (fun a h => j16 K h) (q1 K)
abbrev q3 (j16 : G0) (K : KT) : QT := Zq 2 (q2 j16 K)
def l2 (K : KT) (x4 x11 x15 x16 : IV) (h : Heap) : Prop := ∀ a : IAct, a 4 = x4 → a 11 = x11 → a 15 = x15 → a 16 = x16 → ILoop PP 142 c13 (q3 j16 K) a h
abbrev q4 (l2 : G4) (j16 : G0) (K : KT) : QT := Z4 (fun a h => l2 K (a 4) (a 11) (a 15) (a 16) h) (q3 j16 K)
def j15g (l2 : G4) (j16 : G0) (K : KT) (x4 x11 x15 x16 : IV) (h : Heap) : Prop :=
 oV x16 h fun v1 =>
 oD (Z7 PP .add Z0 v1 (.int .i64 1)) h fun v2 =>
 oV v2 h fun v3 =>
 l2 K x4 x11 x15 v3 h
abbrev j15 : G4 := j15g l2 j16
abbrev q5 (j15 : G4) (l2 : G4) (j16 : G0) (K : KT) : QT := Z4 (fun a h => j15 K (a 4) (a 11) (a 15) (a 16) h) (q4 l2 j16 K)
def j14g (j15 : G4) (l2 : G4) (j16 : G0) (K : KT) (x4 x11 x15 x16 : IV) (h : Heap) : Prop :=
 oD (Z1 PP Z6 x11 h) h fun v1 =>
 oV x15 h fun v2 =>
 oV x16 h fun v3 =>
 oD (Zf PP Zk v2 v3 h) h fun v4 =>
 oD (Z1 PP Z0 v4 h) h fun v5 =>
 oV x4 h fun v6 =>
 Z5 PP Z1l [v1, v5] h fun v7 h1 => oB (True) <|
 oD (Z7 PP .neq Z0 v7 v6) h1 fun v8 =>
 bK' v8
   (oV (.bool false) h1 fun v9 =>
   Zd PP [.v v9] h1 K)
   (j15 K x4 x11 x15 x16 h1)
abbrev j14 : G4 := j14g j15 l2 j16
abbrev q6 (j14 : G4) (l2 : G4) (j16 : G0) (K : KT) : QT := Z4 (fun a h => j14 K (a 4) (a 11) (a 15) (a 16) h) (q4 l2 j16 K)
def b2g (j14 : G4) (l2 : G4) (j16 : G0) (K : KT) (x4 x11 x15 x16 : IV) (h : Heap) : Prop :=
 oV x16 h fun v1 =>
 oV x15 h fun v2 =>
 oD (lenI PP Zk v2) h fun v3 =>
 oD (Z7 PP .lss Z0 v1 v3) h fun v4 =>
 bK' v4
   (j14 K x4 x11 x15 x16 h)
   (j16 K h)
abbrev b2 : G4 := b2g j14 l2 j16
abbrev q7 (l2 : G4) (j16 : G0) (K : KT) : QT := Z4 (fun a h => l2 K (a 4) (a 11) (a 15) (a 16) h) (q2 j16 K)
def j13g (l2 : G4) (j16 : G0) (K : KT) (x4 x11 x15 : IV) (h : Heap) : Prop :=
 oV (.int .i64 0) h fun v1 =>
 l2 K x4 x11 x15 v1 h
abbrev j13 : G3 := j13g l2 j16
abbrev q8 (j13 : G3) (K : KT) : QT := Z4 (fun a h => j13 K (a 4) (a 11) (a 15) h) (q1 K)
def j12g (j13 : G3) (K : KT) (x4 x11 x12 : IV) (h : Heap) : Prop :=
 oD (Z1 PP Z6 x11 h) h fun v1 =>
 oD (Z1 PP Z3 x12 h) h fun v2 =>
 Z5 PP Z2f [v1, v2] h fun v3 h1 =>
 oV v3 h1 fun v4 =>
 j13 K x4 x11 v4 h1
abbrev j12 : G3 := j12g j13
abbrev q9 (j12 : G3) (K : KT) : QT := Z4 (fun a h => j12 K (a 4) (a 11) (a 12) h) (q1 K)
abbrev q10 (j12 : G3) (K : KT) : QT := Zq 0 (q9 j12 K)
def l1 (K : KT) (x4 x11 x12 x13 : IV) (h : Heap) : Prop := ∀ a : IAct, a 4 = x4 → a 11 = x11 → a 12 = x12 → a 13 = x13 → ILoop PP 142 c23 (q10 j12 K) a h
abbrev q11 (l1 : G4) (j12 : G3) (K : KT) : QT := Z4 (fun a h => l1 K (a 4) (a 11) (a 12) (a 13) h) (q10 j12 K)
def j11g (l1 : G4) (j12 : G3) (K : KT) (x4 x11 x12 x13 : IV) (h : Heap) : Prop :=
 oV x13 h fun v1 =>
 oD (Z7 PP .add Z0 v1 (.int .i64 1)) h fun v2 =>
 oV v2 h fun v3 =>
 l1 K x4 x11 x12 v3 h
abbrev j11 : G4 := j11g l1 j12
abbrev q12 (j11 : G4) (l1 : G4) (j12 : G3) (K : KT) : QT := Z4 (fun a h => j11 K (a 4) (a 11) (a 12) (a 13) h) (q11 l1 j12 K)
abbrev q13 (j11 : G4) (l1 : G4) (j12 : G3) (K : KT) : QT := Zq 1 (q12 j11 l1 j12 K)
def j10g (j11 : G4) (l1 : G4) (j12 : G3) (K : KT) (x4 x11 x12 x13 x14 : IV) (h : Heap) : Prop :=
 oV x14 h fun v1 =>
 oV x14 h fun v2 =>
 oV x14 h fun v3 =>
 oV x14 h fun v4 =>
 oV x14 h fun v5 =>
 oP sT (nilI v5 h) h fun v6 =>
 oD (Z2 PP Za v6 3) h fun v7 =>
 oD (Z1 PP Z0 v7 h) h fun v8 =>
 oP sT (nilI v1 h) h fun v9 =>
 oD (Z2 PP Za v9 2) h fun v10 =>
 oS (Z9 PP Z0 v10 v8 h) h fun h1 =>
 oP sT (nilI v2 h1) h1 fun v11 =>
 oD (Z2 PP Za v11 3) h1 fun v12 =>
 oS (Z9 PP Z0 v12 (.int .i64 (-1)) h1) h1 fun h2 =>
 oP sT (nilI v3 h2) h2 fun v13 =>
 oD (Z2 PP Za v13 4) h2 fun v14 =>
 oS (Z9 PP Z0 v14 (.int .i64 (-1)) h2) h2 fun h3 =>
 oP sT (nilI v4 h3) h3 fun v15 =>
 oD (Z2 PP Za v15 5) h3 fun v16 =>
 oS (Z9 PP Z0 v16 (.int .i64 (-1)) h3) h3 fun h4 =>
 j11 K x4 x11 x12 x13 h4
abbrev j10 : G5 := j10g j11 l1 j12
abbrev q14 (j10 : G5) (j11 : G4) (l1 : G4) (j12 : G3) (K : KT) : QT := Z4 (fun a h => j10 K (a 4) (a 11) (a 12) (a 13) (a 14) h) (q13 j11 l1 j12 K)
def j9g (j10 : G5) (j11 : G4) (l1 : G4) (j12 : G3) (K : KT) (x4 x11 x12 x13 x14 : IV) (h : Heap) : Prop :=
 oV x14 h fun v1 =>
 oP sT (nilI v1 h) h fun v2 =>
 oD (Z2 PP Za v2 3) h fun v3 =>
 oD (Z1 PP Z0 v3 h) h fun v4 =>
 oD (Z7 PP .lss Z0 v4 (.int .i64 0)) h fun v5 =>
 oV v5 h fun v6 =>
 oG (gW v6 false) (Z1 PP Z6 x11 h) h fun v7 =>
 oG (gW v6 false) (some x14) h fun v8 =>
 oP (gW v6 false) (nilI v8 h) h fun v9 =>
 oG (gW v6 false) (Z2 PP Za v9 3) h fun v10 =>
 oG (gW v6 false) (Z1 PP Z0 v10 h) h fun v11 =>
 oG (gW v6 false) (some x4) h fun v12 =>
 Zm PP (gW v6 false) Z1l [v7, v11] h fun v13 h1 => oB (True) <|
 oG (gW v6 false) (Z7 PP .eql Z0 v13 v12) h1 fun v14 =>
 oP sT (Ze v6 (.bool true) v14 h1) h1 fun v15 =>
 bK' v15
   (oV (.bool false) h1 fun v16 =>
   Zd PP [.v v16] h1 K)
   (j10 K x4 x11 x12 x13 x14 h1)
abbrev j9 : G5 := j9g j10 j11 l1 j12
abbrev q15 (j9 : G5) (j11 : G4) (l1 : G4) (j12 : G3) (K : KT) : QT := Z4 (fun a h => j9 K (a 4) (a 11) (a 12) (a 13) (a 14) h) (q13 j11 l1 j12 K)
def j8g (j9 : G5) (j11 : G4) (l1 : G4) (j12 : G3) (K : KT) (x4 x11 x12 x13 x14 : IV) (h : Heap) : Prop :=
 oV x14 h fun v1 =>
 oP sT (nilI v1 h) h fun v2 =>
 oD (Z2 PP Za v2 0) h fun v3 =>
 oD (Z1 PP Zy v3 h) h fun v4 =>
 oD (unI .not v4) h fun v5 =>
 oV v5 h fun v6 =>
 oG (gW v6 false) (some x14) h fun v7 =>
 oP (gW v6 false) (nilI v7 h) h fun v8 =>
 oG (gW v6 false) (Z2 PP Za v8 1) h fun v9 =>
 oG (gW v6 false) (Z1 PP Zy v9 h) h fun v10 =>
 oP sT (Ze v6 (.bool true) v10 h) h fun v11 =>
 oV v11 h fun v12 =>
 oG (gW v12 false) (some x14) h fun v13 =>
 oP (gW v12 false) (nilI v13 h) h fun v14 =>
 oG (gW v12 false) (Z2 PP Za v14 2) h fun v15 =>
 oG (gW v12 false) (Z1 PP Z0 v15 h) h fun v16 =>
 oG (gW v12 false) (Z7 PP .lss Z0 v16 (.int .i64 0)) h fun v17 =>
 oP sT (Ze v12 (.bool true) v17 h) h fun v18 =>
 oV v18 h fun v19 =>
 oG (gW v19 false) (Z1 PP Z6 x11 h) h fun v20 =>
 oG (gW v19 false) (some x14) h fun v21 =>
 oP (gW v19 false) (nilI v21 h) h fun v22 =>
 oG (gW v19 false) (Z2 PP Za v22 2) h fun v23 =>
 oG (gW v19 false) (Z1 PP Z0 v23 h) h fun v24 =>
 oG (gW v19 false) (some x4) h fun v25 =>
 Zm PP (gW v19 false) Z1l [v20, v24] h fun v26 h1 => oB (True) <|
 oG (gW v19 false) (Z7 PP .neq Z0 v26 v25) h1 fun v27 =>
 oP sT (Ze v19 (.bool true) v27 h1) h1 fun v28 =>
 bK' v28
   (j11 K x4 x11 x12 x13 h1)
   (j9 K x4 x11 x12 x13 x14 h1)
abbrev j8 : G5 := j8g j9 j11 l1 j12
abbrev q16 (j8 : G5) (j11 : G4) (l1 : G4) (j12 : G3) (K : KT) : QT := Z4 (fun a h => j8 K (a 4) (a 11) (a 12) (a 13) (a 14) h) (q13 j11 l1 j12 K)
def j7g (j8 : G5) (j11 : G4) (l1 : G4) (j12 : G3) (K : KT) (x4 x11 x12 x13 : IV) (h : Heap) : Prop :=
 oD (Z2 PP Z3 x12 2) h fun v1 =>
 oD (Z1 PP Zh v1 h) h fun v2 =>
 oV x13 h fun v3 =>
 oD (Zf PP Zh v2 v3 h) h fun v4 =>
 oV v4 h fun v5 =>
 j8 K x4 x11 x12 x13 v5 h
abbrev j7 : G4 := j7g j8 j11 l1 j12
abbrev q17 (j7 : G4) (l1 : G4) (j12 : G3) (K : KT) : QT := Z4 (fun a h => j7 K (a 4) (a 11) (a 12) (a 13) h) (q11 l1 j12 K)
def b1g (j7 : G4) (l1 : G4) (j12 : G3) (K : KT) (x4 x11 x12 x13 : IV) (h : Heap) : Prop :=
 oV x13 h fun v1 =>
 oD (Z2 PP Z3 x12 2) h fun v2 =>
 oD (Z1 PP Zh v2 h) h fun v3 =>
 oD (lenI PP Zh v3) h fun v4 =>
 oD (Z7 PP .lss Z0 v1 v4) h fun v5 =>
 bK' v5
   (j7 K x4 x11 x12 x13 h)
   (j12 K x4 x11 x12 h)
abbrev b1 : G4 := b1g j7 l1 j12
abbrev q18 (l1 : G4) (j12 : G3) (K : KT) : QT := Z4 (fun a h => l1 K (a 4) (a 11) (a 12) (a 13) h) (q9 j12 K)
def j6g (l1 : G4) (j12 : G3) (K : KT) (x4 x11 x12 : IV) (h : Heap) : Prop :=
 oV (.int .i64 0) h fun v1 =>
 l1 K x4 x11 x12 v1 h
abbrev j6 : G3 := j6g l1 j12
abbrev q19 (j6 : G3) (K : KT) : QT := Z4 (fun a h => j6 K (a 4) (a 11) (a 12) h) (q1 K)
def j5g (j6 : G3) (K : KT) (x4 x11 x12 : IV) (h : Heap) : Prop :=
 oA (ZA PP Zh 0 [] h) h fun v1 h1 =>
 oD (Z2 PP Z3 x12 2) h1 fun v2 =>
 oD (Z1 PP Zh v2 h1) h1 fun v3 =>
 oA (ZJ PP Zh Zh v1 v3 h1) h1 fun v4 h2 =>
 oD (Z2 PP Z3 x12 2) h2 fun v5 =>
 oS (Z9 PP Zh v5 v4 h2) h2 fun h3 =>
 j6 K x4 x11 x12 h3
abbrev j5 : G3 := j5g j6
abbrev q20 (j5 : G3) (K : KT) : QT := Z4 (fun a h => j5 K (a 4) (a 11) (a 12) h) (q1 K)
def j4g (j5 : G3) (K : KT) (x4 x11 x12 : IV) (h : Heap) : Prop :=
 oD (Z1 PP Z6 x11 h) h fun v1 =>
 oD (Z1 PP Z3 x12 h) h fun v2 =>
 oV x4 h fun v3 =>
 Z5 PP Z23 [v1, v2, v3] h fun v4 h1 =>
 oD (unI .not v4) h1 fun v5 =>
 bK' v5
   (Z5 PP Z1b [] h1 fun v6 h2 =>
   oV v6 h2 fun v7 =>
   Zd PP [.v v7] h2 K)
   (j5 K x4 x11 x12 h1)
abbrev j4 : G3 := j4g j5
abbrev q21 (j4 : G3) (K : KT) : QT := Z4 (fun a h => j4 K (a 4) (a 11) (a 12) h) (q1 K)
def j3g (j4 : G3) (K : KT) (x4 x11 x12 : IV) (h : Heap) : Prop :=
 oV x4 h fun v1 =>
 oD (Z2 PP Z6 x11 0) h fun v2 =>
 oD (Z1 PP Z0 v2 h) h fun v3 =>
 Z5 PP Z1I [v1, v3] h fun v4 h1 =>
 oV v4 h1 fun v5 =>
 j4 K v5 x11 x12 h1
abbrev j3 : G3 := j3g j4
abbrev q22 (j3 : G3) (K : KT) : QT := Z4 (fun a h => j3 K (a 4) (a 11) (a 12) h) (q1 K)
def j2g (j3 : G3) (K : KT) (x0 x1 x2 x3 x4 : IV) (h : Heap) : Prop :=
 oV x0 h fun v1 =>
 oV x1 h fun v2 =>
 oV x2 h fun v3 =>
 oV x3 h fun v4 =>
 Z5 PP Z1P [v1, v2, v3, v4] h fun v5 h1 =>
 oV v5 h1 fun v6 =>
 oD (Zg v6 0) h1 fun v7 =>
 oD (Zg v6 1) h1 fun v8 =>
 oA (Zp PP Z6 h1) h1 fun v9 h2 =>
 oA (Zp PP Z3 h2) h2 fun v10 h3 =>
 oS (Z9 PP Z6 v9 v7 h3) h3 fun h4 =>
 oS (Z9 PP Z3 v10 v8 h4) h4 fun h5 =>
 j3 K x4 v9 v10 h5
abbrev j2 : G5 := j2g j3
abbrev q23 (j2 : G5) (K : KT) : QT := Z4 (fun a h => j2 K (a 0) (a 1) (a 2) (a 3) (a 4) h) (q1 K)
def j1g (j2 : G5) (K : KT) (x0 x1 x2 x3 x4 : IV) (h : Heap) : Prop :=
 oV x0 h fun v1 =>
 Z5 PP Z1O [v1] h fun v2 h1 =>
 oD (unI .not v2) h1 fun v3 =>
 oV v3 h1 fun v4 =>
 oG (gW v4 false) (some x1) h1 fun v5 =>
 oG (gW v4 false) (lenI PP Zh v5) h1 fun v6 =>
 oG (gW v4 false) (Z7 PP .gtr Z0 v6 (.int .i64 10)) h1 fun v7 =>
 oP sT (Ze v4 (.bool true) v7 h1) h1 fun v8 =>
 oV v8 h1 fun v9 =>
 oG (gW v9 false) (some x2) h1 fun v10 =>
 oG (gW v9 false) (lenI PP Zl v10) h1 fun v11 =>
 oG (gW v9 false) (Z7 PP .gtr Z0 v11 (.int .i64 20)) h1 fun v12 =>
 oP sT (Ze v9 (.bool true) v12 h1) h1 fun v13 =>
 bK' v13
   (Z5 PP Z1b [] h1 fun v14 h2 =>
   oV v14 h2 fun v15 =>
   Zd PP [.v v15] h2 K)
   (j2 K x0 x1 x2 x3 x4 h1)
abbrev j1 : G5 := j1g j2
abbrev q24 (j1 : G5) (K : KT) : QT := Z4 (fun a h => j1 K (a 0) (a 1) (a 2) (a 3) (a 4) h) (q1 K)
def eg (j1 : G5) (K : KT) (x0 x1 x2 x3 x4 : IV) (h : Heap) : Prop :=
 oV (.bool false) h fun v1 =>
 j1 K x0 x1 x2 x3 x4 h
abbrev e : G5 := eg j1
theorem u9 (p : j16 K h) : I c9 (q1 K) a h := ICx.to p
theorem j15_ok (l2 : G4) (j16 : G0) : I c15 (q4 l2 j16 K) a h = j15g l2 j16 K (a 4) (a 11) (a 15) (a 16) h := by kernel_rfl
theorem u15 (p : j15 K (a 4) (a 11) (a 15) (a 16) h) : I c15 (q4 l2 j16 K) a h := ICx.to p (j15_ok l2 j16)
theorem j14_ok (j15 : G4) (l2 : G4) (j16 : G0) : I c16 (q5 j15 l2 j16 K) a h = j14g j15 l2 j16 K (a 4) (a 11) (a 15) (a 16) h := by kernel_rfl
theorem u16 (p : j14 K (a 4) (a 11) (a 15) (a 16) h) : I c16 (q5 j15 l2 j16 K) a h := ICx.to p (j14_ok j15 l2 j16)
theorem u14 (p : j14 K (a 4) (a 11) (a 15) (a 16) h) : I c14 (q4 l2 j16 K) a h := ICx.sq (fun _ _ => u15) (u16 p)
theorem b2_ok (j14 : G4) (l2 : G4) (j16 : G0) : I c17 (q6 j14 l2 j16 K) a h = b2g j14 l2 j16 K (a 4) (a 11) (a 15) (a 16) h := by kernel_rfl
theorem u17 (p : b2 K (a 4) (a 11) (a 15) (a 16) h) : I c17 (q6 j14 l2 j16 K) a h := ICx.to p (b2_ok j14 l2 j16)
theorem u13 (p : b2 K (a 4) (a 11) (a 15) (a 16) h) : I c13 (q4 l2 j16 K) a h := ICx.sq (fun _ _ => u14) (u17 p)
theorem u12 (p : l2 K (a 4) (a 11) (a 15) (a 16) h) : I c12 (q3 j16 K) a h := ICx.lp (p a rfl rfl rfl rfl)
theorem l2_round {x4 x11 x15 x16 : IV} (p : b2 K x4 x11 x15 x16 h) : l2 K x4 x11 x15 x16 h := by
  intro a e4 e11 e15 e16
  subst e4; subst e11; subst e15; subst e16; exact ICx.round Try.mixed (D := D) (L := fun a h => l2 K (a 4) (a 11) (a 15) (a 16) h) (fun a h p => p a rfl rfl rfl rfl) (u13 p)
theorem u11 (p : l2 K (a 4) (a 11) (a 15) (a 16) h) : I c11 (q2 j16 K) a h := ICx.blk (u12 p)
theorem j13_ok (l2 : G4) (j16 : G0) : I c18 (q7 l2 j16 K) a h = j13g l2 j16 K (a 4) (a 11) (a 15) h := by kernel_rfl
theorem u18 (p : j13 K (a 4) (a 11) (a 15) h) : I c18 (q7 l2 j16 K) a h := ICx.to p (j13_ok l2 j16)
theorem u10 (p : j13 K (a 4) (a 11) (a 15) h) : I c10 (q2 j16 K) a h := ICx.sq (fun _ _ => u11) (u18 p)
theorem u8 (p : j13 K (a 4) (a 11) (a 15) h) : I c8 (q1 K) a h := ICx.sq (fun _ _ => u9) (u10 p)
theorem j12_ok (j13 : G3) : I c19 (q8 j13 K) a h = j12g j13 K (a 4) (a 11) (a 12) h := by kernel_rfl
theorem u19 (p : j12 K (a 4) (a 11) (a 12) h) : I c19 (q8 j13 K) a h := ICx.to p (j12_ok j13)
theorem u7 (p : j12 K (a 4) (a 11) (a 12) h) : I c7 (q1 K) a h := ICx.sq (fun _ _ => u8) (u19 p)
theorem j11_ok (l1 : G4) (j12 : G3) : I c25 (q11 l1 j12 K) a h = j11g l1 j12 K (a 4) (a 11) (a 12) (a 13) h := by kernel_rfl
theorem u25 (p : j11 K (a 4) (a 11) (a 12) (a 13) h) : I c25 (q11 l1 j12 K) a h := ICx.to p (j11_ok l1 j12)
theorem j10_ok (j11 : G4) (l1 : G4) (j12 : G3) : I c30 (q13 j11 l1 j12 K) a h = j10g j11 l1 j12 K (a 4) (a 11) (a 12) (a 13) (a 14) h := by kernel_rfl
theorem u30 (p : j10 K (a 4) (a 11) (a 12) (a 13) (a 14) h) : I c30 (q13 j11 l1 j12 K) a h := ICx.to p (j10_ok j11 l1 j12)
theorem j9_ok (j10 : G5) (j11 : G4) (l1 : G4) (j12 : G3) : I c31 (q14 j10 j11 l1 j12 K) a h = j9g j10 j11 l1 j12 K (a 4) (a 11) (a 12) (a 13) (a 14) h := by kernel_rfl
theorem u31 (p : j9 K (a 4) (a 11) (a 12) (a 13) (a 14) h) : I c31 (q14 j10 j11 l1 j12 K) a h := ICx.to p (j9_ok j10 j11 l1 j12)
theorem u29 (p : j9 K (a 4) (a 11) (a 12) (a 13) (a 14) h) : I c29 (q13 j11 l1 j12 K) a h := ICx.sq (fun _ _ => u30) (u31 p)
theorem j8_ok (j9 : G5) (j11 : G4) (l1 : G4) (j12 : G3) : I c32 (q15 j9 j11 l1 j12 K) a h = j8g j9 j11 l1 j12 K (a 4) (a 11) (a 12) (a 13) (a 14) h := by kernel_rfl
theorem u32 (p : j8 K (a 4) (a 11) (a 12) (a 13) (a 14) h) : I c32 (q15 j9 j11 l1 j12 K) a h := ICx.to p (j8_ok j9 j11 l1 j12)
theorem u28 (p : j8 K (a 4) (a 11) (a 12) (a 13) (a 14) h) : I c28 (q13 j11 l1 j12 K) a h := ICx.sq (fun _ _ => u29) (u32 p)
theorem j7_ok (j8 : G5) (j11 : G4) (l1 : G4) (j12 : G3) : I c33 (q16 j8 j11 l1 j12 K) a h = j7g j8 j11 l1 j12 K (a 4) (a 11) (a 12) (a 13) h := by kernel_rfl
theorem u33 (p : j7 K (a 4) (a 11) (a 12) (a 13) h) : I c33 (q16 j8 j11 l1 j12 K) a h := ICx.to p (j7_ok j8 j11 l1 j12)
theorem u27 (p : j7 K (a 4) (a 11) (a 12) (a 13) h) : I c27 (q13 j11 l1 j12 K) a h := ICx.sq (fun _ _ => u28) (u33 p)
theorem u26 (p : j7 K (a 4) (a 11) (a 12) (a 13) h) : I c26 (q12 j11 l1 j12 K) a h := ICx.blk (u27 p)
theorem u24 (p : j7 K (a 4) (a 11) (a 12) (a 13) h) : I c24 (q11 l1 j12 K) a h := ICx.sq (fun _ _ => u25) (u26 p)
theorem b1_ok (j7 : G4) (l1 : G4) (j12 : G3) : I c34 (q17 j7 l1 j12 K) a h = b1g j7 l1 j12 K (a 4) (a 11) (a 12) (a 13) h := by kernel_rfl
theorem u34 (p : b1 K (a 4) (a 11) (a 12) (a 13) h) : I c34 (q17 j7 l1 j12 K) a h := ICx.to p (b1_ok j7 l1 j12)
theorem u23 (p : b1 K (a 4) (a 11) (a 12) (a 13) h) : I c23 (q11 l1 j12 K) a h := ICx.sq (fun _ _ => u24) (u34 p)
theorem u22 (p : l1 K (a 4) (a 11) (a 12) (a 13) h) : I c22 (q10 j12 K) a h := ICx.lp (p a rfl rfl rfl rfl)
theorem l1_round {x4 x11 x12 x13 : IV} (p : b1 K x4 x11 x12 x13 h) : l1 K x4 x11 x12 x13 h := by
  intro a e4 e11 e12 e13
  subst e4; subst e11; subst e12; subst e13; exact ICx.round Try.mixed (D := D) (L := fun a h => l1 K (a 4) (a 11) (a 12) (a 13) h) (fun a h p => p a rfl rfl rfl rfl) (u23 p)
theorem u21 (p : l1 K (a 4) (a 11) (a 12) (a 13) h) : I c21 (q9 j12 K) a h := ICx.blk (u22 p)
theorem j6_ok (l1 : G4) (j12 : G3) : I c35 (q18 l1 j12 K) a h = j6g l1 j12 K (a 4) (a 11) (a 12) h := by kernel_rfl
theorem u35 (p : j6 K (a 4) (a 11) (a 12) h) : I c35 (q18 l1 j12 K) a h := ICx.to p (j6_ok l1 j12)
theorem u20 (p : j6 K (a 4) (a 11) (a 12) h) : I c20 (q9 j12 K) a h := ICx.sq (fun _ _ => u21) (u35 p)
theorem u6 (p : j6 K (a 4) (a 11) (a 12) h) : I c6 (q1 K) a h := ICx.sq (fun _ _ => u7) (u20 p)
theorem j5_ok (j6 : G3) : I c36 (q19 j6 K) a h = j5g j6 K (a 4) (a 11) (a 12) h := by kernel_rfl
theorem u36 (p : j5 K (a 4) (a 11) (a 12) h) : I c36 (q19 j6 K) a h := ICx.to p (j5_ok j6)
theorem u5 (p : j5 K (a 4) (a 11) (a 12) h) : I c5 (q1 K) a h := ICx.sq (fun _ _ => u6) (u36 p)
theorem j4_ok (j5 : G3) : I c37 (q20 j5 K) a h = j4g j5 K (a 4) (a 11) (a 12) h := by kernel_rfl
theorem u37 (p : j4 K (a 4) (a 11) (a 12) h) : I c37 (q20 j5 K) a h := ICx.to p (j4_ok j5)
theorem u4 (p : j4 K (a 4) (a 11) (a 12) h) : I c4 (q1 K) a h := ICx.sq (fun _ _ => u5) (u37 p)
theorem j3_ok (j4 : G3) : I c38 (q21 j4 K) a h = j3g j4 K (a 4) (a 11) (a 12) h := by kernel_rfl
theorem u38 (p : j3 K (a 4) (a 11) (a 12) h) : I c38 (q21 j4 K) a h := ICx.to p (j3_ok j4)
theorem u3 (p : j3 K (a 4) (a 11) (a 12) h) : I c3 (q1 K) a h := ICx.sq (fun _ _ => u4) (u38 p)
theorem j2_ok (j3 : G3) : I c39 (q22 j3 K) a h = j2g j3 K (a 0) (a 1) (a 2) (a 3) (a 4) h := by kernel_rfl
theorem u39 (p : j2 K (a 0) (a 1) (a 2) (a 3) (a 4) h) : I c39 (q22 j3 K) a h := ICx.to p (j2_ok j3)
theorem u2 (p : j2 K (a 0) (a 1) (a 2) (a 3) (a 4) h) : I c2 (q1 K) a h := ICx.sq (fun _ _ => u3) (u39 p)
theorem j1_ok (j2 : G5) : I c40 (q23 j2 K) a h = j1g j2 K (a 0) (a 1) (a 2) (a 3) (a 4) h := by kernel_rfl
theorem u40 (p : j1 K (a 0) (a 1) (a 2) (a 3) (a 4) h) : I c40 (q23 j2 K) a h := ICx.to p (j1_ok j2)
theorem u1 (p : j1 K (a 0) (a 1) (a 2) (a 3) (a 4) h) : I c1 (q1 K) a h := ICx.sq (fun _ _ => u2) (u40 p)
theorem e_ok (j1 : G5) : I c41 (q24 j1 K) a h = eg j1 K (a 0) (a 1) (a 2) (a 3) (a 4) h := by kernel_rfl
theorem u41 (p : e K (a 0) (a 1) (a 2) (a 3) (a 4) h) : I c41 (q24 j1 K) a h := ICx.to p (e_ok j1)
theorem u0 (p : e K (a 0) (a 1) (a 2) (a 3) (a 4) h) : I c0 (q1 K) a h := ICx.sq (fun _ _ => u1) (u41 p)
theorem call {x0 x1 x2 x3 x4 : IV} (p : e K x0 x1 x2 x3 x4 h) : Z5 PP Z4t [x0, x1, x2, x3, x4] h K :=
  ICx.fn Try.mixed Try.func7 rfl (Nat.le_of_ble_eq_true rfl) (u0 (a := actI [x0, x1, x2, x3, x4]) p)
end ZM
namespace Z14
def D : Nat → DI
  | 4 => ⟨[0, 1, 0, 4, 15, 31], [0, 1, 2, 3, 4, 5], []⟩
  | 5 => ⟨[0, 0, 3, 0, 0, 0, 63, 127, 255], [0, 1, 3, 4, 5, 2, 6, 7, 8], []⟩
  | 11 => ⟨[0, 0, 3, 7, 0, 0, 48, 112, 255, 511, 1023, 1023, 4095, 8191, 1023, 17407, 1023, 115711, 246783, 508927, 1048575, 2097151], [0, 1, 2, 3, 4, 5, 6, 7, 8, 9, 10, 11, 12, 13, 14, 15, 16, 17, 18, 19, 20, 21], []⟩
  | _ => ⟨[], [], []⟩
abbrev I := ICx PP 77 D
def c0 : Code := bodyN Try.f8
def c1 : Code := cR c0
def c2 : Code := cR c1
def c3 : Code := cR c2
def c4 : Code := cR c3
def c5 : Code := cR c4
def c6 : Code := cR c5
def c7 : Code := cR c6
def c8 : Code := cL c6
def c9 : Code := cR c8
def c10 : Code := cL c9
def c11 : Code := cL c10
def c12 : Code := cR c11
def c13 : Code := cR c12
def c14 : Code := cL c12
def c15 : Code := cL c11
def c16 : Code := cL c8
def c17 : Code := cL c5
def c18 : Code := cL c4
def c19 : Code := cL c3
def c20 : Code := cL c2
def c21 : Code := cL c1
def c22 : Code := cL c0
abbrev q1 (K : KT) : QT := finK PP Try.f8.results.toList K
def j9 (K : KT) (h : Heap) : Prop :=
 oV (.bool true) h fun v1 =>
 Zd PP [.v v1] h K
abbrev q2 (j9 : G0) (K : KT) : QT := Z4 (fun a h => j9 K h) (q1 K)
abbrev q3 (j9 : G0) (K : KT) : QT := Zq 0 (q2 j9 K)
def l1 (K : KT) (x5 x7 x8 x9 : IV) (h : Heap) : Prop := ∀ a : IAct, a 5 = x5 → a 7 = x7 → a 8 = x8 → a 9 = x9 → ILoop PP 77 c11 (q3 j9 K) a h
abbrev q4 (l1 : G4) (j9 : G0) (K : KT) : QT := Z4 (fun a h => l1 K (a 5) (a 7) (a 8) (a 9) h) (q3 j9 K)
def j8g (l1 : G4) (j9 : G0) (K : KT) (x5 x7 x8 x9 : IV) (h : Heap) : Prop :=
 oV x9 h fun v1 =>
 oD (Z7 PP .add Z0 v1 (.int .i64 1)) h fun v2 =>
 oV v2 h fun v3 =>
 l1 K x5 x7 x8 v3 h
abbrev j8 : G4 := j8g l1 j9
abbrev q5 (j8 : G4) (l1 : G4) (j9 : G0) (K : KT) : QT := Z4 (fun a h => j8 K (a 5) (a 7) (a 8) (a 9) h) (q4 l1 j9 K)
def j7g (j8 : G4) (l1 : G4) (j9 : G0) (K : KT) (x5 x7 x8 x9 : IV) (h : Heap) : Prop :=
 oV x8 h fun v1 =>
 oV x9 h fun v2 =>
 oD (Zf PP Zk v1 v2 h) h fun v3 =>
 oD (Z1 PP Z0 v3 h) h fun v4 =>
 oV x7 h fun v5 =>
 oV x9 h fun v6 =>
 oD (Zf PP Zk v5 v6 h) h fun v7 =>
 oD (Z1 PP Z0 v7 h) h fun v8 =>
 oD (Z7 PP .gtr Z0 v4 v8) h fun v9 =>
 oV v9 h fun v10 =>
 oG (gW v10 false) (some x7) h fun v11 =>
 oG (gW v10 false) (some x9) h fun v12 =>
 oG (gW v10 false) (Zf PP Zk v11 v12 h) h fun v13 =>
 oG (gW v10 false) (Z1 PP Z0 v13 h) h fun v14 =>
 oG (gW v10 false) (Z2 PP Z6 x5 2) h fun v15 =>
 oG (gW v10 false) (Z1 PP Zn v15 h) h fun v16 =>
 oG (gW v10 false) (some x9) h fun v17 =>
 oG (gW v10 false) (Zf PP Zn v16 v17 h) h fun v18 =>
 oG (gW v10 false) (Z2 PP Zz v18 1) h fun v19 =>
 oG (gW v10 false) (Z1 PP Z0 v19 h) h fun v20 =>
 oG (gW v10 false) (Z7 PP .gtr Z0 v14 v20) h fun v21 =>
 oP sT (Ze v10 (.bool true) v21 h) h fun v22 =>
 bK' v22
   (oV (.bool false) h fun v23 =>
   Zd PP [.v v23] h K)
   (j8 K x5 x7 x8 x9 h)
abbrev j7 : G4 := j7g j8 l1 j9
abbrev q6 (j7 : G4) (l1 : G4) (j9 : G0) (K : KT) : QT := Z4 (fun a h => j7 K (a 5) (a 7) (a 8) (a 9) h) (q4 l1 j9 K)
def b1g (j7 : G4) (l1 : G4) (j9 : G0) (K : KT) (x5 x7 x8 x9 : IV) (h : Heap) : Prop :=
 oV x9 h fun v1 =>
 oV x7 h fun v2 =>
 oD (lenI PP Zk v2) h fun v3 =>
 oD (Z7 PP .lss Z0 v1 v3) h fun v4 =>
 bK' v4
   (j7 K x5 x7 x8 x9 h)
   (j9 K h)
abbrev b1 : G4 := b1g j7 l1 j9
abbrev q7 (l1 : G4) (j9 : G0) (K : KT) : QT := Z4 (fun a h => l1 K (a 5) (a 7) (a 8) (a 9) h) (q2 j9 K)
def j6g (l1 : G4) (j9 : G0) (K : KT) (x5 x7 x8 : IV) (h : Heap) : Prop :=
 oV (.int .i64 0) h fun v1 =>
 l1 K x5 x7 x8 v1 h
abbrev j6 : G3 := j6g l1 j9
abbrev q8 (j6 : G3) (K : KT) : QT := Z4 (fun a h => j6 K (a 5) (a 7) (a 8) h) (q1 K)
def j5g (j6 : G3) (K : KT) (x5 x7 x8 : IV) (h : Heap) : Prop :=
 Z5 PP Z1b [] h fun v1 h1 =>
 oD (unI .not v1) h1 fun v2 =>
 oV v2 h1 fun v3 =>
 oG (gW v3 false) (some x7) h1 fun v4 =>
 oG (gW v3 false) (lenI PP Zk v4) h1 fun v5 =>
 oG (gW v3 false) (Z2 PP Z6 x5 2) h1 fun v6 =>
 oG (gW v3 false) (Z1 PP Zn v6 h1) h1 fun v7 =>
 oG (gW v3 false) (lenI PP Zn v7) h1 fun v8 =>
 oG (gW v3 false) (Z7 PP .neq Z0 v5 v8) h1 fun v9 =>
 oP sT (Ze v3 (.bool true) v9 h1) h1 fun v10 =>
 oV v10 h1 fun v11 =>
 oG (gW v11 false) (some x8) h1 fun v12 =>
 oG (gW v11 false) (lenI PP Zk v12) h1 fun v13 =>
 oG (gW v11 false) (Z2 PP Z6 x5 2) h1 fun v14 =>
 oG (gW v11 false) (Z1 PP Zn v14 h1) h1 fun v15 =>
 oG (gW v11 false) (lenI PP Zn v15) h1 fun v16 =>
 oG (gW v11 false) (Z7 PP .neq Z0 v13 v16) h1 fun v17 =>
 oP sT (Ze v11 (.bool true) v17 h1) h1 fun v18 =>
 bK' v18
   (oV (.bool false) h1 fun v19 =>
   Zd PP [.v v19] h1 K)
   (j6 K x5 x7 x8 h1)
abbrev j5 : G3 := j5g j6
abbrev q9 (j5 : G3) (K : KT) : QT := Z4 (fun a h => j5 K (a 5) (a 7) (a 8) h) (q1 K)
def j4g (j5 : G3) (K : KT) (x1 x5 x6 : IV) (h : Heap) : Prop :=
 oD (Z1 PP Z6 x5 h) h fun v1 =>
 oD (Z1 PP Z3 x6 h) h fun v2 =>
 oD (Z1 PP Z6 x5 h) h fun v3 =>
 oD (Z1 PP Z3 x6 h) h fun v4 =>
 oV x1 h fun v5 =>
 Z5 PP Z1z [v1, v2] h fun v6 h1 => oB ((Zb (Z1 PP Z3 x6 h1) v4 h1) ∧ (Zb (Z1 PP Z6 x5 h1) v3 h1) ∧ True) <|
 Z5 PP Z24 [v3, v4, v5] h1 fun v7 h2 => oB (True) <|
 oV v6 h2 fun v8 =>
 oV v7 h2 fun v9 =>
 j5 K x5 v8 v9 h2
abbrev j4 : G3 := j4g j5
abbrev q10 (j4 : G3) (K : KT) : QT := Z4 (fun a h => j4 K (a 1) (a 5) (a 6) h) (q1 K)
def j3g (j4 : G3) (K : KT) (x1 x5 x6 : IV) (h : Heap) : Prop :=
 oD (Z2 PP Z3 x6 0) h fun v1 =>
 oD (Z1 PP Z0 v1 h) h fun v2 =>
 oV x1 h fun v3 =>
 Z5 PP Z1I [v3, .int .i64 30] h fun v4 h1 => oB ((Zb (Z1 PP Z0 v1 h1) v2 h1) ∧ True) <|
 oD (Z7 PP .add Z0 v2 v4) h1 fun v5 =>
 oV v5 h1 fun v6 =>
 j4 K v6 x5 x6 h1
abbrev j3 : G3 := j3g j4
abbrev q11 (j3 : G3) (K : KT) : QT := Z4 (fun a h => j3 K (a 1) (a 5) (a 6) h) (q1 K)
def j2g (j3 : G3) (K : KT) (x0 x1 : IV) (h : Heap) : Prop :=
 oV x0 h fun v1 =>
 Z5 PP Z1P [v1, .snil, .snil, .bool false] h fun v2 h1 =>
 oV v2 h1 fun v3 =>
 oD (Zg v3 0) h1 fun v4 =>
 oD (Zg v3 1) h1 fun v5 =>
 oA (Zp PP Z6 h1) h1 fun v6 h2 =>
 oA (Zp PP Z3 h2) h2 fun v7 h3 =>
 oS (Z9 PP Z6 v6 v4 h3) h3 fun h4 =>
 oS (Z9 PP Z3 v7 v5 h4) h4 fun h5 =>
 j3 K x1 v6 v7 h5
abbrev j2 : G2 := j2g j3
abbrev q12 (j2 : G2) (K : KT) : QT := Z4 (fun a h => j2 K (a 0) (a 1) h) (q1 K)
def j1g (j2 : G2) (K : KT) (x0 x1 : IV) (h : Heap) : Prop :=
 oV x0 h fun v1 =>
 Z5 PP Z1O [v1] h fun v2 h1 =>
 oD (unI .not v2) h1 fun v3 =>
 bK' v3
   (Z5 PP Z1b [] h1 fun v4 h2 =>
   oV v4 h2 fun v5 =>
   Zd PP [.v v5] h2 K)
   (j2 K x0 x1 h1)
abbrev j1 : G2 := j1g j2
abbrev q13 (j1 : G2) (K : KT) : QT := Z4 (fun a h => j1 K (a 0) (a 1) h) (q1 K)
def eg (j1 : G2) (K : KT) (x0 x1 : IV) (h : Heap) : Prop :=
 oV (.bool false) h fun v1 =>
 j1 K x0 x1 h
abbrev e : G2 := eg j1
theorem u7 (p : j9 K h) : I c7 (q1 K) a h := ICx.to p
theorem j8_ok (l1 : G4) (j9 : G0) : I c13 (q4 l1 j9 K) a h = j8g l1 j9 K (a 5) (a 7) (a 8) (a 9) h := by kernel_rfl
theorem u13 (p : j8 K (a 5) (a 7) (a 8) (a 9) h) : I c13 (q4 l1 j9 K) a h := ICx.to p (j8_ok l1 j9)
theorem j7_ok (j8 : G4) (l1 : G4) (j9 : G0) : I c14 (q5 j8 l1 j9 K) a h = j7g j8 l1 j9 K (a 5) (a 7) (a 8) (a 9) h := by kernel_rfl
theorem u14 (p : j7 K (a 5) (a 7) (a 8) (a 9) h) : I c14 (q5 j8 l1 j9 K) a h := ICx.to p (j7_ok j8 l1 j9)
theorem u12 (p : j7 K (a 5) (a 7) (a 8) (a 9) h) : I c12 (q4 l1 j9 K) a h := ICx.sq (fun _ _ => u13) (u14 p)
theorem b1_ok (j7 : G4) (l1 : G4) (j9 : G0) : I c15 (q6 j7 l1 j9 K) a h = b1g j7 l1 j9 K (a 5) (a 7) (a 8) (a 9) h := by kernel_rfl
theorem u15 (p : b1 K (a 5) (a 7) (a 8) (a 9) h) : I c15 (q6 j7 l1 j9 K) a h := ICx.to p (b1_ok j7 l1 j9)
theorem u11 (p : b1 K (a 5) (a 7) (a 8) (a 9) h) : I c11 (q4 l1 j9 K) a h := ICx.sq (fun _ _ => u12) (u15 p)
theorem u10 (p : l1 K (a 5) (a 7) (a 8) (a 9) h) : I c10 (q3 j9 K) a h := ICx.lp (p a rfl rfl rfl rfl)
theorem l1_round {x5 x7 x8 x9 : IV} (p : b1 K x5 x7 x8 x9 h) : l1 K x5 x7 x8 x9 h := by
  intro a e5 e7 e8 e9
  subst e5; subst e7; subst e8; subst e9; exact ICx.round Try.mixed (D := D) (L := fun a h => l1 K (a 5) (a 7) (a 8) (a 9) h) (fun a h p => p a rfl rfl rfl rfl) (u11 p)
theorem u9 (p : l1 K (a 5) (a 7) (a 8) (a 9) h) : I c9 (q2 j9 K) a h := ICx.blk (u10 p)
theorem j6_ok (l1 : G4) (j9 : G0) : I c16 (q7 l1 j9 K) a h = j6g l1 j9 K (a 5) (a 7) (a 8) h := by kernel_rfl
theorem u16 (p : j6 K (a 5) (a 7) (a 8) h) : I c16 (q7 l1 j9 K) a h := ICx.to p (j6_ok l1 j9)
theorem u8 (p : j6 K (a 5) (a 7) (a 8) h) : I c8 (q2 j9 K) a h := ICx.sq (fun _ _ => u9) (u16 p)
theorem u6 (p : j6 K (a 5) (a 7) (a 8) h) : I c6 (q1 K) a h := ICx.sq (fun _ _ => u7) (u8 p)
theorem j5_ok (j6 : G3) : I c17 (q8 j6 K) a h = j5g j6 K (a 5) (a 7) (a 8) h := by kernel_rfl
theorem u17 (p : j5 K (a 5) (a 7) (a 8) h) : I c17 (q8 j6 K) a h := ICx.to p (j5_ok j6)
theorem u5 (p : j5 K (a 5) (a 7) (a 8) h) : I c5 (q1 K) a h := ICx.sq (fun _ _ => u6) (u17 p)
theorem j4_ok (j5 : G3) : I c18 (q9 j5 K) a h = j4g j5 K (a 1) (a 5) (a 6) h := by kernel_rfl
theorem u18 (p : j4 K (a 1) (a 5) (a 6) h) : I c18 (q9 j5 K) a h := ICx.to p (j4_ok j5)
theorem u4 (p : j4 K (a 1) (a 5) (a 6) h) : I c4 (q1 K) a h := ICx.sq (fun _ _ => u5) (u18 p)
theorem j3_ok (j4 : G3) : I c19 (q10 j4 K) a h = j3g j4 K (a 1) (a 5) (a 6) h := by kernel_rfl
theorem u19 (p : j3 K (a 1) (a 5) (a 6) h) : I c19 (q10 j4 K) a h := ICx.to p (j3_ok j4)
theorem u3 (p : j3 K (a 1) (a 5) (a 6) h) : I c3 (q1 K) a h := ICx.sq (fun _ _ => u4) (u19 p)
theorem j2_ok (j3 : G3) : I c20 (q11 j3 K) a h = j2g j3 K (a 0) (a 1) h := by kernel_rfl
theorem u20 (p : j2 K (a 0) (a 1) h) : I c20 (q11 j3 K) a h := ICx.to p (j2_ok j3)
theorem u2 (p : j2 K (a 0) (a 1) h) : I c2 (q1 K) a h := ICx.sq (fun _ _ => u3) (u20 p)
theorem j1_ok (j2 : G2) : I c21 (q12 j2 K) a h = j1g j2 K (a 0) (a 1) h := by kernel_rfl
theorem u21 (p : j1 K (a 0) (a 1) h) : I c21 (q12 j2 K) a h := ICx.to p (j1_ok j2)
theorem u1 (p : j1 K (a 0) (a 1) h) : I c1 (q1 K) a h := ICx.sq (fun _ _ => u2) (u21 p)
theorem e_ok (j1 : G2) : I c22 (q13 j1 K) a h = eg j1 K (a 0) (a 1) h := by kernel_rfl
theorem u22 (p : e K (a 0) (a 1) h) : I c22 (q13 j1 K) a h := ICx.to p (e_ok j1)
theorem u0 (p : e K (a 0) (a 1) h) : I c0 (q1 K) a h := ICx.sq (fun _ _ => u1) (u22 p)
theorem call {x0 x1 : IV} (p : e K x0 x1 h) : Z5 PP Z4u [x0, x1] h K :=
  ICx.fn Try.mixed Try.func8 rfl (Nat.le_of_ble_eq_true rfl) (u0 (a := actI [x0, x1]) p)
end Z14
namespace Z3X
def D : Nat → DI
  | _ => ⟨[], [], []⟩
abbrev I := ICx PP 6 D
def c0 : Code := bodyN Try.f9
abbrev q1 (K : KT) : QT := finK PP Try.f9.results.toList K
def e (K : KT) (x0 : IV) (h : Heap) : Prop :=
 oV (.bool false) h fun v1 =>
 oV x0 h fun v2 =>
 oD (lenI PP Zk v2) h fun v3 =>
 oD (Z7 PP .leq Z0 v3 (.int .i64 200)) h fun v4 =>
 oV v4 h fun v5 =>
 Zd PP [.v v5] h K
theorem u0 (p : e K (a 0) h) : I c0 (q1 K) a h := ICx.to p
theorem call {x0 : IV} (p : e K x0 h) : Z5 PP Z1O [x0] h K :=
  ICx.fn Try.mixed Try.func9 rfl (Nat.le_of_ble_eq_true rfl) (u0 (a := actI [x0]) p)
end Z3X
end
end Go.Ideal
namespace Go.Ideal
open Go.Proofs
set_option maxRecDepth 100000
noncomputable section
variable {K : KT} {a : IAct} {h : Heap}
namespace Z3Y
def D : Nat → DI
  | 3 => ⟨[0, 0, 3, 0, 0, 31, 63, 127], [0, 1, 3, 4, 2, 5, 6, 7], []⟩
  | _ => ⟨[], [], []⟩
abbrev I := ICx PP 81 D
def c0 : Code := bodyN Try.f10
abbrev q1 (K : KT) : QT := finK PP Try.f10.results.toList K
def e (K : KT) (h : Heap) : Prop :=
 oV (.bool false) h fun v1 =>
 oD (Zo PP ZR []) h fun v2 =>
 oD (Zo PP ZR [(0, .int .i64 1)]) h fun v3 =>
 oA (ZA PP ZK 2 [(0, v2), (1, v3)] h) h fun v4 h1 =>
 oD (Zo PP Zz [(1, .int .i64 9)]) h1 fun v5 =>
 oD (Zo PP Zz [(0, .int .i64 1), (1, .int .i64 3)]) h1 fun v6 =>
 oA (ZA PP Zn 2 [(0, v5), (1, v6)] h1) h1 fun v7 h2 =>
 oD (Zo PP Zs [(0, .int .i64 5), (1, .int .i64 2), (4, .int .i64 3)]) h2 fun v8 =>
 oA (ZA PP Zw 1 [(0, v8)] h2) h2 fun v9 h3 =>
 oD (Zo PP ZD []) h3 fun v10 =>
 oA (ZA PP ZI 1 [(0, v10)] h3) h3 fun v11 h4 =>
 oA (ZA PP Zk 1 [(0, .int .i64 0)] h4) h4 fun v12 h5 =>
 oA (ZA PP Zk 1 [(0, .int .i64 0)] h5) h5 fun v13 h6 =>
 oD (Zo PP Z6 [(0, .int .i64 2), (1, v4), (2, v7), (3, v9), (4, v11), (5, v12), (6, v13), (7, .int .i64 1), (8, .int .i64 5)]) h6 fun v14 =>
 oA (Zp PP Z6 h6) h6 fun v15 h7 =>
 oS (Z9 PP Z6 v15 v14 h7) h7 fun h8 =>
 oD (Zo PP Zj [(0, .int .i64 1)]) h8 fun v16 =>
 oD (Zo PP Zj [(0, .int .i64 1)]) h8 fun v17 =>
 oA (ZA PP Zl 2 [(0, v16), (1, v17)] h8) h8 fun v18 h9 =>
 oD (Zo PP Zu [(3, .int .i64 2), (4, .int .i64 4)]) h9 fun v19 =>
 oD (Zo PP Za [(0, .bool true), (3, .int .i64 1), (4, .int .i64 (-1)), (5, .int .i64 (-1)), (7, v19)]) h9 fun v20 =>
 oA (ZA PP Zh 1 [(0, v20)] h9) h9 fun v21 h10 =>
 oD (Zo PP Z3 [(4, .int .i64 1), (3, v18), (2, v21)]) h10 fun v22 =>
 oA (Zp PP Z3 h10) h10 fun v23 h11 =>
 oS (Z9 PP Z3 v23 v22 h11) h11 fun h12 =>
 oD (Z1 PP Z6 v15 h12) h12 fun v24 =>
 oD (Z1 PP Z3 v23 h12) h12 fun v25 =>
 oD (Z1 PP Z6 v15 h12) h12 fun v26 =>
 oD (Z1 PP Z3 v23 h12) h12 fun v27 =>
 Z5 PP Z1z [v24, v25] h12 fun v28 h13 => oB ((Zb (Z1 PP Z3 v23 h13) v27 h13) ∧ (Zb (Z1 PP Z6 v15 h13) v26 h13) ∧ True) <|
 Z5 PP Z24 [v26, v27, .int .i64 2] h13 fun v29 h14 => oB (True) <|
 oV v28 h14 fun v30 =>
 oV v29 h14 fun v31 =>
 oV v30 h14 fun v32 =>
 oD (lenI PP Zk v32) h14 fun v33 =>
 oD (Z7 PP .eql Z0 v33 (.int .i64 2)) h14 fun v34 =>
 oV v34 h14 fun v35 =>
 oG (gW v35 true) (some v30) h14 fun v36 =>
 oG (gW v35 true) (Zf PP Zk v36 (.int .i64 0) h14) h14 fun v37 =>
 oG (gW v35 true) (Z1 PP Z0 v37 h14) h14 fun v38 =>
 oG (gW v35 true) (Z7 PP .eql Z0 v38 (.int .i64 5)) h14 fun v39 =>
 oP sT (Ze v35 v39 (.bool false) h14) h14 fun v40 =>
 oV v40 h14 fun v41 =>
 oG (gW v41 true) (some v30) h14 fun v42 =>
 oG (gW v41 true) (Zf PP Zk v42 (.int .i64 1) h14) h14 fun v43 =>
 oG (gW v41 true) (Z1 PP Z0 v43 h14) h14 fun v44 =>
 oG (gW v41 true) (Z7 PP .eql Z0 v44 (.int .i64 2)) h14 fun v45 =>
 oP sT (Ze v41 v45 (.bool false) h14) h14 fun v46 =>
 oV v46 h14 fun v47 =>
 oG (gW v47 true) (Z1 PP Z6 v15 h14) h14 fun v48 =>
 oG (gW v47 true) (Z1 PP Z3 v23 h14) h14 fun v49 =>
 Zm PP (gW v47 true) Z2v [v48, v49, .int .i64 0] h14 fun v50 h15 =>
 oG (gW v47 true) (Z7 PP .eql Z0 v50 (.int .i64 4)) h15 fun v51 =>
 oP sT (Ze v47 v51 (.bool false) h15) h15 fun v52 =>
 oV v52 h15 fun v53 =>
 oG (gW v53 true) (Z1 PP Z6 v15 h15) h15 fun v54 =>
 oG (gW v53 true) (Z1 PP Z3 v23 h15) h15 fun v55 =>
 Zm PP (gW v53 true) Z2f [v54, v55] h15 fun v56 h16 =>
 oG (gW v53 true) (lenI PP Zk v56) h16 fun v57 =>
 oG (gW v53 true) (Z7 PP .eql Z0 v57 (.int .i64 0)) h16 fun v58 =>
 oP sT (Ze v53 v58 (.bool false) h16) h16 fun v59 =>
 oV v59 h16 fun v60 =>
 oG (gW v60 true) (Z1 PP Z6 v15 h16) h16 fun v61 =>
 oG (gW v60 true) (Z1 PP Z3 v23 h16) h16 fun v62 =>
 Zm PP (gW v60 true) Z23 [v61, v62, .int .i64 0] h16 fun v63 h17 =>
 oG (gW v60 true) (unI .not v63) h17 fun v64 =>
 oP sT (Ze v60 v64 (.bool false) h17) h17 fun v65 =>
 oV v65 h17 fun v66 =>
 oG (gW v66 true) (Z1 PP Z6 v15 h17) h17 fun v67 =>
 oG (gW v66 true) (Z1 PP Z3 v23 h17) h17 fun v68 =>
 Zm PP (gW v66 true) Z23 [v67, v68, .int .i64 1] h17 fun v69 h18 =>
 oP sT (Ze v66 v69 (.bool false) h18) h18 fun v70 =>
 oV v70 h18 fun v71 =>
 oG (gW v71 true) (some v31) h18 fun v72 =>
 oG (gW v71 true) (lenI PP Zk v72) h18 fun v73 =>
 oG (gW v71 true) (Z7 PP .eql Z0 v73 (.int .i64 2)) h18 fun v74 =>
 oP sT (Ze v71 v74 (.bool false) h18) h18 fun v75 =>
 oV v75 h18 fun v76 =>
 oG (gW v76 true) (some v31) h18 fun v77 =>
 oG (gW v76 true) (Zf PP Zk v77 (.int .i64 0) h18) h18 fun v78 =>
 oG (gW v76 true) (Z1 PP Z0 v78 h18) h18 fun v79 =>
 oG (gW v76 true) (Z7 PP .eql Z0 v79 (.int .i64 5)) h18 fun v80 =>
 oP sT (Ze v76 v80 (.bool false) h18) h18 fun v81 =>
 oV v81 h18 fun v82 =>
 Zd PP [.v v82] h18 K
theorem u0 (p : e K h) : I c0 (q1 K) a h := ICx.to p
theorem call (p : e K h) : Z5 PP Z1b [] h K :=
  ICx.fn Try.mixed Try.func10 rfl (Nat.le_of_ble_eq_true rfl) (u0 (a := actI []) p)
end Z3Y
namespace ZO
def D : Nat → DI
  | 7 => ⟨[0, 1, 0, 0, 0, 24, 56, 127, 255], [0, 1, 2, 3, 4, 5, 6, 7, 8], []⟩
  | 8 => ⟨[0, 1, 0, 0, 8, 0, 0, 0, 192, 448, 960, 0, 2048, 8128, 0, 0, 49152, 114688, 245760, 0, 524288, 2097088, 4194247, 8388551, 16777159, 33554431, 67108863, 134217727], [0, 1, 2, 3, 4, 5, 6, 7, 8, 9, 10, 11, 12, 14, 15, 16, 17, 18, 19, 20, 13, 21, 22, 23, 24, 25, 26, 27], []⟩
  | 9 => ⟨[0, 1, 0, 0, 8, 0, 0, 0, 192, 448, 960, 0, 2048, 8128, 0, 0, 49152, 114688, 245760, 0, 524288, 2097088, 4194247, 8388551, 16777159, 33554431, 67108863, 134217727], [0, 1, 2, 3, 4, 5, 6, 7, 8, 9, 10, 11, 12, 14, 15, 16, 17, 18, 19, 20, 13, 21, 22, 23, 24, 25, 26, 27], []⟩
  | 10 => ⟨[0, 1, 0, 0, 0, 24, 56, 120, 248, 0, 512, 2040, 4095, 8191, 16383, 32767], [0, 1, 2, 3, 4, 5, 6, 7, 8, 9, 10, 11, 12, 13, 14, 15], []⟩
  | 14 => ⟨[0, 1, 0, 0, 0, 24, 56, 127, 255], [0, 1, 2, 3, 4, 5, 6, 7, 8], []⟩
  | 15 => ⟨[0, 1, 0, 0, 0, 24, 56, 120, 248, 511, 1023, 2047], [0, 1, 2, 3, 4, 5, 6, 7, 8, 9, 10, 11], []⟩
  | 16 => ⟨[0, 0, 1, 7], [0, 1, 2, 3], []⟩
  | _ => ⟨[], [], []⟩
abbrev I := ICx PP 149 D
def c0 : Code := bodyN Try.f11
def c1 : Code := cR c0
def c2 : Code := cR c1
def c3 : Code := cR c2
def c4 : Code := cR c3
def c5 : Code := cR c4
def c6 : Code := cR c5
def c7 : Code := cL c5
def c8 : Code := cR c7
def c9 : Code := cL c8
def c10 : Code := cL c9
def c11 : Code := cR c10
def c12 : Code := cR c11
def c13 : Code := cL c11
def c14 : Code := cL c10
def c15 : Code := cL c7
def c16 : Code := cL c4
def c17 : Code := cR c16
def c18 : Code := cL c17
def c19 : Code := cL c18
def c20 : Code := cR c19
def c21 : Code := cR c20
def c22 : Code := cL c20
def c23 : Code := cL c19
def c24 : Code := cL c16
def c25 : Code := cL c3
def c26 : Code := cL c2
def c27 : Code := cL c1
def c28 : Code := cL c0
abbrev q1 (K : KT) : QT := finK PP Try.f11.results.toList K
def j10 (K : KT) (x8 x9 x10 x11 : IV) (h : Heap) : Prop :=
 oD (Z1 PP Z6 x10 h) h fun v1 =>
 oD (Z1 PP Z3 x11 h) h fun v2 =>
 oS (Z9 PP Z6 x8 v1 h) h fun h1 => oB ((Zb (Z1 PP Z3 x11 h1) v2 h1) ∧ True) <|
 oS (Z9 PP Z3 x9 v2 h1) h1 fun h2 => oB (True) <|
 Zd PP [.c x8 Z6, .c x9 Z3] h2 K
abbrev q2 (j10 : G4) (K : KT) : QT := Z4 (fun a h => j10 K (a 8) (a 9) (a 10) (a 11) h) (q1 K)
abbrev q3 (j10 : G4) (K : KT) : QT := Zq 2 (q2 j10 K)
def l2 (K : KT) (x2 x3 x8 x9 x10 x11 x12 x14 : IV) (h : Heap) : Prop := ∀ a : IAct, a 2 = x2 → a 3 = x3 → a 8 = x8 → a 9 = x9 → a 10 = x10 → a 11 = x11 → a 12 = x12 → a 14 = x14 → ILoop PP 149 c10 (q3 j10 K) a h
abbrev q4 (l2 : G8) (j10 : G4) (K : KT) : QT := Z4 (fun a h => l2 K (a 2) (a 3) (a 8) (a 9) (a 10) (a 11) (a 12) (a 14) h) (q3 j10 K)
def j9g (l2 : G8) (j10 : G4) (K : KT) (x2 x3 x8 x9 x10 x11 x12 x14 : IV) (h : Heap) : Prop :=
 oV x14 h fun v1 =>
 oD (Z7 PP .add Z0 v1 (.int .i64 1)) h fun v2 =>
 oV v2 h fun v3 =>
 l2 K x2 x3 x8 x9 x10 x11 x12 v3 h
abbrev j9 : G8 := j9g l2 j10
abbrev q5 (j9 : G8) (l2 : G8) (j10 : G4) (K : KT) : QT := Z4 (fun a h => j9 K (a 2) (a 3) (a 8) (a 9) (a 10) (a 11) (a 12) (a 14) h) (q4 l2 j10 K)
def j8g (j9 : G8) (l2 : G8) (j10 : G4) (K : KT) (x2 x3 x8 x9 x10 x11 x12 x14 : IV) (h : Heap) : Prop :=
 oD (Z2 PP Z3 x11 3) h fun v1 =>
 oD (Z1 PP Zl v1 h) h fun v2 =>
 oV x14 h fun v3 =>
 oV x2 h fun v4 =>
 oV x14 h fun v5 =>
 oD (Zf PP Zl v4 v5 h) h fun v6 =>
 oD (Z1 PP Zj v6 h) h fun v7 =>
 oD (Zf PP Zl v2 v3 h) h fun v8 =>
 oS (Z9 PP Zj v8 v7 h) h fun h1 => oB (True) <|
 oD (Z2 PP Z3 x11 3) h1 fun v9 =>
 oD (Z1 PP Zl v9 h1) h1 fun v10 =>
 oV x14 h1 fun v11 =>
 oV x2 h1 fun v12 =>
 oV x14 h1 fun v13 =>
 oD (Zf PP Zl v12 v13 h1) h1 fun v14 =>
 oD (Z2 PP Zj v14 0) h1 fun v15 =>
 oD (Z1 PP Z0 v15 h1) h1 fun v16 =>
 Z5 PP Z1v [v16, .int .i64 1, .int .i64 3] h1 fun v17 h2 => oB ((Zb (Z1 PP Zl v9 h2) v10 h2) ∧ True) <|
 oD (Zf PP Zl v10 v11 h2) h2 fun v18 =>
 oD (Z2 PP Zj v18 0) h2 fun v19 =>
 oS (Z9 PP Z0 v19 v17 h2) h2 fun h3 => oB (True) <|
 j9 K x2 x3 x8 x9 x10 x11 x12 x14 h3
abbrev j8 : G8 := j8g j9 l2 j10
abbrev q6 (j8 : G8) (l2 : G8) (j10 : G4) (K : KT) : QT := Z4 (fun a h => j8 K (a 2) (a 3) (a 8) (a 9) (a 10) (a 11) (a 12) (a 14) h) (q4 l2 j10 K)
def b2g (j8 : G8) (l2 : G8) (j10 : G4) (K : KT) (x2 x3 x8 x9 x10 x11 x12 x14 : IV) (h : Heap) : Prop :=
 oV x14 h fun v1 =>
 oV x12 h fun v2 =>
 oD (Z7 PP .lss Z0 v1 v2) h fun v3 =>
 oV v3 h fun v4 =>
 oG (gW v4 true) (some x14) h fun v5 =>
 oG (gW v4 true) (some x2) h fun v6 =>
 oG (gW v4 true) (lenI PP Zl v6) h fun v7 =>
 oG (gW v4 true) (Z7 PP .lss Z0 v5 v7) h fun v8 =>
 oP sT (Ze v4 v8 (.bool false) h) h fun v9 =>
 oV v9 h fun v10 =>
 oG (gW v10 true) (some x3) h fun v11 =>
 oP sT (Ze v10 v11 (.bool false) h) h fun v12 =>
 bK' v12
   (j8 K x2 x3 x8 x9 x10 x11 x12 x14 h)
   (j10 K x8 x9 x10 x11 h)
abbrev b2 : G8 := b2g j8 l2 j10
abbrev q7 (l2 : G8) (j10 : G4) (K : KT) : QT := Z4 (fun a h => l2 K (a 2) (a 3) (a 8) (a 9) (a 10) (a 11) (a 12) (a 14) h) (q2 j10 K)
def j7g (l2 : G8) (j10 : G4) (K : KT) (x2 x3 x8 x9 x10 x11 x12 : IV) (h : Heap) : Prop :=
 oV (.int .i64 0) h fun v1 =>
 l2 K x2 x3 x8 x9 x10 x11 x12 v1 h
abbrev j7 : G7 := j7g l2 j10
abbrev q8 (j7 : G7) (K : KT) : QT := Z4 (fun a h => j7 K (a 2) (a 3) (a 8) (a 9) (a 10) (a 11) (a 12) h) (q1 K)
abbrev q9 (j7 : G7) (K : KT) : QT := Zq 0 (q8 j7 K)
def l1 (K : KT) (x1 x2 x3 x8 x9 x10 x11 x12 x13 : IV) (h : Heap) : Prop := ∀ a : IAct, a 1 = x1 → a 2 = x2 → a 3 = x3 → a 8 = x8 → a 9 = x9 → a 10 = x10 → a 11 = x11 → a 12 = x12 → a 13 = x13 → ILoop PP 149 c19 (q9 j7 K) a h
abbrev q10 (l1 : G9) (j7 : G7) (K : KT) : QT := Z4 (fun a h => l1 K (a 1) (a 2) (a 3) (a 8) (a 9) (a 10) (a 11) (a 12) (a 13) h) (q9 j7 K)
def j6g (l1 : G9) (j7 : G7) (K : KT) (x1 x2 x3 x8 x9 x10 x11 x12 x13 : IV) (h : Heap) : Prop :=
 oV x13 h fun v1 =>
 oD (Z7 PP .add Z0 v1 (.int .i64 1)) h fun v2 =>
 oV v2 h fun v3 =>
 l1 K x1 x2 x3 x8 x9 x10 x11 x12 v3 h
abbrev j6 : G9 := j6g l1 j7
abbrev q11 (j6 : G9) (l1 : G9) (j7 : G7) (K : KT) : QT := Z4 (fun a h => j6 K (a 1) (a 2) (a 3) (a 8) (a 9) (a 10) (a 11) (a 12) (a 13) h) (q10 l1 j7 K)
def j5g (j6 : G9) (l1 : G9) (j7 : G7) (K : KT) (x1 x2 x3 x8 x9 x10 x11 x12 x13 : IV) (h : Heap) : Prop :=
 oD (Z2 PP Z3 x11 2) h fun v1 =>
 oD (Z1 PP Zh v1 h) h fun v2 =>
 oV x13 h fun v3 =>
 oV x1 h fun v4 =>
 oV x13 h fun v5 =>
 oD (Zf PP Zh v4 v5 h) h fun v6 =>
 oD (Z1 PP Za v6 h) h fun v7 =>
 oD (Zf PP Zh v2 v3 h) h fun v8 =>
 oS (Z9 PP Za v8 v7 h) h fun h1 => oB (True) <|
 oD (Z2 PP Z3 x11 2) h1 fun v9 =>
 oD (Z1 PP Zh v9 h1) h1 fun v10 =>
 oV x13 h1 fun v11 =>
 oD (Z2 PP Z3 x11 2) h1 fun v12 =>
 oD (Z1 PP Zh v12 h1) h1 fun v13 =>
 oV x13 h1 fun v14 =>
 oV x1 h1 fun v15 =>
 oV x13 h1 fun v16 =>
 oD (Zf PP Zh v15 v16 h1) h1 fun v17 =>
 oD (Z2 PP Za v17 2) h1 fun v18 =>
 oD (Z1 PP Z0 v18 h1) h1 fun v19 =>
 oV x12 h1 fun v20 =>
 oD (Z7 PP .sub Z0 v20 (.int .i64 1)) h1 fun v21 =>
 oV x1 h1 fun v22 =>
 oV x13 h1 fun v23 =>
 oD (Zf PP Zh v22 v23 h1) h1 fun v24 =>
 oD (Z2 PP Za v24 3) h1 fun v25 =>
 oD (Z1 PP Z0 v25 h1) h1 fun v26 =>
 oV x12 h1 fun v27 =>
 oD (Z7 PP .sub Z0 v27 (.int .i64 1)) h1 fun v28 =>
 Z5 PP Z1v [v19, .int .i64 (-1), v21] h1 fun v29 h2 => oB ((Zb (Z1 PP Z0 v25 h2) v26 h2) ∧ (Zb (Zf PP Zh v22 v23 h2) v24 h2) ∧ (Zb (Z1 PP Zh v12 h2) v13 h2) ∧ (Zb (Z1 PP Zh v9 h2) v10 h2) ∧ True) <|
 Z5 PP Z1v [v26, .int .i64 (-1), v28] h2 fun v30 h3 => oB ((Zb (Z1 PP Zh v12 h3) v13 h3) ∧ (Zb (Z1 PP Zh v9 h3) v10 h3) ∧ True) <|
 oD (Zf PP Zh v10 v11 h3) h3 fun v31 =>
 oD (Z2 PP Za v31 2) h3 fun v32 =>
 oS (Z9 PP Z0 v32 v29 h3) h3 fun h4 => oB ((Zb (Z1 PP Zh v12 h4) v13 h4) ∧ True) <|
 oD (Zf PP Zh v13 v14 h4) h4 fun v33 =>
 oD (Z2 PP Za v33 3) h4 fun v34 =>
 oS (Z9 PP Z0 v34 v30 h4) h4 fun h5 => oB (True) <|
 oD (Z2 PP Z3 x11 2) h5 fun v35 =>
 oD (Z1 PP Zh v35 h5) h5 fun v36 =>
 oV x13 h5 fun v37 =>
 oD (Z2 PP Z3 x11 2) h5 fun v38 =>
 oD (Z1 PP Zh v38 h5) h5 fun v39 =>
 oV x13 h5 fun v40 =>
 oV x1 h5 fun v41 =>
 oV x13 h5 fun v42 =>
 oD (Zf PP Zh v41 v42 h5) h5 fun v43 =>
 oD (Z2 PP Za v43 4) h5 fun v44 =>
 oD (Z1 PP Z0 v44 h5) h5 fun v45 =>
 oV x12 h5 fun v46 =>
 oD (Z7 PP .sub Z0 v46 (.int .i64 1)) h5 fun v47 =>
 oV x1 h5 fun v48 =>
 oV x13 h5 fun v49 =>
 oD (Zf PP Zh v48 v49 h5) h5 fun v50 =>
 oD (Z2 PP Za v50 5) h5 fun v51 =>
 oD (Z1 PP Z0 v51 h5) h5 fun v52 =>
 oV x12 h5 fun v53 =>
 oD (Z7 PP .sub Z0 v53 (.int .i64 1)) h5 fun v54 =>
 Z5 PP Z1v [v45, .int .i64 (-1), v47] h5 fun v55 h6 => oB ((Zb (Z1 PP Z0 v51 h6) v52 h6) ∧ (Zb (Zf PP Zh v48 v49 h6) v50 h6) ∧ (Zb (Z1 PP Zh v38 h6) v39 h6) ∧ (Zb (Z1 PP Zh v35 h6) v36 h6) ∧ True) <|
 Z5 PP Z1v [v52, .int .i64 (-1), v54] h6 fun v56 h7 => oB ((Zb (Z1 PP Zh v38 h7) v39 h7) ∧ (Zb (Z1 PP Zh v35 h7) v36 h7) ∧ True) <|
 oD (Zf PP Zh v36 v37 h7) h7 fun v57 =>
 oD (Z2 PP Za v57 4) h7 fun v58 =>
 oS (Z9 PP Z0 v58 v55 h7) h7 fun h8 => oB ((Zb (Z1 PP Zh v38 h8) v39 h8) ∧ True) <|
 oD (Zf PP Zh v39 v40 h8) h8 fun v59 =>
 oD (Z2 PP Za v59 5) h8 fun v60 =>
 oS (Z9 PP Z0 v60 v56 h8) h8 fun h9 => oB (True) <|
 oD (Z2 PP Z3 x11 2) h9 fun v61 =>
 oD (Z1 PP Zh v61 h9) h9 fun v62 =>
 oV x13 h9 fun v63 =>
 oV x1 h9 fun v64 =>
 oV x13 h9 fun v65 =>
 oD (Zf PP Zh v64 v65 h9) h9 fun v66 =>
 oD (Z2 PP Za v66 7) h9 fun v67 =>
 oD (Z2 PP Zu v67 0) h9 fun v68 =>
 oD (Z1 PP Z0 v68 h9) h9 fun v69 =>
 oV x12 h9 fun v70 =>
 oD (Z7 PP .sub Z0 v70 (.int .i64 1)) h9 fun v71 =>
 Z5 PP Z1v [v69, .int .i64 (-1), v71] h9 fun v72 h10 => oB ((Zb (Z1 PP Zh v61 h10) v62 h10) ∧ True) <|
 oD (Zf PP Zh v62 v63 h10) h10 fun v73 =>
 oD (Z2 PP Za v73 7) h10 fun v74 =>
 oD (Z2 PP Zu v74 0) h10 fun v75 =>
 oS (Z9 PP Z0 v75 v72 h10) h10 fun h11 => oB (True) <|
 j6 K x1 x2 x3 x8 x9 x10 x11 x12 x13 h11
abbrev j5 : G9 := j5g j6 l1 j7
abbrev q12 (j5 : G9) (l1 : G9) (j7 : G7) (K : KT) : QT := Z4 (fun a h => j5 K (a 1) (a 2) (a 3) (a 8) (a 9) (a 10) (a 11) (a 12) (a 13) h) (q10 l1 j7 K)
def b1g (j5 : G9) (l1 : G9) (j7 : G7) (K : KT) (x1 x2 x3 x8 x9 x10 x11 x12 x13 : IV) (h : Heap) : Prop :=
 oV x13 h fun v1 =>
 oD (Z2 PP Z3 x11 2) h fun v2 =>
 oD (Z1 PP Zh v2 h) h fun v3 =>
 oD (lenI PP Zh v3) h fun v4 =>
 oD (Z7 PP .lss Z0 v1 v4) h fun v5 =>
 oV v5 h fun v6 =>
 oG (gW v6 true) (some x13) h fun v7 =>
 oG (gW v6 true) (some x1) h fun v8 =>
 oG (gW v6 true) (lenI PP Zh v8) h fun v9 =>
 oG (gW v6 true) (Z7 PP .lss Z0 v7 v9) h fun v10 =>
 oP sT (Ze v6 v10 (.bool false) h) h fun v11 =>
 oV v11 h fun v12 =>
 oG (gW v12 true) (some x3) h fun v13 =>
 oP sT (Ze v12 v13 (.bool false) h) h fun v14 =>
 bK' v14
   (j5 K x1 x2 x3 x8 x9 x10 x11 x12 x13 h)
   (j7 K x2 x3 x8 x9 x10 x11 x12 h)
abbrev b1 : G9 := b1g j5 l1 j7
abbrev q13 (l1 : G9) (j7 : G7) (K : KT) : QT := Z4 (fun a h => l1 K (a 1) (a 2) (a 3) (a 8) (a 9) (a 10) (a 11) (a 12) (a 13) h) (q8 j7 K)
def j4g (l1 : G9) (j7 : G7) (K : KT) (x1 x2 x3 x8 x9 x10 x11 x12 : IV) (h : Heap) : Prop :=
 oV (.int .i64 0) h fun v1 =>
 l1 K x1 x2 x3 x8 x9 x10 x11 x12 v1 h
abbrev j4 : G8 := j4g l1 j7
abbrev q14 (j4 : G8) (K : KT) : QT := Z4 (fun a h => j4 K (a 1) (a 2) (a 3) (a 8) (a 9) (a 10) (a 11) (a 12) h) (q1 K)
def j3g (j4 : G8) (K : KT) (x1 x2 x3 x8 x9 x10 x11 : IV) (h : Heap) : Prop :=
 oD (Z2 PP Z6 x10 2) h fun v1 =>
 oD (Z1 PP Zn v1 h) h fun v2 =>
 oD (lenI PP Zn v2) h fun v3 =>
 oV v3 h fun v4 =>
 j4 K x1 x2 x3 x8 x9 x10 x11 v4 h
abbrev j3 : G7 := j3g j4
abbrev q15 (j3 : G7) (K : KT) : QT := Z4 (fun a h => j3 K (a 1) (a 2) (a 3) (a 8) (a 9) (a 10) (a 11) h) (q1 K)
def j2g (j3 : G7) (K : KT) (x0 x1 x2 x3 x8 x9 x10 : IV) (h : Heap) : Prop :=
 oV x0 h fun v1 =>
 oD (Z1 PP Z6 x10 h) h fun v2 =>
 Z5 PP Z3n [v1, v2, .int .i64 30] h fun v3 h1 =>
 oA (Zp PP Z3 h1) h1 fun v4 h2 =>
 oS (Z9 PP Z3 v4 v3 h2) h2 fun h3 =>
 j3 K x1 x2 x3 x8 x9 x10 v4 h3
abbrev j2 : G7 := j2g j3
abbrev q16 (j2 : G7) (K : KT) : QT := Z4 (fun a h => j2 K (a 0) (a 1) (a 2) (a 3) (a 8) (a 9) (a 10) h) (q1 K)
def j1g (j2 : G7) (K : KT) (x0 x1 x2 x3 x8 x9 : IV) (h : Heap) : Prop :=
 oV x0 h fun v1 =>
 Z5 PP Z3m [v1] h fun v2 h1 =>
 oA (Zp PP Z6 h1) h1 fun v3 h2 =>
 oS (Z9 PP Z6 v3 v2 h2) h2 fun h3 =>
 j2 K x0 x1 x2 x3 x8 x9 v3 h3
abbrev j1 : G6 := j1g j2
abbrev q17 (j1 : G6) (K : KT) : QT := Z4 (fun a h => j1 K (a 0) (a 1) (a 2) (a 3) (a 8) (a 9) h) (q1 K)
def eg (j1 : G6) (K : KT) (x0 x1 x2 x3 : IV) (h : Heap) : Prop :=
 oA (Zp PP Z6 h) h fun v1 h1 =>
 oA (Zp PP Z3 h1) h1 fun v2 h2 =>
 j1 K x0 x1 x2 x3 v1 v2 h2
abbrev e : G4 := eg j1
theorem u6 (p : j10 K (a 8) (a 9) (a 10) (a 11) h) : I c6 (q1 K) a h := ICx.to p
theorem j9_ok (l2 : G8) (j10 : G4) : I c12 (q4 l2 j10 K) a h = j9g l2 j10 K (a 2) (a 3) (a 8) (a 9) (a 10) (a 11) (a 12) (a 14) h := by kernel_rfl
theorem u12 (p : j9 K (a 2) (a 3) (a 8) (a 9) (a 10) (a 11) (a 12) (a 14) h) : I c12 (q4 l2 j10 K) a h := ICx.to p (j9_ok l2 j10)
theorem j8_ok (j9 : G8) (l2 : G8) (j10 : G4) : I c13 (q5 j9 l2 j10 K) a h = j8g j9 l2 j10 K (a 2) (a 3) (a 8) (a 9) (a 10) (a 11) (a 12) (a 14) h := by kernel_rfl
theorem u13 (p : j8 K (a 2) (a 3) (a 8) (a 9) (a 10) (a 11) (a 12) (a 14) h) : I c13 (q5 j9 l2 j10 K) a h := ICx.to p (j8_ok j9 l2 j10)
theorem u11 (p : j8 K (a 2) (a 3) (a 8) (a 9) (a 10) (a 11) (a 12) (a 14) h) : I c11 (q4 l2 j10 K) a h := ICx.sq (fun _ _ => u12) (u13 p)
theorem b2_ok (j8 : G8) (l2 : G8) (j10 : G4) : I c14 (q6 j8 l2 j10 K) a h = b2g j8 l2 j10 K (a 2) (a 3) (a 8) (a 9) (a 10) (a 11) (a 12) (a 14) h := by kernel_rfl
theorem u14 (p : b2 K (a 2) (a 3) (a 8) (a 9) (a 10) (a 11) (a 12) (a 14) h) : I c14 (q6 j8 l2 j10 K) a h := ICx.to p (b2_ok j8 l2 j10)
theorem u10 (p : b2 K (a 2) (a 3) (a 8) (a 9) (a 10) (a 11) (a 12) (a 14) h) : I c10 (q4 l2 j10 K) a h := ICx.sq (fun _ _ => u11) (u14 p)
theorem u9 (p : l2 K (a 2) (a 3) (a 8) (a 9) (a 10) (a 11) (a 12) (a 14) h) : I c9 (q3 j10 K) a h := ICx.lp (p a rfl rfl rfl rfl rfl rfl rfl rfl)
theorem l2_round {x2 x3 x8 x9 x10 x11 x12 x14 : IV} (p : b2 K x2 x3 x8 x9 x10 x11 x12 x14 h) : l2 K x2 x3 x8 x9 x10 x11 x12 x14 h := by
  intro a e2 e3 e8 e9 e10 e11 e12 e14
  subst e2; subst e3; subst e8; subst e9; subst e10; subst e11; subst e12; subst e14; exact ICx.round Try.mixed (D := D) (L := fun a h => l2 K (a 2) (a 3) (a 8) (a 9) (a 10) (a 11) (a 12) (a 14) h) (fun a h p => p a rfl rfl rfl rfl rfl rfl rfl rfl) (u10 p)
theorem u8 (p : l2 K (a 2) (a 3) (a 8) (a 9) (a 10) (a 11) (a 12) (a 14) h) : I c8 (q2 j10 K) a h := ICx.blk (u9 p)
theorem j7_ok (l2 : G8) (j10 : G4) : I c15 (q7 l2 j10 K) a h = j7g l2 j10 K (a 2) (a 3) (a 8) (a 9) (a 10) (a 11) (a 12) h := by kernel_rfl
theorem u15 (p : j7 K (a 2) (a 3) (a 8) (a 9) (a 10) (a 11) (a 12) h) : I c15 (q7 l2 j10 K) a h := ICx.to p (j7_ok l2 j10)
theorem u7 (p : j7 K (a 2) (a 3) (a 8) (a 9) (a 10) (a 11) (a 12) h) : I c7 (q2 j10 K) a h := ICx.sq (fun _ _ => u8) (u15 p)
theorem u5 (p : j7 K (a 2) (a 3) (a 8) (a 9) (a 10) (a 11) (a 12) h) : I c5 (q1 K) a h := ICx.sq (fun _ _ => u6) (u7 p)
theorem j6_ok (l1 : G9) (j7 : G7) : I c21 (q10 l1 j7 K) a h = j6g l1 j7 K (a 1) (a 2) (a 3) (a 8) (a 9) (a 10) (a 11) (a 12) (a 13) h := by kernel_rfl
theorem u21 (p : j6 K (a 1) (a 2) (a 3) (a 8) (a 9) (a 10) (a 11) (a 12) (a 13) h) : I c21 (q10 l1 j7 K) a h := ICx.to p (j6_ok l1 j7)
theorem j5_ok (j6 : G9) (l1 : G9) (j7 : G7) : I c22 (q11 j6 l1 j7 K) a h = j5g j6 l1 j7 K (a 1) (a 2) (a 3) (a 8) (a 9) (a 10) (a 11) (a 12) (a 13) h := by kernel_rfl
theorem u22 (p : j5 K (a 1) (a 2) (a 3) (a 8) (a 9) (a 10) (a 11) (a 12) (a 13) h) : I c22 (q11 j6 l1 j7 K) a h := ICx.to p (j5_ok j6 l1 j7)
theorem u20 (p : j5 K (a 1) (a 2) (a 3) (a 8) (a 9) (a 10) (a 11) (a 12) (a 13) h) : I c20 (q10 l1 j7 K) a h := ICx.sq (fun _ _ => u21) (u22 p)
theorem b1_ok (j5 : G9) (l1 : G9) (j7 : G7) : I c23 (q12 j5 l1 j7 K) a h = b1g j5 l1 j7 K (a 1) (a 2) (a 3) (a 8) (a 9) (a 10) (a 11) (a 12) (a 13) h := by kernel_rfl
theorem u23 (p : b1 K (a 1) (a 2) (a 3) (a 8) (a 9) (a 10) (a 11) (a 12) (a 13) h) : I c23 (q12 j5 l1 j7 K) a h := ICx.to p (b1_ok j5 l1 j7)
theorem u19 (p : b1 K (a 1) (a 2) (a 3) (a 8) (a 9) (a 10) (a 11) (a 12) (a 13) h) : I c19 (q10 l1 j7 K) a h := ICx.sq (fun _ _ => u20) (u23 p)
theorem u18 (p : l1 K (a 1) (a 2) (a 3) (a 8) (a 9) (a 10) (a 11) (a 12) (a 13) h) : I c18 (q9 j7 K) a h := ICx.lp (p a rfl rfl rfl rfl rfl rfl rfl rfl rfl)
theorem l1_round {x1 x2 x3 x8 x9 x10 x11 x12 x13 : IV} (p : b1 K x1 x2 x3 x8 x9 x10 x11 x12 x13 h) : l1 K x1 x2 x3 x8 x9 x10 x11 x12 x13 h := by
  intro a e1 e2 e3 e8 e9 e10 e11 e12 e13
  subst e1; subst e2; subst e3; subst e8; subst e9; subst e10; subst e11; subst e12; subst e13; exact ICx.round Try.mixed (D := D) (L := fun a h => l1 K (a 1) (a 2) (a 3) (a 8) (a 9) (a 10) (a 11) (a 12) (a 13) h) (fun a h p => p a rfl rfl rfl rfl rfl rfl rfl rfl rfl) (u19 p)
theorem u17 (p : l1 K (a 1) (a 2) (a 3) (a 8) (a 9) (a 10) (a 11) (a 12) (a 13) h) : I c17 (q8 j7 K) a h := ICx.blk (u18 p)
theorem j4_ok (l1 : G9) (j7 : G7) : I c24 (q13 l1 j7 K) a h = j4g l1 j7 K (a 1) (a 2) (a 3) (a 8) (a 9) (a 10) (a 11) (a 12) h := by kernel_rfl
theorem u24 (p : j4 K (a 1) (a 2) (a 3) (a 8) (a 9) (a 10) (a 11) (a 12) h) : I c24 (q13 l1 j7 K) a h := ICx.to p (j4_ok l1 j7)
theorem u16 (p : j4 K (a 1) (a 2) (a 3) (a 8) (a 9) (a 10) (a 11) (a 12) h) : I c16 (q8 j7 K) a h := ICx.sq (fun _ _ => u17) (u24 p)
theorem u4 (p : j4 K (a 1) (a 2) (a 3) (a 8) (a 9) (a 10) (a 11) (a 12) h) : I c4 (q1 K) a h := ICx.sq (fun _ _ => u5) (u16 p)
theorem j3_ok (j4 : G8) : I c25 (q14 j4 K) a h = j3g j4 K (a 1) (a 2) (a 3) (a 8) (a 9) (a 10) (a 11) h := by kernel_rfl
theorem u25 (p : j3 K (a 1) (a 2) (a 3) (a 8) (a 9) (a 10) (a 11) h) : I c25 (q14 j4 K) a h := ICx.to p (j3_ok j4)
theorem u3 (p : j3 K (a 1) (a 2) (a 3) (a 8) (a 9) (a 10) (a 11) h) : I c3 (q1 K) a h := ICx.sq (fun _ _ => u4) (u25 p)
theorem j2_ok (j3 : G7) : I c26 (q15 j3 K) a h = j2g j3 K (a 0) (a 1) (a 2) (a 3) (a 8) (a 9) (a 10) h := by kernel_rfl
theorem u26 (p : j2 K (a 0) (a 1) (a 2) (a 3) (a 8) (a 9) (a 10) h) : I c26 (q15 j3 K) a h := ICx.to p (j2_ok j3)
theorem u2 (p : j2 K (a 0) (a 1) (a 2) (a 3) (a 8) (a 9) (a 10) h) : I c2 (q1 K) a h := ICx.sq (fun _ _ => u3) (u26 p)
theorem j1_ok (j2 : G7) : I c27 (q16 j2 K) a h = j1g j2 K (a 0) (a 1) (a 2) (a 3) (a 8) (a 9) h := by kernel_rfl
theorem u27 (p : j1 K (a 0) (a 1) (a 2) (a 3) (a 8) (a 9) h) : I c27 (q16 j2 K) a h := ICx.to p (j1_ok j2)
theorem u1 (p : j1 K (a 0) (a 1) (a 2) (a 3) (a 8) (a 9) h) : I c1 (q1 K) a h := ICx.sq (fun _ _ => u2) (u27 p)
theorem e_ok (j1 : G6) : I c28 (q17 j1 K) a h = eg j1 K (a 0) (a 1) (a 2) (a 3) h := by kernel_rfl
theorem u28 (p : e K (a 0) (a 1) (a 2) (a 3) h) : I c28 (q17 j1 K) a h := ICx.to p (e_ok j1)
theorem u0 (p : e K (a 0) (a 1) (a 2) (a 3) h) : I c0 (q1 K) a h := ICx.sq (fun _ _ => u1) (u28 p)
theorem call {x0 x1 x2 x3 : IV} (p : e K x0 x1 x2 x3 h) : Z5 PP Z1P [x0, x1, x2, x3] h K :=
  ICx.fn Try.mixed Try.func11 rfl (Nat.le_of_ble_eq_true rfl) (u0 (a := actI [x0, x1, x2, x3]) p)
end ZO
namespace Z3Z
def D : Nat → DI
  | _ => ⟨[], [], []⟩
abbrev I := ICx PP 15 D
def c0 : Code := bodyN Try.f12
abbrev q1 (K : KT) : QT := finK PP Try.f12.results.toList K
def e (K : KT) (x0 x1 x2 : IV) (h : Heap) : Prop :=
 oV (.int .i64 0) h fun v1 =>
 oV x1 h fun v2 =>
 oV x0 h fun v3 =>
 oV x2 h fun v4 =>
 oV x1 h fun v5 =>
 oD (Z7 PP .sub Z0 v4 v5) h fun v6 =>
 oD (Z7 PP .add Z0 v6 (.int .i64 1)) h fun v7 =>
 Z5 PP Z1I [v3, v7] h fun v8 h1 =>
 oD (Z7 PP .add Z0 v2 v8) h1 fun v9 =>
 oV v9 h1 fun v10 =>
 Zd PP [.v v10] h1 K
theorem u0 (p : e K (a 0) (a 1) (a 2) h) : I c0 (q1 K) a h := ICx.to p
theorem call {x0 x1 x2 : IV} (p : e K x0 x1 x2 h) : Z5 PP Z1v [x0, x1, x2] h K :=
  ICx.fn Try.mixed Try.func12 rfl (Nat.le_of_ble_eq_true rfl) (u0 (a := actI [x0, x1, x2]) p)
end Z3Z
namespace Z1c
def D : Nat → DI
  | 6 => ⟨[0, 0, 3, 7, 0, 0, 48, 112, 255], [0, 1, 2, 3, 4, 5, 6, 7, 8], []⟩
  | _ => ⟨[], [], []⟩
abbrev I := ICx PP 26 D
def c0 : Code := bodyN Try.f13
def c1 : Code := cR c0
def c2 : Code := cR c1
def c3 : Code := cR c2
def c4 : Code := cL c2
def c5 : Code := cR c4
def c6 : Code := cL c5
def c7 : Code := cL c6
def c8 : Code := cR c7
def c9 : Code := cR c8
def c10 : Code := cL c8
def c11 : Code := cL c7
def c12 : Code := cL c4
def c13 : Code := cL c1
def c14 : Code := cL c0
abbrev q1 (K : KT) : QT := finK PP Try.f13.results.toList K
def j5 (K : KT) (h : Heap) : Prop :=
 oV (.bool true) h fun v1 =>
 Zd PP [.v v1] h K
abbrev q2 (j5 : G0) (K : KT) : QT := Z4 (fun a h => j5 K h) (q1 K)
abbrev q3 (j5 : G0) (K : KT) : QT := Zq 0 (q2 j5 K)
def l1 (K : KT) (x0 x1 x5 : IV) (h : Heap) : Prop := ∀ a : IAct, a 0 = x0 → a 1 = x1 → a 5 = x5 → ILoop PP 26 c7 (q3 j5 K) a h
abbrev q4 (l1 : G3) (j5 : G0) (K : KT) : QT := Z4 (fun a h => l1 K (a 0) (a 1) (a 5) h) (q3 j5 K)
def j4g (l1 : G3) (j5 : G0) (K : KT) (x0 x1 x5 : IV) (h : Heap) : Prop :=
 oV x5 h fun v1 =>
 oD (Z7 PP .add Z0 v1 (.int .i64 1)) h fun v2 =>
 oV v2 h fun v3 =>
 l1 K x0 x1 v3 h
abbrev j4 : G3 := j4g l1 j5
abbrev q5 (j4 : G3) (l1 : G3) (j5 : G0) (K : KT) : QT := Z4 (fun a h => j4 K (a 0) (a 1) (a 5) h) (q4 l1 j5 K)
def j3g (j4 : G3) (l1 : G3) (j5 : G0) (K : KT) (x0 x1 x5 : IV) (h : Heap) : Prop :=
 oV x0 h fun v1 =>
 oV x5 h fun v2 =>
 oD (Zf PP Zk v1 v2 h) h fun v3 =>
 oD (Z1 PP Z0 v3 h) h fun v4 =>
 oV x1 h fun v5 =>
 oV x5 h fun v6 =>
 oD (Zf PP Zk v5 v6 h) h fun v7 =>
 oD (Z1 PP Z0 v7 h) h fun v8 =>
 oD (Z7 PP .neq Z0 v4 v8) h fun v9 =>
 bK' v9
   (oV (.bool false) h fun v10 =>
   Zd PP [.v v10] h K)
   (j4 K x0 x1 x5 h)
abbrev j3 : G3 := j3g j4 l1 j5
abbrev q6 (j3 : G3) (l1 : G3) (j5 : G0) (K : KT) : QT := Z4 (fun a h => j3 K (a 0) (a 1) (a 5) h) (q4 l1 j5 K)
def b1g (j3 : G3) (l1 : G3) (j5 : G0) (K : KT) (x0 x1 x5 : IV) (h : Heap) : Prop :=
 oV x5 h fun v1 =>
 oV x0 h fun v2 =>
 oD (lenI PP Zk v2) h fun v3 =>
 oD (Z7 PP .lss Z0 v1 v3) h fun v4 =>
 bK' v4
   (j3 K x0 x1 x5 h)
   (j5 K h)
abbrev b1 : G3 := b1g j3 l1 j5
abbrev q7 (l1 : G3) (j5 : G0) (K : KT) : QT := Z4 (fun a h => l1 K (a 0) (a 1) (a 5) h) (q2 j5 K)
def j2g (l1 : G3) (j5 : G0) (K : KT) (x0 x1 : IV) (h : Heap) : Prop :=
 oV (.int .i64 0) h fun v1 =>
 l1 K x0 x1 v1 h
abbrev j2 : G2 := j2g l1 j5
abbrev q8 (j2 : G2) (K : KT) : QT := Z4 (fun a h => j2 K (a 0) (a 1) h) (q1 K)
def j1g (j2 : G2) (K : KT) (x0 x1 : IV) (h : Heap) : Prop :=
 oV x0 h fun v1 =>
 oD (lenI PP Zk v1) h fun v2 =>
 oV x1 h fun v3 =>
 oD (lenI PP Zk v3) h fun v4 =>
 oD (Z7 PP .neq Z0 v2 v4) h fun v5 =>
 bK' v5
   (oV (.bool false) h fun v6 =>
   Zd PP [.v v6] h K)
   (j2 K x0 x1 h)
abbrev j1 : G2 := j1g j2
abbrev q9 (j1 : G2) (K : KT) : QT := Z4 (fun a h => j1 K (a 0) (a 1) h) (q1 K)
def eg (j1 : G2) (K : KT) (x0 x1 : IV) (h : Heap) : Prop :=
 oV (.bool false) h fun v1 =>
 j1 K x0 x1 h
abbrev e : G2 := eg j1
theorem u3 (p : j5 K h) : I c3 (q1 K) a h := ICx.to p
theorem j4_ok (l1 : G3) (j5 : G0) : I c9 (q4 l1 j5 K) a h = j4g l1 j5 K (a 0) (a 1) (a 5) h := by kernel_rfl
theorem u9 (p : j4 K (a 0) (a 1) (a 5) h) : I c9 (q4 l1 j5 K) a h := ICx.to p (j4_ok l1 j5)
theorem j3_ok (j4 : G3) (l1 : G3) (j5 : G0) : I c10 (q5 j4 l1 j5 K) a h = j3g j4 l1 j5 K (a 0) (a 1) (a 5) h := by kernel_rfl
theorem u10 (p : j3 K (a 0) (a 1) (a 5) h) : I c10 (q5 j4 l1 j5 K) a h := ICx.to p (j3_ok j4 l1 j5)
theorem u8 (p : j3 K (a 0) (a 1) (a 5) h) : I c8 (q4 l1 j5 K) a h := ICx.sq (fun _ _ => u9) (u10 p)
theorem b1_ok (j3 : G3) (l1 : G3) (j5 : G0) : I c11 (q6 j3 l1 j5 K) a h = b1g j3 l1 j5 K (a 0) (a 1) (a 5) h := by kernel_rfl
theorem u11 (p : b1 K (a 0) (a 1) (a 5) h) : I c11 (q6 j3 l1 j5 K) a h := ICx.to p (b1_ok j3 l1 j5)
theorem u7 (p : b1 K (a 0) (a 1) (a 5) h) : I c7 (q4 l1 j5 K) a h := ICx.sq (fun _ _ => u8) (u11 p)
theorem u6 (p : l1 K (a 0) (a 1) (a 5) h) : I c6 (q3 j5 K) a h := ICx.lp (p a rfl rfl rfl)
theorem l1_round {x0 x1 x5 : IV} (p : b1 K x0 x1 x5 h) : l1 K x0 x1 x5 h := by
  intro a e0 e1 e5
  subst e0; subst e1; subst e5; exact ICx.round Try.mixed (D := D) (L := fun a h => l1 K (a 0) (a 1) (a 5) h) (fun a h p => p a rfl rfl rfl) (u7 p)
theorem u5 (p : l1 K (a 0) (a 1) (a 5) h) : I c5 (q2 j5 K) a h := ICx.blk (u6 p)
theorem j2_ok (l1 : G3) (j5 : G0) : I c12 (q7 l1 j5 K) a h = j2g l1 j5 K (a 0) (a 1) h := by kernel_rfl
theorem u12 (p : j2 K (a 0) (a 1) h) : I c12 (q7 l1 j5 K) a h := ICx.to p (j2_ok l1 j5)
theorem u4 (p : j2 K (a 0) (a 1) h) : I c4 (q2 j5 K) a h := ICx.sq (fun _ _ => u5) (u12 p)
theorem u2 (p : j2 K (a 0) (a 1) h) : I c2 (q1 K) a h := ICx.sq (fun _ _ => u3) (u4 p)
theorem j1_ok (j2 : G2) : I c13 (q8 j2 K) a h = j1g j2 K (a 0) (a 1) h := by kernel_rfl
theorem u13 (p : j1 K (a 0) (a 1) h) : I c13 (q8 j2 K) a h := ICx.to p (j1_ok j2)
theorem u1 (p : j1 K (a 0) (a 1) h) : I c1 (q1 K) a h := ICx.sq (fun _ _ => u2) (u13 p)
theorem e_ok (j1 : G2) : I c14 (q9 j1 K) a h = eg j1 K (a 0) (a 1) h := by kernel_rfl
theorem u14 (p : e K (a 0) (a 1) h) : I c14 (q9 j1 K) a h := ICx.to p (e_ok j1)
theorem u0 (p : e K (a 0) (a 1) h) : I c0 (q1 K) a h := ICx.sq (fun _ _ => u1) (u14 p)
theorem call {x0 x1 : IV} (p : e K x0 x1 h) : Z5 PP Z1H [x0, x1] h K :=
  ICx.fn Try.mixed Try.func13 rfl (Nat.le_of_ble_eq_true rfl) (u0 (a := actI [x0, x1]) p)
end Z1c
namespace Z4v
def D : Nat → DI
  | _ => ⟨[], [], []⟩
abbrev I := ICx PP 15 D
def c0 : Code := bodyN Try.f14
abbrev q1 (K : KT) : QT := finK PP Try.f14.results.toList K
def e (K : KT) (x0 x1 : IV) (h : Heap) : Prop :=
 oA (Zi Z6 x0 h) h fun v1 h1 =>
 oA (Zi Z3 x1 h1) h1 fun v2 h2 =>
 oV (.snil) h2 fun v3 =>
 oD (Z2 PP Z6 v1 2) h2 fun v4 =>
 oD (Z1 PP Zn v4 h2) h2 fun v5 =>
 oD (lenI PP Zn v5) h2 fun v6 =>
 oA (Z12 PP ZF v6 v6 h2) h2 fun v7 h3 =>
 oA (Zp PP ZF h3) h3 fun v8 h4 =>
 oS (Z9 PP ZF v8 v7 h4) h4 fun h5 =>
 oD (Z1 PP Z6 v1 h5) h5 fun v9 =>
 oD (Z1 PP Z3 v2 h5) h5 fun v10 =>
 oV (.fn Z3o [v8]) h5 fun v11 =>
 Z5 PP Z2g [v9, v10, v11] h5 fun v12 h6 =>
 oD (Z1 PP ZF v8 h6) h6 fun v13 =>
 oV v13 h6 fun v14 =>
 Zd PP [.v v14] h6 K
theorem u0 (p : e K (a 0) (a 1) h) : I c0 (q1 K) a h := ICx.to p
theorem call {x0 x1 : IV} (p : e K x0 x1 h) : Z5 PP Z1z [x0, x1] h K :=
  ICx.fn Try.mixed Try.func14 rfl (Nat.le_of_ble_eq_true rfl) (u0 (a := actI [x0, x1]) p)
end Z4v
namespace ZY
def D : Nat → DI
  | 5 => ⟨[0, 1, 0, 7, 15, 0, 32, 0, 224, 480, 0, 0, 3103, 8191], [0, 1, 2, 3, 4, 5, 6, 7, 8, 9, 10, 11, 12, 13], [10, 11]⟩
  | _ => ⟨[], [], []⟩
abbrev I := ICx PP 61 D
def c0 : Code := bodyN Try.f15
def c1 : Code := cR c0
def c2 : Code := cR c1
def c3 : Code := cR c2
def c4 : Code := cL c2
def c5 : Code := cR c4
def c6 : Code := cL c5
def c7 : Code := cL c6
def c8 : Code := cR c7
def c9 : Code := cR c8
def c10 : Code := cL c8
def c11 : Code := cL c10
def c12 : Code := cR c11
def c13 : Code := cR c12
def c14 : Code := cR c13
def c15 : Code := cL c13
def c16 : Code := cL c12
def c17 : Code := cL c11
def c18 : Code := cL c7
def c19 : Code := cL c4
def c20 : Code := cL c1
def c21 : Code := cL c0
abbrev q1 (K : KT) : QT := finK PP Try.f15.results.toList K
def j8 (K : KT) (x5 : IV) (h : Heap) : Prop :=
 oV x5 h fun v1 =>
 oV v1 h fun v2 =>
 Zd PP [.v v2] h K
abbrev q2 (j8 : G1) (K : KT) : QT := Z4 (fun a h => j8 K (a 5) h) (q1 K)
abbrev q3 (j8 : G1) (K : KT) : QT := Zq 0 (q2 j8 K)
def l1 (K : KT) (x2 x3 x5 x6 : IV) (h : Heap) : Prop := ∀ a : IAct, a 2 = x2 → a 3 = x3 → a 5 = x5 → a 6 = x6 → ILoop PP 61 c7 (q3 j8 K) a h
abbrev q4 (l1 : G4) (j8 : G1) (K : KT) : QT := Z4 (fun a h => l1 K (a 2) (a 3) (a 5) (a 6) h) (q3 j8 K)
def j7g (l1 : G4) (j8 : G1) (K : KT) (x2 x3 x5 x6 : IV) (h : Heap) : Prop :=
 oV x6 h fun v1 =>
 oD (Z7 PP .add Z0 v1 (.int .i64 1)) h fun v2 =>
 oV v2 h fun v3 =>
 l1 K x2 x3 x5 v3 h
abbrev j7 : G4 := j7g l1 j8
abbrev q5 (j7 : G4) (l1 : G4) (j8 : G1) (K : KT) : QT := Z4 (fun a h => j7 K (a 2) (a 3) (a 5) (a 6) h) (q4 l1 j8 K)
abbrev q6 (j7 : G4) (l1 : G4) (j8 : G1) (K : KT) : QT := Zq 1 (q5 j7 l1 j8 K)
def j6g (j7 : G4) (l1 : G4) (j8 : G1) (K : KT) (x2 x3 x5 x6 x7 x8 : IV) (h : Heap) : Prop :=
 oV x5 h fun v1 =>
 oD (Z2 PP Za x7 3) h fun v2 =>
 oD (Z1 PP Z0 v2 h) h fun v3 =>
 oD (Z2 PP Zs x8 1) h fun v4 =>
 oD (Z1 PP Z0 v4 h) h fun v5 =>
 Z5 PP Z1R [v1, v3, v5] h fun v6 h1 =>
 oV x5 h1 fun v7 =>
 oD (Z2 PP Za x7 4) h1 fun v8 =>
 oD (Z1 PP Z0 v8 h1) h1 fun v9 =>
 oD (Z2 PP Zs x8 1) h1 fun v10 =>
 oD (Z1 PP Z0 v10 h1) h1 fun v11 =>
 Z5 PP Z1R [v7, v9, v11] h1 fun v12 h2 =>
 j7 K x2 x3 x5 x6 h2
abbrev j6 : G6 := j6g j7 l1 j8
abbrev q7 (j6 : G6) (j7 : G4) (l1 : G4) (j8 : G1) (K : KT) : QT := Z4 (fun a h => j6 K (a 2) (a 3) (a 5) (a 6) (a 7) (a 8) h) (q6 j7 l1 j8 K)
def j5g (j6 : G6) (j7 : G4) (l1 : G4) (j8 : G1) (K : KT) (x2 x3 x5 x6 x7 x8 : IV) (h : Heap) : Prop :=
 oD (Z2 PP Za x7 1) h fun v1 =>
 oD (Z1 PP Zy v1 h) h fun v2 =>
 oD (unI .not v2) h fun v3 =>
 bK' v3
   (oV x5 h fun v4 =>
   oD (Z2 PP Za x7 2) h fun v5 =>
   oD (Z1 PP Z0 v5 h) h fun v6 =>
   oD (Z2 PP Zs x8 0) h fun v7 =>
   oD (Z1 PP Z0 v7 h) h fun v8 =>
   Z5 PP Z1R [v4, v6, v8] h fun v9 h1 =>
   oV x5 h1 fun v10 =>
   oD (Z2 PP Za x7 5) h1 fun v11 =>
   oD (Z1 PP Z0 v11 h1) h1 fun v12 =>
   oD (Z2 PP Zs x8 0) h1 fun v13 =>
   oD (Z1 PP Z0 v13 h1) h1 fun v14 =>
   Z5 PP Z1R [v10, v12, v14] h1 fun v15 h2 =>
   j6 K x2 x3 x5 x6 x7 x8 h2)
   (j6 K x2 x3 x5 x6 x7 x8 h)
abbrev j5 : G6 := j5g j6 j7 l1 j8
abbrev q8 (j5 : G6) (j7 : G4) (l1 : G4) (j8 : G1) (K : KT) : QT := Z4 (fun a h => j5 K (a 2) (a 3) (a 5) (a 6) (a 7) (a 8) h) (q6 j7 l1 j8 K)
def j4g (j5 : G6) (j7 : G4) (l1 : G4) (j8 : G1) (K : KT) (x2 x3 x5 x6 x7 x8 : IV) (h : Heap) : Prop :=
 oD (Z2 PP Za x7 0) h fun v1 =>
 oD (Z1 PP Zy v1 h) h fun v2 =>
 oD (unI .not v2) h fun v3 =>
 bK' v3
   (j7 K x2 x3 x5 x6 h)
   (j5 K x2 x3 x5 x6 x7 x8 h)
abbrev j4 : G6 := j4g j5 j7 l1 j8
abbrev q9 (j4 : G6) (j7 : G4) (l1 : G4) (j8 : G1) (K : KT) : QT := Z4 (fun a h => j4 K (a 2) (a 3) (a 5) (a 6) (a 7) (a 8) h) (q6 j7 l1 j8 K)
def j3g (j4 : G6) (j7 : G4) (l1 : G4) (j8 : G1) (K : KT) (x2 x3 x5 x6 : IV) (h : Heap) : Prop :=
 oD (Z2 PP Z3 x3 2) (h ++ [none, none]) fun v1 =>
 oD (Z1 PP Zh v1 (h ++ [none, none])) (h ++ [none, none]) fun v2 =>
 oV x6 (h ++ [none, none]) fun v3 =>
 oD (Zf PP Zh v2 v3 (h ++ [none, none])) (h ++ [none, none]) fun v4 =>
 oD (Z1 PP Za v4 (h ++ [none, none])) (h ++ [none, none]) fun v5 =>
 oD (Z2 PP Z6 x2 3) (h ++ [none, none]) fun v6 =>
 oD (Z1 PP Zw v6 (h ++ [none, none])) (h ++ [none, none]) fun v7 =>
 oV x6 (h ++ [none, none]) fun v8 =>
 oD (Zf PP Zw v7 v8 (h ++ [none, none])) (h ++ [none, none]) fun v9 =>
 oD (Z1 PP Zs v9 (h ++ [none, none])) (h ++ [none, none]) fun v10 =>
 oK (newA PP Za) fun v11 =>
 oK (newA PP Zs) fun v12 =>
 oS (Z9 PP Za (mkV v11.1 (h.length)) v5 (((h ++ [none, none]).set (h.length) (some v11.2)).set (h.length + 1) (some v12.2))) (((h ++ [none, none]).set (h.length) (some v11.2)).set (h.length + 1) (some v12.2)) fun h1 => oB ((Zb (Z1 PP Zs v9 h1) v10 h1) ∧ (Zb (Zf PP Zw v7 v8 h1) v9 h1) ∧ (Zb (Z1 PP Zw v6 h1) v7 h1) ∧ True) <|
 oS (Z9 PP Zs (mkV v12.1 (h.length + 1)) v10 h1) h1 fun h2 => oB (True) <|
 j4 K x2 x3 x5 x6 (mkV v11.1 (h.length)) (mkV v12.1 (h.length + 1)) h2
abbrev j3 : G4 := j3g j4 j7 l1 j8
abbrev q10 (j3 : G4) (l1 : G4) (j8 : G1) (K : KT) : QT := Z4 (fun a h => j3 K (a 2) (a 3) (a 5) (a 6) h) (q4 l1 j8 K)
def b1g (j3 : G4) (l1 : G4) (j8 : G1) (K : KT) (x2 x3 x5 x6 : IV) (h : Heap) : Prop :=
 oV x6 h fun v1 =>
 oD (Z2 PP Z3 x3 2) h fun v2 =>
 oD (Z1 PP Zh v2 h) h fun v3 =>
 oD (lenI PP Zh v3) h fun v4 =>
 oD (Z7 PP .lss Z0 v1 v4) h fun v5 =>
 bK' v5
   (j3 K x2 x3 x5 x6 h)
   (j8 K x5 h)
abbrev b1 : G4 := b1g j3 l1 j8
abbrev q11 (l1 : G4) (j8 : G1) (K : KT) : QT := Z4 (fun a h => l1 K (a 2) (a 3) (a 5) (a 6) h) (q2 j8 K)
def j2g (l1 : G4) (j8 : G1) (K : KT) (x2 x3 x5 : IV) (h : Heap) : Prop :=
 oV (.int .i64 0) h fun v1 =>
 l1 K x2 x3 x5 v1 h
abbrev j2 : G3 := j2g l1 j8
abbrev q12 (j2 : G3) (K : KT) : QT := Z4 (fun a h => j2 K (a 2) (a 3) (a 5) h) (q1 K)
def j1g (j2 : G3) (K : KT) (x2 x3 : IV) (h : Heap) : Prop :=
 oD (Z2 PP Z6 x2 2) h fun v1 =>
 oD (Z1 PP Zn v1 h) h fun v2 =>
 oD (lenI PP Zn v2) h fun v3 =>
 oA (Z12 PP Zk v3 v3 h) h fun v4 h1 =>
 oV v4 h1 fun v5 =>
 j2 K x2 x3 v5 h1
abbrev j1 : G2 := j1g j2
abbrev q13 (j1 : G2) (K : KT) : QT := Z4 (fun a h => j1 K (a 2) (a 3) h) (q1 K)
def eg (j1 : G2) (K : KT) (x0 x1 : IV) (h : Heap) : Prop :=
 oA (Zi Z6 x0 h) h fun v1 h1 =>
 oA (Zi Z3 x1 h1) h1 fun v2 h2 =>
 oV (.snil) h2 fun v3 =>
 j1 K v1 v2 h2
abbrev e : G2 := eg j1
theorem u3 (p : j8 K (a 5) h) : I c3 (q1 K) a h := ICx.to p
theorem j7_ok (l1 : G4) (j8 : G1) : I c9 (q4 l1 j8 K) a h = j7g l1 j8 K (a 2) (a 3) (a 5) (a 6) h := by kernel_rfl
theorem u9 (p : j7 K (a 2) (a 3) (a 5) (a 6) h) : I c9 (q4 l1 j8 K) a h := ICx.to p (j7_ok l1 j8)
theorem j6_ok (j7 : G4) (l1 : G4) (j8 : G1) : I c14 (q6 j7 l1 j8 K) a h = j6g j7 l1 j8 K (a 2) (a 3) (a 5) (a 6) (a 7) (a 8) h := by kernel_rfl
theorem u14 (p : j6 K (a 2) (a 3) (a 5) (a 6) (a 7) (a 8) h) : I c14 (q6 j7 l1 j8 K) a h := ICx.to p (j6_ok j7 l1 j8)
theorem j5_ok (j6 : G6) (j7 : G4) (l1 : G4) (j8 : G1) : I c15 (q7 j6 j7 l1 j8 K) a h = j5g j6 j7 l1 j8 K (a 2) (a 3) (a 5) (a 6) (a 7) (a 8) h := by kernel_rfl
theorem u15 (p : j5 K (a 2) (a 3) (a 5) (a 6) (a 7) (a 8) h) : I c15 (q7 j6 j7 l1 j8 K) a h := ICx.to p (j5_ok j6 j7 l1 j8)
theorem u13 (p : j5 K (a 2) (a 3) (a 5) (a 6) (a 7) (a 8) h) : I c13 (q6 j7 l1 j8 K) a h := ICx.sq (fun _ _ => u14) (u15 p)
theorem j4_ok (j5 : G6) (j7 : G4) (l1 : G4) (j8 : G1) : I c16 (q8 j5 j7 l1 j8 K) a h = j4g j5 j7 l1 j8 K (a 2) (a 3) (a 5) (a 6) (a 7) (a 8) h := by kernel_rfl
theorem u16 (p : j4 K (a 2) (a 3) (a 5) (a 6) (a 7) (a 8) h) : I c16 (q8 j5 j7 l1 j8 K) a h := ICx.to p (j4_ok j5 j7 l1 j8)
theorem u12 (p : j4 K (a 2) (a 3) (a 5) (a 6) (a 7) (a 8) h) : I c12 (q6 j7 l1 j8 K) a h := ICx.sq (fun _ _ => u13) (u16 p)
theorem j3_ok (j4 : G6) (j7 : G4) (l1 : G4) (j8 : G1) : I c17 (q9 j4 j7 l1 j8 K) a h = j3g j4 j7 l1 j8 K (a 2) (a 3) (a 5) (a 6) h := by kernel_rfl
theorem u17 (p : j3 K (a 2) (a 3) (a 5) (a 6) h) : I c17 (q9 j4 j7 l1 j8 K) a h := ICx.to p (j3_ok j4 j7 l1 j8)
theorem u11 (p : j3 K (a 2) (a 3) (a 5) (a 6) h) : I c11 (q6 j7 l1 j8 K) a h := ICx.sq (fun _ _ => u12) (u17 p)
theorem u10 (p : j3 K (a 2) (a 3) (a 5) (a 6) h) : I c10 (q5 j7 l1 j8 K) a h := ICx.blk (u11 p)
theorem u8 (p : j3 K (a 2) (a 3) (a 5) (a 6) h) : I c8 (q4 l1 j8 K) a h := ICx.sq (fun _ _ => u9) (u10 p)
theorem b1_ok (j3 : G4) (l1 : G4) (j8 : G1) : I c18 (q10 j3 l1 j8 K) a h = b1g j3 l1 j8 K (a 2) (a 3) (a 5) (a 6) h := by kernel_rfl
theorem u18 (p : b1 K (a 2) (a 3) (a 5) (a 6) h) : I c18 (q10 j3 l1 j8 K) a h := ICx.to p (b1_ok j3 l1 j8)
theorem u7 (p : b1 K (a 2) (a 3) (a 5) (a 6) h) : I c7 (q4 l1 j8 K) a h := ICx.sq (fun _ _ => u8) (u18 p)
theorem u6 (p : l1 K (a 2) (a 3) (a 5) (a 6) h) : I c6 (q3 j8 K) a h := ICx.lp (p a rfl rfl rfl rfl)
theorem l1_round {x2 x3 x5 x6 : IV} (p : b1 K x2 x3 x5 x6 h) : l1 K x2 x3 x5 x6 h := by
  intro a e2 e3 e5 e6
  subst e2; subst e3; subst e5; subst e6; exact ICx.round Try.mixed (D := D) (L := fun a h => l1 K (a 2) (a 3) (a 5) (a 6) h) (fun a h p => p a rfl rfl rfl rfl) (u7 p)
theorem u5 (p : l1 K (a 2) (a 3) (a 5) (a 6) h) : I c5 (q2 j8 K) a h := ICx.blk (u6 p)
theorem j2_ok (l1 : G4) (j8 : G1) : I c19 (q11 l1 j8 K) a h = j2g l1 j8 K (a 2) (a 3) (a 5) h := by kernel_rfl
theorem u19 (p : j2 K (a 2) (a 3) (a 5) h) : I c19 (q11 l1 j8 K) a h := ICx.to p (j2_ok l1 j8)
theorem u4 (p : j2 K (a 2) (a 3) (a 5) h) : I c4 (q2 j8 K) a h := ICx.sq (fun _ _ => u5) (u19 p)
theorem u2 (p : j2 K (a 2) (a 3) (a 5) h) : I c2 (q1 K) a h := ICx.sq (fun _ _ => u3) (u4 p)
theorem j1_ok (j2 : G3) : I c20 (q12 j2 K) a h = j1g j2 K (a 2) (a 3) h := by kernel_rfl
theorem u20 (p : j1 K (a 2) (a 3) h) : I c20 (q12 j2 K) a h := ICx.to p (j1_ok j2)
theorem u1 (p : j1 K (a 2) (a 3) h) : I c1 (q1 K) a h := ICx.sq (fun _ _ => u2) (u20 p)
theorem e_ok (j1 : G2) : I c21 (q13 j1 K) a h = eg j1 K (a 0) (a 1) h := by kernel_rfl
theorem u21 (p : e K (a 0) (a 1) h) : I c21 (q13 j1 K) a h := ICx.to p (e_ok j1)
theorem u0 (p : e K (a 0) (a 1) h) : I c0 (q1 K) a h := ICx.sq (fun _ _ => u1) (u21 p)
theorem call {x0 x1 : IV} (p : e K x0 x1 h) : Z5 PP Z2e [x0, x1] h K :=
  ICx.fn Try.mixed Try.func15 rfl (Nat.le_of_ble_eq_true rfl) (u0 (a := actI [x0, x1]) p)
end ZY
namespace Z1d
def D : Nat → DI
  | _ => ⟨[], [], []⟩
abbrev I := ICx PP 31 D
def c0 : Code := bodyN Try.f16
def c1 : Code := cR c0
def c2 : Code := cR c1
def c3 : Code := cR c2
def c4 : Code := cL c2
def c5 : Code := cR c4
def c6 : Code := cL c5
def c7 : Code := cL c6
def c8 : Code := cR c7
def c9 : Code := cR c8
def c10 : Code := cR c9
def c11 : Code := cL c9
def c12 : Code := cL c8
def c13 : Code := cL c7
def c14 : Code := cL c4
def c15 : Code := cL c1
def c16 : Code := cL c0
abbrev q1 (K : KT) : QT := finK PP Try.f16.results.toList K
def j6 (K : KT) (x5 : IV) (h : Heap) : Prop :=
 oV x5 h fun v1 =>
 oV v1 h fun v2 =>
 Zd PP [.v v2] h K
abbrev q2 (j6 : G1) (K : KT) : QT := Z4 (fun a h => j6 K (a 5) h) (q1 K)
abbrev q3 (j6 : G1) (K : KT) : QT := Zq 0 (q2 j6 K)
def l1 (K : KT) (x2 x5 x10 x11 x12 : IV) (h : Heap) : Prop := ∀ a : IAct, a 2 = x2 → a 5 = x5 → a 10 = x10 → a 11 = x11 → a 12 = x12 → ILoop PP 31 c7 (q3 j6 K) a h
abbrev q4 (l1 : G5) (j6 : G1) (K : KT) : QT := Z4 (fun a h => l1 K (a 2) (a 5) (a 10) (a 11) (a 12) h) (q3 j6 K)
def j5g (l1 : G5) (j6 : G1) (K : KT) (x2 x5 x10 x11 x12 : IV) (h : Heap) : Prop :=
 oD (Z7 PP .add Z0 x12 (.int .i64 1)) h fun v1 =>
 oV v1 h fun v2 =>
 l1 K x2 x5 x10 x11 v2 h
abbrev j5 : G5 := j5g l1 j6
abbrev q5 (j5 : G5) (l1 : G5) (j6 : G1) (K : KT) : QT := Z4 (fun a h => j5 K (a 2) (a 5) (a 10) (a 11) (a 12) h) (q4 l1 j6 K)
def j4g (j5 : G5) (l1 : G5) (j6 : G1) (K : KT) (x2 x5 x10 x11 x12 : IV) (h : Heap) : Prop :=
 oV x12 h fun v1 =>
 oD (Zf PP Zk x10 x12 h) h fun v2 =>
 oD (Z1 PP Z0 v2 h) h fun v3 =>
 oV v1 h fun v4 =>
 oV v3 h fun v5 =>
 oV v5 h fun v6 =>
 oD (Z2 PP Z6 x2 2) h fun v7 =>
 oD (Z1 PP Zn v7 h) h fun v8 =>
 oV v4 h fun v9 =>
 oD (Zf PP Zn v8 v9 h) h fun v10 =>
 oD (Z2 PP Zz v10 1) h fun v11 =>
 oD (Z1 PP Z0 v11 h) h fun v12 =>
 oD (Z7 PP .gtr Z0 v6 v12) h fun v13 =>
 bK' v13
   (oV x5 h fun v14 =>
   oV v4 h fun v15 =>
   oA (ZA PP Zk 1 [(0, v15)] h) h fun v16 h1 =>
   oA (ZJ PP Zk Zk v14 v16 h1) h1 fun v17 h2 =>
   oV v17 h2 fun v18 =>
   j5 K x2 v18 x10 x11 x12 h2)
   (j5 K x2 x5 x10 x11 x12 h)
abbrev j4 : G5 := j4g j5 l1 j6
abbrev q6 (j4 : G5) (l1 : G5) (j6 : G1) (K : KT) : QT := Z4 (fun a h => j4 K (a 2) (a 5) (a 10) (a 11) (a 12) h) (q4 l1 j6 K)
def j3g (j4 : G5) (l1 : G5) (j6 : G1) (K : KT) (x2 x5 x10 x11 x12 x13 : IV) (h : Heap) : Prop :=
 bK' x13
   (j4 K x2 x5 x10 x11 x12 h)
   (j6 K x5 h)
abbrev j3 : G6 := j3g j4 l1 j6
abbrev q7 (j3 : G6) (l1 : G5) (j6 : G1) (K : KT) : QT := Z4 (fun a h => j3 K (a 2) (a 5) (a 10) (a 11) (a 12) (a 13) h) (q4 l1 j6 K)
def b1g (j3 : G6) (l1 : G5) (j6 : G1) (K : KT) (x2 x5 x10 x11 x12 : IV) (h : Heap) : Prop :=
 oD (Z7 PP .lss Z0 x12 x11) h fun v1 =>
 j3 K x2 x5 x10 x11 x12 v1 h
abbrev b1 : G5 := b1g j3 l1 j6
abbrev q8 (l1 : G5) (j6 : G1) (K : KT) : QT := Z4 (fun a h => l1 K (a 2) (a 5) (a 10) (a 11) (a 12) h) (q2 j6 K)
def j2g (l1 : G5) (j6 : G1) (K : KT) (x2 x3 x5 : IV) (h : Heap) : Prop :=
 oD (Z1 PP Z6 x2 h) h fun v1 =>
 oD (Z1 PP Z3 x3 h) h fun v2 =>
 Z5 PP Z1z [v1, v2] h fun v3 h1 =>
 oD (lenI PP Zk v3) h1 fun v4 =>
 oV (.int .i64 0) h1 fun v5 =>
 l1 K x2 x5 v3 v4 v5 h1
abbrev j2 : G3 := j2g l1 j6
abbrev q9 (j2 : G3) (K : KT) : QT := Z4 (fun a h => j2 K (a 2) (a 3) (a 5) h) (q1 K)
def j1g (j2 : G3) (K : KT) (x2 x3 : IV) (h : Heap) : Prop :=
 oV (.snil) h fun v1 =>
 j2 K x2 x3 v1 h
abbrev j1 : G2 := j1g j2
abbrev q10 (j1 : G2) (K : KT) : QT := Z4 (fun a h => j1 K (a 2) (a 3) h) (q1 K)
def eg (j1 : G2) (K : KT) (x0 x1 : IV) (h : Heap) : Prop :=
 oA (Zi Z6 x0 h) h fun v1 h1 =>
 oA (Zi Z3 x1 h1) h1 fun v2 h2 =>
 oV (.snil) h2 fun v3 =>
 j1 K v1 v2 h2
abbrev e : G2 := eg j1
theorem u3 (p : j6 K (a 5) h) : I c3 (q1 K) a h := ICx.to p
theorem j5_ok (l1 : G5) (j6 : G1) : I c10 (q4 l1 j6 K) a h = j5g l1 j6 K (a 2) (a 5) (a 10) (a 11) (a 12) h := by kernel_rfl
theorem u10 (p : j5 K (a 2) (a 5) (a 10) (a 11) (a 12) h) : I c10 (q4 l1 j6 K) a h := ICx.to p (j5_ok l1 j6)
theorem j4_ok (j5 : G5) (l1 : G5) (j6 : G1) : I c11 (q5 j5 l1 j6 K) a h = j4g j5 l1 j6 K (a 2) (a 5) (a 10) (a 11) (a 12) h := by kernel_rfl
theorem u11 (p : j4 K (a 2) (a 5) (a 10) (a 11) (a 12) h) : I c11 (q5 j5 l1 j6 K) a h := ICx.to p (j4_ok j5 l1 j6)
theorem u9 (p : j4 K (a 2) (a 5) (a 10) (a 11) (a 12) h) : I c9 (q4 l1 j6 K) a h := ICx.sq (fun _ _ => u10) (u11 p)
theorem j3_ok (j4 : G5) (l1 : G5) (j6 : G1) : I c12 (q6 j4 l1 j6 K) a h = j3g j4 l1 j6 K (a 2) (a 5) (a 10) (a 11) (a 12) (a 13) h := by kernel_rfl
theorem u12 (p : j3 K (a 2) (a 5) (a 10) (a 11) (a 12) (a 13) h) : I c12 (q6 j4 l1 j6 K) a h := ICx.to p (j3_ok j4 l1 j6)
theorem u8 (p : j3 K (a 2) (a 5) (a 10) (a 11) (a 12) (a 13) h) : I c8 (q4 l1 j6 K) a h := ICx.sq (fun _ _ => u9) (u12 p)
theorem b1_ok (j3 : G6) (l1 : G5) (j6 : G1) : I c13 (q7 j3 l1 j6 K) a h = b1g j3 l1 j6 K (a 2) (a 5) (a 10) (a 11) (a 12) h := by kernel_rfl
theorem u13 (p : b1 K (a 2) (a 5) (a 10) (a 11) (a 12) h) : I c13 (q7 j3 l1 j6 K) a h := ICx.to p (b1_ok j3 l1 j6)
theorem u7 (p : b1 K (a 2) (a 5) (a 10) (a 11) (a 12) h) : I c7 (q4 l1 j6 K) a h := ICx.sq (fun _ _ => u8) (u13 p)
theorem u6 (p : l1 K (a 2) (a 5) (a 10) (a 11) (a 12) h) : I c6 (q3 j6 K) a h := ICx.lp (p a rfl rfl rfl rfl rfl)
theorem l1_round {x2 x5 x10 x11 x12 : IV} (p : b1 K x2 x5 x10 x11 x12 h) : l1 K x2 x5 x10 x11 x12 h := by
  intro a e2 e5 e10 e11 e12
  subst e2; subst e5; subst e10; subst e11; subst e12; exact ICx.round Try.mixed (D := D) (L := fun a h => l1 K (a 2) (a 5) (a 10) (a 11) (a 12) h) (fun a h p => p a rfl rfl rfl rfl rfl) (u7 p)
theorem u5 (p : l1 K (a 2) (a 5) (a 10) (a 11) (a 12) h) : I c5 (q2 j6 K) a h := ICx.blk (u6 p)
theorem j2_ok (l1 : G5) (j6 : G1) : I c14 (q8 l1 j6 K) a h = j2g l1 j6 K (a 2) (a 3) (a 5) h := by kernel_rfl
theorem u14 (p : j2 K (a 2) (a 3) (a 5) h) : I c14 (q8 l1 j6 K) a h := ICx.to p (j2_ok l1 j6)
theorem u4 (p : j2 K (a 2) (a 3) (a 5) h) : I c4 (q2 j6 K) a h := ICx.sq (fun _ _ => u5) (u14 p)
theorem u2 (p : j2 K (a 2) (a 3) (a 5) h) : I c2 (q1 K) a h := ICx.sq (fun _ _ => u3) (u4 p)
theorem j1_ok (j2 : G3) : I c15 (q9 j2 K) a h = j1g j2 K (a 2) (a 3) h := by kernel_rfl
theorem u15 (p : j1 K (a 2) (a 3) h) : I c15 (q9 j2 K) a h := ICx.to p (j1_ok j2)
theorem u1 (p : j1 K (a 2) (a 3) h) : I c1 (q1 K) a h := ICx.sq (fun _ _ => u2) (u15 p)
theorem e_ok (j1 : G2) : I c16 (q10 j1 K) a h = eg j1 K (a 0) (a 1) h := by kernel_rfl
theorem u16 (p : e K (a 0) (a 1) h) : I c16 (q10 j1 K) a h := ICx.to p (e_ok j1)
theorem u0 (p : e K (a 0) (a 1) h) : I c0 (q1 K) a h := ICx.sq (fun _ _ => u1) (u16 p)
theorem call {x0 x1 : IV} (p : e K x0 x1 h) : Z5 PP Z2f [x0, x1] h K :=
  ICx.fn Try.mixed Try.func16 rfl (Nat.le_of_ble_eq_true rfl) (u0 (a := actI [x0, x1]) p)
end Z1d
namespace Z1g
def D : Nat → DI
  | 6 => ⟨[0, 0, 3, 7, 0, 16, 0, 112, 240, 496, 1023], [0, 1, 2, 3, 4, 5, 6, 7, 8, 9, 10], []⟩
  | _ => ⟨[], [], []⟩
abbrev I := ICx PP 33 D
def c0 : Code := bodyN Try.f17
def c1 : Code := cR c0
def c2 : Code := cR c1
def c3 : Code := cR c2
def c4 : Code := cR c3
def c5 : Code := cL c3
def c6 : Code := cR c5
def c7 : Code := cL c6
def c8 : Code := cL c7
def c9 : Code := cR c8
def c10 : Code := cR c9
def c11 : Code := cL c9
def c12 : Code := cL c8
def c13 : Code := cL c5
def c14 : Code := cL c2
def c15 : Code := cL c1
def c16 : Code := cL c0
abbrev q1 (K : KT) : QT := finK PP Try.f17.results.toList K
def j6 (K : KT) (x5 : IV) (h : Heap) : Prop :=
 oV x5 h fun v1 =>
 oV v1 h fun v2 =>
 Zd PP [.v v2] h K
abbrev q2 (j6 : G1) (K : KT) : QT := Z4 (fun a h => j6 K (a 5) h) (q1 K)
abbrev q3 (j6 : G1) (K : KT) : QT := Zq 0 (q2 j6 K)
def l1 (K : KT) (x2 x5 x6 x7 : IV) (h : Heap) : Prop := ∀ a : IAct, a 2 = x2 → a 5 = x5 → a 6 = x6 → a 7 = x7 → ILoop PP 33 c8 (q3 j6 K) a h
abbrev q4 (l1 : G4) (j6 : G1) (K : KT) : QT := Z4 (fun a h => l1 K (a 2) (a 5) (a 6) (a 7) h) (q3 j6 K)
def j5g (l1 : G4) (j6 : G1) (K : KT) (x2 x5 x6 x7 : IV) (h : Heap) : Prop :=
 oV x7 h fun v1 =>
 oD (Z7 PP .add Z0 v1 (.int .i64 1)) h fun v2 =>
 oV v2 h fun v3 =>
 l1 K x2 x5 x6 v3 h
abbrev j5 : G4 := j5g l1 j6
abbrev q5 (j5 : G4) (l1 : G4) (j6 : G1) (K : KT) : QT := Z4 (fun a h => j5 K (a 2) (a 5) (a 6) (a 7) h) (q4 l1 j6 K)
def j4g (j5 : G4) (l1 : G4) (j6 : G1) (K : KT) (x2 x5 x6 x7 : IV) (h : Heap) : Prop :=
 oV x6 h fun v1 =>
 oV x7 h fun v2 =>
 oD (Zf PP Zk v1 v2 h) h fun v3 =>
 oD (Z1 PP Z0 v3 h) h fun v4 =>
 oD (Z2 PP Z6 x2 2) h fun v5 =>
 oD (Z1 PP Zn v5 h) h fun v6 =>
 oV x7 h fun v7 =>
 oD (Zf PP Zn v6 v7 h) h fun v8 =>
 oD (Z2 PP Zz v8 1) h fun v9 =>
 oD (Z1 PP Z0 v9 h) h fun v10 =>
 oD (Z7 PP .gtr Z0 v4 v10) h fun v11 =>
 bK' v11
   (oV x5 h fun v12 =>
   oV x7 h fun v13 =>
   oA (ZA PP Zk 1 [(0, v13)] h) h fun v14 h1 =>
   oA (ZJ PP Zk Zk v12 v14 h1) h1 fun v15 h2 =>
   oV v15 h2 fun v16 =>
   j5 K x2 v16 x6 x7 h2)
   (j5 K x2 x5 x6 x7 h)
abbrev j4 : G4 := j4g j5 l1 j6
abbrev q6 (j4 : G4) (l1 : G4) (j6 : G1) (K : KT) : QT := Z4 (fun a h => j4 K (a 2) (a 5) (a 6) (a 7) h) (q4 l1 j6 K)
def b1g (j4 : G4) (l1 : G4) (j6 : G1) (K : KT) (x2 x5 x6 x7 : IV) (h : Heap) : Prop :=
 oV x7 h fun v1 =>
 oV x6 h fun v2 =>
 oD (lenI PP Zk v2) h fun v3 =>
 oD (Z7 PP .lss Z0 v1 v3) h fun v4 =>
 bK' v4
   (j4 K x2 x5 x6 x7 h)
   (j6 K x5 h)
abbrev b1 : G4 := b1g j4 l1 j6
abbrev q7 (l1 : G4) (j6 : G1) (K : KT) : QT := Z4 (fun a h => l1 K (a 2) (a 5) (a 6) (a 7) h) (q2 j6 K)
def j3g (l1 : G4) (j6 : G1) (K : KT) (x2 x5 x6 : IV) (h : Heap) : Prop :=
 oV (.int .i64 0) h fun v1 =>
 l1 K x2 x5 x6 v1 h
abbrev j3 : G3 := j3g l1 j6
abbrev q8 (j3 : G3) (K : KT) : QT := Z4 (fun a h => j3 K (a 2) (a 5) (a 6) h) (q1 K)
def j2g (j3 : G3) (K : KT) (x2 x3 x5 : IV) (h : Heap) : Prop :=
 oD (Z1 PP Z6 x2 h) h fun v1 =>
 oD (Z1 PP Z3 x3 h) h fun v2 =>
 Z5 PP Z2e [v1, v2] h fun v3 h1 =>
 oV v3 h1 fun v4 =>
 j3 K x2 x5 v4 h1
abbrev j2 : G3 := j2g j3
abbrev q9 (j2 : G3) (K : KT) : QT := Z4 (fun a h => j2 K (a 2) (a 3) (a 5) h) (q1 K)
def j1g (j2 : G3) (K : KT) (x2 x3 : IV) (h : Heap) : Prop :=
 oV (.snil) h fun v1 =>
 j2 K x2 x3 v1 h
abbrev j1 : G2 := j1g j2
abbrev q10 (j1 : G2) (K : KT) : QT := Z4 (fun a h => j1 K (a 2) (a 3) h) (q1 K)
def eg (j1 : G2) (K : KT) (x0 x1 : IV) (h : Heap) : Prop :=
 oA (Zi Z6 x0 h) h fun v1 h1 =>
 oA (Zi Z3 x1 h1) h1 fun v2 h2 =>
 oV (.snil) h2 fun v3 =>
 j1 K v1 v2 h2
abbrev e : G2 := eg j1
theorem u4 (p : j6 K (a 5) h) : I c4 (q1 K) a h := ICx.to p
theorem j5_ok (l1 : G4) (j6 : G1) : I c10 (q4 l1 j6 K) a h = j5g l1 j6 K (a 2) (a 5) (a 6) (a 7) h := by kernel_rfl
theorem u10 (p : j5 K (a 2) (a 5) (a 6) (a 7) h) : I c10 (q4 l1 j6 K) a h := ICx.to p (j5_ok l1 j6)
theorem j4_ok (j5 : G4) (l1 : G4) (j6 : G1) : I c11 (q5 j5 l1 j6 K) a h = j4g j5 l1 j6 K (a 2) (a 5) (a 6) (a 7) h := by kernel_rfl
theorem u11 (p : j4 K (a 2) (a 5) (a 6) (a 7) h) : I c11 (q5 j5 l1 j6 K) a h := ICx.to p (j4_ok j5 l1 j6)
theorem u9 (p : j4 K (a 2) (a 5) (a 6) (a 7) h) : I c9 (q4 l1 j6 K) a h := ICx.sq (fun _ _ => u10) (u11 p)
theorem b1_ok (j4 : G4) (l1 : G4) (j6 : G1) : I c12 (q6 j4 l1 j6 K) a h = b1g j4 l1 j6 K (a 2) (a 5) (a 6) (a 7) h := by kernel_rfl
theorem u12 (p : b1 K (a 2) (a 5) (a 6) (a 7) h) : I c12 (q6 j4 l1 j6 K) a h := ICx.to p (b1_ok j4 l1 j6)
theorem u8 (p : b1 K (a 2) (a 5) (a 6) (a 7) h) : I c8 (q4 l1 j6 K) a h := ICx.sq (fun _ _ => u9) (u12 p)
theorem u7 (p : l1 K (a 2) (a 5) (a 6) (a 7) h) : I c7 (q3 j6 K) a h := ICx.lp (p a rfl rfl rfl rfl)
theorem l1_round {x2 x5 x6 x7 : IV} (p : b1 K x2 x5 x6 x7 h) : l1 K x2 x5 x6 x7 h := by
  intro a e2 e5 e6 e7
  subst e2; subst e5; subst e6; subst e7; exact ICx.round Try.mixed (D := D) (L := fun a h => l1 K (a 2) (a 5) (a 6) (a 7) h) (fun a h p => p a rfl rfl rfl rfl) (u8 p)
theorem u6 (p : l1 K (a 2) (a 5) (a 6) (a 7) h) : I c6 (q2 j6 K) a h := ICx.blk (u7 p)
theorem j3_ok (l1 : G4) (j6 : G1) : I c13 (q7 l1 j6 K) a h = j3g l1 j6 K (a 2) (a 5) (a 6) h := by kernel_rfl
theorem u13 (p : j3 K (a 2) (a 5) (a 6) h) : I c13 (q7 l1 j6 K) a h := ICx.to p (j3_ok l1 j6)
theorem u5 (p : j3 K (a 2) (a 5) (a 6) h) : I c5 (q2 j6 K) a h := ICx.sq (fun _ _ => u6) (u13 p)
theorem u3 (p : j3 K (a 2) (a 5) (a 6) h) : I c3 (q1 K) a h := ICx.sq (fun _ _ => u4) (u5 p)
theorem j2_ok (j3 : G3) : I c14 (q8 j3 K) a h = j2g j3 K (a 2) (a 3) (a 5) h := by kernel_rfl
theorem u14 (p : j2 K (a 2) (a 3) (a 5) h) : I c14 (q8 j3 K) a h := ICx.to p (j2_ok j3)
theorem u2 (p : j2 K (a 2) (a 3) (a 5) h) : I c2 (q1 K) a h := ICx.sq (fun _ _ => u3) (u14 p)
theorem j1_ok (j2 : G3) : I c15 (q9 j2 K) a h = j1g j2 K (a 2) (a 3) h := by kernel_rfl
theorem u15 (p : j1 K (a 2) (a 3) h) : I c15 (q9 j2 K) a h := ICx.to p (j1_ok j2)
theorem u1 (p : j1 K (a 2) (a 3) h) : I c1 (q1 K) a h := ICx.sq (fun _ _ => u2) (u15 p)
theorem e_ok (j1 : G2) : I c16 (q10 j1 K) a h = eg j1 K (a 0) (a 1) h := by kernel_rfl
theorem u16 (p : e K (a 0) (a 1) h) : I c16 (q10 j1 K) a h := ICx.to p (e_ok j1)
theorem u0 (p : e K (a 0) (a 1) h) : I c0 (q1 K) a h := ICx.sq (fun _ _ => u1) (u16 p)
theorem call {x0 x1 : IV} (p : e K x0 x1 h) : Z5 PP Z2u [x0, x1] h K :=
  ICx.fn Try.mixed Try.func17 rfl (Nat.le_of_ble_eq_true rfl) (u0 (a := actI [x0, x1]) p)
end Z1g
namespace Z2C
def D : Nat → DI
  | 3 => ⟨[0, 1, 0, 7, 15, 31, 0, 0, 192, 0, 960, 1984, 4095, 8191], [0, 1, 2, 3, 4, 5, 6, 7, 9, 8, 10, 11, 12, 13], []⟩
  | _ => ⟨[], [], []⟩
abbrev I := ICx PP 29 D
def c0 : Code := bodyN Try.f18
def c1 : Code := cR c0
def c2 : Code := cR c1
def c3 : Code := cL c1
def c4 : Code := cL c0
abbrev q1 (K : KT) : QT := finK PP Try.f18.results.toList K
def j2 (K : KT) (x2 x3 x4 : IV) (h : Heap) : Prop :=
 oD (Z2 PP Z6 x3 2) h fun v1 =>
 oD (Z1 PP Zn v1 h) h fun v2 =>
 oV x2 h fun v3 =>
 oD (Zf PP Zn v2 v3 h) h fun v4 =>
 oD (Z2 PP Zz v4 1) h fun v5 =>
 oD (Z1 PP Z0 v5 h) h fun v6 =>
 oD (Z1 PP Z6 x3 h) h fun v7 =>
 oD (Z1 PP Z3 x4 h) h fun v8 =>
 oV x2 h fun v9 =>
 Z5 PP Z1z [v7, v8] h fun v10 h1 => oB ((Zb (Z1 PP Z0 v5 h1) v6 h1) ∧ (Zb (Zf PP Zn v2 v3 h1) v4 h1) ∧ (Zb (Z1 PP Zn v1 h1) v2 h1) ∧ True) <|
 oD (Zf PP Zk v10 v9 h1) h1 fun v11 =>
 oD (Z1 PP Z0 v11 h1) h1 fun v12 =>
 oD (Z7 PP .sub Z0 v6 v12) h1 fun v13 =>
 oV v13 h1 fun v14 =>
 Zd PP [.v v14] h1 K
abbrev q2 (j2 : G3) (K : KT) : QT := Z4 (fun a h => j2 K (a 2) (a 3) (a 4) h) (q1 K)
def j1g (j2 : G3) (K : KT) (x2 x3 x4 : IV) (h : Heap) : Prop :=
 oV x2 h fun v1 =>
 oD (Z7 PP .lss Z0 v1 (.int .i64 0)) h fun v2 =>
 oV v2 h fun v3 =>
 oG (gW v3 false) (some x2) h fun v4 =>
 oG (gW v3 false) (Z2 PP Z6 x3 2) h fun v5 =>
 oG (gW v3 false) (Z1 PP Zn v5 h) h fun v6 =>
 oG (gW v3 false) (lenI PP Zn v6) h fun v7 =>
 oG (gW v3 false) (Z7 PP .geq Z0 v4 v7) h fun v8 =>
 oP sT (Ze v3 (.bool true) v8 h) h fun v9 =>
 bK' v9
   (oV (.int .i64 0) h fun v10 =>
   Zd PP [.v v10] h K)
   (j2 K x2 x3 x4 h)
abbrev j1 : G3 := j1g j2
abbrev q3 (j1 : G3) (K : KT) : QT := Z4 (fun a h => j1 K (a 2) (a 3) (a 4) h) (q1 K)
def eg (j1 : G3) (K : KT) (x0 x1 x2 : IV) (h : Heap) : Prop :=
 oA (Zi Z6 x0 h) h fun v1 h1 =>
 oA (Zi Z3 x1 h1) h1 fun v2 h2 =>
 oV (.int .i64 0) h2 fun v3 =>
 j1 K x2 v1 v2 h2
abbrev e : G3 := eg j1
theorem u2 (p : j2 K (a 2) (a 3) (a 4) h) : I c2 (q1 K) a h := ICx.to p
theorem j1_ok (j2 : G3) : I c3 (q2 j2 K) a h = j1g j2 K (a 2) (a 3) (a 4) h := by kernel_rfl
theorem u3 (p : j1 K (a 2) (a 3) (a 4) h) : I c3 (q2 j2 K) a h := ICx.to p (j1_ok j2)
theorem u1 (p : j1 K (a 2) (a 3) (a 4) h) : I c1 (q1 K) a h := ICx.sq (fun _ _ => u2) (u3 p)
theorem e_ok (j1 : G3) : I c4 (q3 j1 K) a h = eg j1 K (a 0) (a 1) (a 2) h := by kernel_rfl
theorem u4 (p : e K (a 0) (a 1) (a 2) h) : I c4 (q3 j1 K) a h := ICx.to p (e_ok j1)
theorem u0 (p : e K (a 0) (a 1) (a 2) h) : I c0 (q1 K) a h := ICx.sq (fun _ _ => u1) (u4 p)
theorem call {x0 x1 x2 : IV} (p : e K x0 x1 x2 h) : Z5 PP Z2v [x0, x1, x2] h K :=
  ICx.fn Try.mixed Try.func18 rfl (Nat.le_of_ble_eq_true rfl) (u0 (a := actI [x0, x1, x2]) p)
end Z2C
namespace Z2D
def D : Nat → DI
  | 3 => ⟨[0, 1, 0, 7, 15, 31, 0, 0, 192, 0, 960, 1984, 4095, 8191], [0, 1, 2, 3, 4, 5, 6, 7, 9, 8, 10, 11, 12, 13], []⟩
  | _ => ⟨[], [], []⟩
abbrev I := ICx PP 29 D
def c0 : Code := bodyN Try.f19
def c1 : Code := cR c0
def c2 : Code := cR c1
def c3 : Code := cL c1
def c4 : Code := cL c0
abbrev q1 (K : KT) : QT := finK PP Try.f19.results.toList K
def j2 (K : KT) (x2 x3 x4 : IV) (h : Heap) : Prop :=
 oD (Z2 PP Z6 x3 2) h fun v1 =>
 oD (Z1 PP Zn v1 h) h fun v2 =>
 oV x2 h fun v3 =>
 oD (Zf PP Zn v2 v3 h) h fun v4 =>
 oD (Z2 PP Zz v4 1) h fun v5 =>
 oD (Z1 PP Z0 v5 h) h fun v6 =>
 oD (Z1 PP Z6 x3 h) h fun v7 =>
 oD (Z1 PP Z3 x4 h) h fun v8 =>
 oV x2 h fun v9 =>
 Z5 PP Z2e [v7, v8] h fun v10 h1 => oB ((Zb (Z1 PP Z0 v5 h1) v6 h1) ∧ (Zb (Zf PP Zn v2 v3 h1) v4 h1) ∧ (Zb (Z1 PP Zn v1 h1) v2 h1) ∧ True) <|
 oD (Zf PP Zk v10 v9 h1) h1 fun v11 =>
 oD (Z1 PP Z0 v11 h1) h1 fun v12 =>
 oD (Z7 PP .sub Z0 v6 v12) h1 fun v13 =>
 oV v13 h1 fun v14 =>
 Zd PP [.v v14] h1 K
abbrev q2 (j2 : G3) (K : KT) : QT := Z4 (fun a h => j2 K (a 2) (a 3) (a 4) h) (q1 K)
def j1g (j2 : G3) (K : KT) (x2 x3 x4 : IV) (h : Heap) : Prop :=
 oV x2 h fun v1 =>
 oD (Z7 PP .lss Z0 v1 (.int .i64 0)) h fun v2 =>
 oV v2 h fun v3 =>
 oG (gW v3 false) (some x2) h fun v4 =>
 oG (gW v3 false) (Z2 PP Z6 x3 2) h fun v5 =>
 oG (gW v3 false) (Z1 PP Zn v5 h) h fun v6 =>
 oG (gW v3 false) (lenI PP Zn v6) h fun v7 =>
 oG (gW v3 false) (Z7 PP .geq Z0 v4 v7) h fun v8 =>
 oP sT (Ze v3 (.bool true) v8 h) h fun v9 =>
 bK' v9
   (oV (.int .i64 0) h fun v10 =>
   Zd PP [.v v10] h K)
   (j2 K x2 x3 x4 h)
abbrev j1 : G3 := j1g j2
abbrev q3 (j1 : G3) (K : KT) : QT := Z4 (fun a h => j1 K (a 2) (a 3) (a 4) h) (q1 K)
def eg (j1 : G3) (K : KT) (x0 x1 x2 : IV) (h : Heap) : Prop :=
 oA (Zi Z6 x0 h) h fun v1 h1 =>
 oA (Zi Z3 x1 h1) h1 fun v2 h2 =>
 oV (.int .i64 0) h2 fun v3 =>
 j1 K x2 v1 v2 h2
abbrev e : G3 := eg j1
theorem u2 (p : j2 K (a 2) (a 3) (a 4) h) : I c2 (q1 K) a h := ICx.to p
theorem j1_ok (j2 : G3) : I c3 (q2 j2 K) a h = j1g j2 K (a 2) (a 3) (a 4) h := by kernel_rfl
theorem u3 (p : j1 K (a 2) (a 3) (a 4) h) : I c3 (q2 j2 K) a h := ICx.to p (j1_ok j2)
theorem u1 (p : j1 K (a 2) (a 3) (a 4) h) : I c1 (q1 K) a h := ICx.sq (fun _ _ => u2) (u3 p)
theorem e_ok (j1 : G3) : I c4 (q3 j1 K) a h = eg j1 K (a 0) (a 1) (a 2) h := by kernel_rfl
theorem u4 (p : e K (a 0) (a 1) (a 2) h) : I c4 (q3 j1 K) a h := ICx.to p (e_ok j1)
theorem u0 (p : e K (a 0) (a 1) (a 2) h) : I c0 (q1 K) a h := ICx.sq (fun _ _ => u1) (u4 p)
theorem call {x0 x1 x2 : IV} (p : e K x0 x1 x2 h) : Z5 PP Z2T [x0, x1, x2] h K :=
  ICx.fn Try.mixed Try.func19 rfl (Nat.le_of_ble_eq_true rfl) (u0 (a := actI [x0, x1, x2]) p)
end Z2D
namespace Z40
def D : Nat → DI
  | _ => ⟨[], [], []⟩
abbrev I := ICx PP 12 D
def c0 : Code := bodyN Try.f20
abbrev q1 (K : KT) : QT := finK PP Try.f20.results.toList K
def e (K : KT) (x0 x1 : IV) (h : Heap) : Prop :=
 oV (.int .i64 0) h fun v1 =>
 oV x0 h fun v2 =>
 oV x1 h fun v3 =>
 oD (Z7 PP .rem Z0 v2 v3) h fun v4 =>
 oV x1 h fun v5 =>
 oD (Z7 PP .add Z0 v4 v5) h fun v6 =>
 oV x1 h fun v7 =>
 oD (Z7 PP .rem Z0 v6 v7) h fun v8 =>
 oV v8 h fun v9 =>
 Zd PP [.v v9] h K
theorem u0 (p : e K (a 0) (a 1) h) : I c0 (q1 K) a h := ICx.to p
theorem call {x0 x1 : IV} (p : e K x0 x1 h) : Z5 PP Z1I [x0, x1] h K :=
  ICx.fn Try.mixed Try.func20 rfl (Nat.le_of_ble_eq_true rfl) (u0 (a := actI [x0, x1]) p)
end Z40
namespace Z4w
def D : Nat → DI
  | _ => ⟨[], [], []⟩
abbrev I := ICx PP 17 D
def c0 : Code := bodyN Try.f21
abbrev q1 (K : KT) : QT := finK PP Try.f21.results.toList K
def e (K : KT) (x0 x1 x2 : IV) (h : Heap) : Prop :=
 oA (Zi Z6 x0 h) h fun v1 h1 =>
 oA (Zi Z3 x1 h1) h1 fun v2 h2 =>
 oA (Zi Z0 x2 h2) h2 fun v3 h3 =>
 oV (.snil) h3 fun v4 =>
 oD (Z2 PP Z6 v1 2) h3 fun v5 =>
 oD (Z1 PP Zn v5 h3) h3 fun v6 =>
 oD (lenI PP Zn v6) h3 fun v7 =>
 oA (Z12 PP ZF v7 v7 h3) h3 fun v8 h4 =>
 oA (Zp PP ZF h4) h4 fun v9 h5 =>
 oS (Z9 PP ZF v9 v8 h5) h5 fun h6 =>
 oD (Z1 PP Z6 v1 h6) h6 fun v10 =>
 oD (Z1 PP Z3 v2 h6) h6 fun v11 =>
 oV (.fn Z3p [v1, v3, v9]) h6 fun v12 =>
 Z5 PP Z2g [v10, v11, v12] h6 fun v13 h7 =>
 oD (Z1 PP ZF v9 h7) h7 fun v14 =>
 oV v14 h7 fun v15 =>
 Zd PP [.v v15] h7 K
theorem u0 (p : e K (a 0) (a 1) (a 2) h) : I c0 (q1 K) a h := ICx.to p
theorem call {x0 x1 x2 : IV} (p : e K x0 x1 x2 h) : Z5 PP Z2w [x0, x1, x2] h K :=
  ICx.fn Try.mixed Try.func21 rfl (Nat.le_of_ble_eq_true rfl) (u0 (a := actI [x0, x1, x2]) p)
end Z4w
namespace Z1o
def D : Nat → DI
  | 7 => ⟨[0, 0, 2, 0, 8, 0, 56, 120, 248, 0, 512, 0, 3584, 7680, 15872, 32760, 65535], [0, 1, 2, 3, 4, 5, 6, 7, 8, 9, 10, 11, 12, 13, 14, 15, 16], []⟩
  | _ => ⟨[], [], []⟩
abbrev I := ICx PP 61 D
def c0 : Code := bodyN Try.f22
def c1 : Code := cR c0
def c2 : Code := cR c1
def c3 : Code := cR c2
def c4 : Code := cL c2
def c5 : Code := cR c4
def c6 : Code := cL c5
def c7 : Code := cL c6
def c8 : Code := cR c7
def c9 : Code := cR c8
def c10 : Code := cL c8
def c11 : Code := cL c7
def c12 : Code := cL c4
def c13 : Code := cL c1
def c14 : Code := cL c0
abbrev q1 (K : KT) : QT := finK PP Try.f22.results.toList K
def j5 (K : KT) (x7 : IV) (h : Heap) : Prop :=
 oV x7 h fun v1 =>
 oV v1 h fun v2 =>
 Zd PP [.v v2] h K
abbrev q2 (j5 : G1) (K : KT) : QT := Z4 (fun a h => j5 K (a 7) h) (q1 K)
abbrev q3 (j5 : G1) (K : KT) : QT := Zq 0 (q2 j5 K)
def l1 (K : KT) (x2 x3 x4 x7 x8 : IV) (h : Heap) : Prop := ∀ a : IAct, a 2 = x2 → a 3 = x3 → a 4 = x4 → a 7 = x7 → a 8 = x8 → ILoop PP 61 c7 (q3 j5 K) a h
abbrev q4 (l1 : G5) (j5 : G1) (K : KT) : QT := Z4 (fun a h => l1 K (a 2) (a 3) (a 4) (a 7) (a 8) h) (q3 j5 K)
def j4g (l1 : G5) (j5 : G1) (K : KT) (x2 x3 x4 x7 x8 : IV) (h : Heap) : Prop :=
 oV x8 h fun v1 =>
 oD (Z7 PP .add Z0 v1 (.int .i64 1)) h fun v2 =>
 oV v2 h fun v3 =>
 l1 K x2 x3 x4 x7 v3 h
abbrev j4 : G5 := j4g l1 j5
abbrev q5 (j4 : G5) (l1 : G5) (j5 : G1) (K : KT) : QT := Z4 (fun a h => j4 K (a 2) (a 3) (a 4) (a 7) (a 8) h) (q4 l1 j5 K)
def j3g (j4 : G5) (l1 : G5) (j5 : G1) (K : KT) (x2 x3 x4 x7 x8 : IV) (h : Heap) : Prop :=
 oD (Z2 PP Z3 x4 2) h fun v1 =>
 oD (Z1 PP Zh v1 h) h fun v2 =>
 oV x8 h fun v3 =>
 oD (Zf PP Zh v2 v3 h) h fun v4 =>
 oD (Z1 PP Za v4 h) h fun v5 =>
 oA (Zp PP Za h) h fun v6 h1 =>
 oS (Z9 PP Za v6 v5 h1) h1 fun h2 =>
 oD (Z1 PP Z6 x3 h2) h2 fun v7 =>
 oD (Z1 PP Za v6 h2) h2 fun v8 =>
 oV x2 h2 fun v9 =>
 Z5 PP Z2W [v7, v8, v9] h2 fun v10 h3 =>
 oV v10 h3 fun v11 =>
 oG (gW v11 true) (Z2 PP Za v6 3) h3 fun v12 =>
 oG (gW v11 true) (Z1 PP Z0 v12 h3) h3 fun v13 =>
 oG (gW v11 true) (Z7 PP .geq Z0 v13 (.int .i64 0)) h3 fun v14 =>
 oP sT (Ze v11 v14 (.bool false) h3) h3 fun v15 =>
 oV v15 h3 fun v16 =>
 oG (gW v16 true) (Z1 PP Z6 x3 h3) h3 fun v17 =>
 oG (gW v16 true) (Z2 PP Za v6 3) h3 fun v18 =>
 oG (gW v16 true) (Z1 PP Z0 v18 h3) h3 fun v19 =>
 Zm PP (gW v16 true) Z1l [v17, v19] h3 fun v20 h4 =>
 oG (gW v16 true) (some x2) h4 fun v21 =>
 oG (gW v16 true) (Z7 PP .neq Z0 v20 v21) h4 fun v22 =>
 oP sT (Ze v16 v22 (.bool false) h4) h4 fun v23 =>
 bK' v23
   (oV x7 h4 fun v24 =>
   oD (Z2 PP Za v6 3) h4 fun v25 =>
   oD (Z1 PP Z0 v25 h4) h4 fun v26 =>
   oD (Z2 PP Z6 x3 3) h4 fun v27 =>
   oD (Z1 PP Zw v27 h4) h4 fun v28 =>
   oV x8 h4 fun v29 =>
   oD (Zf PP Zw v28 v29 h4) h4 fun v30 =>
   oD (Z2 PP Zs v30 0) h4 fun v31 =>
   oD (Z1 PP Z0 v31 h4) h4 fun v32 =>
   oD (Z2 PP Z6 x3 3) h4 fun v33 =>
   oD (Z1 PP Zw v33 h4) h4 fun v34 =>
   oV x8 h4 fun v35 =>
   oD (Zf PP Zw v34 v35 h4) h4 fun v36 =>
   oD (Z2 PP Zs v36 1) h4 fun v37 =>
   oD (Z1 PP Z0 v37 h4) h4 fun v38 =>
   oD (Z7 PP .sub Z0 v32 v38) h4 fun v39 =>
   Z5 PP Z1R [v24, v26, v39] h4 fun v40 h5 => oB (True) <|
   j4 K x2 x3 x4 x7 x8 h5)
   (j4 K x2 x3 x4 x7 x8 h4)
abbrev j3 : G5 := j3g j4 l1 j5
abbrev q6 (j3 : G5) (l1 : G5) (j5 : G1) (K : KT) : QT := Z4 (fun a h => j3 K (a 2) (a 3) (a 4) (a 7) (a 8) h) (q4 l1 j5 K)
def b1g (j3 : G5) (l1 : G5) (j5 : G1) (K : KT) (x2 x3 x4 x7 x8 : IV) (h : Heap) : Prop :=
 oV x8 h fun v1 =>
 oD (Z2 PP Z3 x4 2) h fun v2 =>
 oD (Z1 PP Zh v2 h) h fun v3 =>
 oD (lenI PP Zh v3) h fun v4 =>
 oD (Z7 PP .lss Z0 v1 v4) h fun v5 =>
 bK' v5
   (j3 K x2 x3 x4 x7 x8 h)
   (j5 K x7 h)
abbrev b1 : G5 := b1g j3 l1 j5
abbrev q7 (l1 : G5) (j5 : G1) (K : KT) : QT := Z4 (fun a h => l1 K (a 2) (a 3) (a 4) (a 7) (a 8) h) (q2 j5 K)
def j2g (l1 : G5) (j5 : G1) (K : KT) (x2 x3 x4 x7 : IV) (h : Heap) : Prop :=
 oV (.int .i64 0) h fun v1 =>
 l1 K x2 x3 x4 x7 v1 h
abbrev j2 : G4 := j2g l1 j5
abbrev q8 (j2 : G4) (K : KT) : QT := Z4 (fun a h => j2 K (a 2) (a 3) (a 4) (a 7) h) (q1 K)
def j1g (j2 : G4) (K : KT) (x2 x3 x4 : IV) (h : Heap) : Prop :=
 oD (Z2 PP Z6 x3 2) h fun v1 =>
 oD (Z1 PP Zn v1 h) h fun v2 =>
 oD (lenI PP Zn v2) h fun v3 =>
 oA (Z12 PP Zk v3 v3 h) h fun v4 h1 =>
 oV v4 h1 fun v5 =>
 j2 K x2 x3 x4 v5 h1
abbrev j1 : G3 := j1g j2
abbrev q9 (j1 : G3) (K : KT) : QT := Z4 (fun a h => j1 K (a 2) (a 3) (a 4) h) (q1 K)
def eg (j1 : G3) (K : KT) (x0 x1 x2 : IV) (h : Heap) : Prop :=
 oA (Zi Z6 x0 h) h fun v1 h1 =>
 oA (Zi Z3 x1 h1) h1 fun v2 h2 =>
 oV (.snil) h2 fun v3 =>
 j1 K x2 v1 v2 h2
abbrev e : G3 := eg j1
theorem u3 (p : j5 K (a 7) h) : I c3 (q1 K) a h := ICx.to p
theorem j4_ok (l1 : G5) (j5 : G1) : I c9 (q4 l1 j5 K) a h = j4g l1 j5 K (a 2) (a 3) (a 4) (a 7) (a 8) h := by kernel_rfl
theorem u9 (p : j4 K (a 2) (a 3) (a 4) (a 7) (a 8) h) : I c9 (q4 l1 j5 K) a h := ICx.to p (j4_ok l1 j5)
theorem j3_ok (j4 : G5) (l1 : G5) (j5 : G1) : I c10 (q5 j4 l1 j5 K) a h = j3g j4 l1 j5 K (a 2) (a 3) (a 4) (a 7) (a 8) h := by kernel_rfl
theorem u10 (p : j3 K (a 2) (a 3) (a 4) (a 7) (a 8) h) : I c10 (q5 j4 l1 j5 K) a h := ICx.to p (j3_ok j4 l1 j5)
theorem u8 (p : j3 K (a 2) (a 3) (a 4) (a 7) (a 8) h) : I c8 (q4 l1 j5 K) a h := ICx.sq (fun _ _ => u9) (u10 p)
theorem b1_ok (j3 : G5) (l1 : G5) (j5 : G1) : I c11 (q6 j3 l1 j5 K) a h = b1g j3 l1 j5 K (a 2) (a 3) (a 4) (a 7) (a 8) h := by kernel_rfl
theorem u11 (p : b1 K (a 2) (a 3) (a 4) (a 7) (a 8) h) : I c11 (q6 j3 l1 j5 K) a h := ICx.to p (b1_ok j3 l1 j5)
theorem u7 (p : b1 K (a 2) (a 3) (a 4) (a 7) (a 8) h) : I c7 (q4 l1 j5 K) a h := ICx.sq (fun _ _ => u8) (u11 p)
theorem u6 (p : l1 K (a 2) (a 3) (a 4) (a 7) (a 8) h) : I c6 (q3 j5 K) a h := ICx.lp (p a rfl rfl rfl rfl rfl)
theorem l1_round {x2 x3 x4 x7 x8 : IV} (p : b1 K x2 x3 x4 x7 x8 h) : l1 K x2 x3 x4 x7 x8 h := by
  intro a e2 e3 e4 e7 e8
  subst e2; subst e3; subst e4; subst e7; subst e8; exact ICx.round Try.mixed (D := D) (L := fun a h => l1 K (a 2) (a 3) (a 4) (a 7) (a 8) h) (fun a h p => p a rfl rfl rfl rfl rfl) (u7 p)
theorem u5 (p : l1 K (a 2) (a 3) (a 4) (a 7) (a 8) h) : I c5 (q2 j5 K) a h := ICx.blk (u6 p)
theorem j2_ok (l1 : G5) (j5 : G1) : I c12 (q7 l1 j5 K) a h = j2g l1 j5 K (a 2) (a 3) (a 4) (a 7) h := by kernel_rfl
theorem u12 (p : j2 K (a 2) (a 3) (a 4) (a 7) h) : I c12 (q7 l1 j5 K) a h := ICx.to p (j2_ok l1 j5)
theorem u4 (p : j2 K (a 2) (a 3) (a 4) (a 7) h) : I c4 (q2 j5 K) a h := ICx.sq (fun _ _ => u5) (u12 p)
theorem u2 (p : j2 K (a 2) (a 3) (a 4) (a 7) h) : I c2 (q1 K) a h := ICx.sq (fun _ _ => u3) (u4 p)
theorem j1_ok (j2 : G4) : I c13 (q8 j2 K) a h = j1g j2 K (a 2) (a 3) (a 4) h := by kernel_rfl
theorem u13 (p : j1 K (a 2) (a 3) (a 4) h) : I c13 (q8 j2 K) a h := ICx.to p (j1_ok j2)
theorem u1 (p : j1 K (a 2) (a 3) (a 4) h) : I c1 (q1 K) a h := ICx.sq (fun _ _ => u2) (u13 p)
theorem e_ok (j1 : G3) : I c14 (q9 j1 K) a h = eg j1 K (a 0) (a 1) (a 2) h := by kernel_rfl
theorem u14 (p : e K (a 0) (a 1) (a 2) h) : I c14 (q9 j1 K) a h := ICx.to p (e_ok j1)
theorem u0 (p : e K (a 0) (a 1) (a 2) h) : I c0 (q1 K) a h := ICx.sq (fun _ _ => u1) (u14 p)
theorem call {x0 x1 x2 : IV} (p : e K x0 x1 x2 h) : Z5 PP Z2x [x0, x1, x2] h K :=
  ICx.fn Try.mixed Try.func22 rfl (Nat.le_of_ble_eq_true rfl) (u0 (a := actI [x0, x1, x2]) p)
end Z1o
end
end Go.Ideal
