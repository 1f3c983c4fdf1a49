/- What the disk's functions do. -/
import Derived.Test.YtjfpggiglgkfeaaDF1
import Derived.Test.YtjfpggiglgkfeaaDC0
import Derived.Test.YtjfpggiglgkfeaaDC1
set_option linter.unusedVariables false
set_option linter.unusedSimpArgs false
namespace Go.Ideal
open Go.Proofs

abbrev DD := Dk 5 47
abbrev RR := Dk 5 44

theorem LS.app {h : Heap} {s x : IV} {b : Nat} {xs ys : List Int} {K : IV → Heap → Prop} (l : LS 5 h s b xs) (hx : srcI h 1 x = some (byt ys)) (hlen : xs.length + ys.length ≤ 1073741824)
    (k : ∀ s' b' h', LS 5 h' s' b' (xs ++ ys) → Fr [b] h h' → (b' = b ∨ h.length ≤ b' ∧ b' < h'.length) → K s' h') : oA (appendI Try.prog 22 22 s x h) h K :=
  LS.append l hx el22 el22 zr5 sz5 by5 (by decide) hlen k

theorem new47 {h : Heap} {K : IV → Heap → Prop} (k : DD (h ++ [some ⟨2, 47, [[.snil, .int .i64 0]]⟩]) h.length h.length [] 0 → K (.ptr h.length 0 0) (h ++ [some ⟨2, 47, [[.snil, .int .i64 0]]⟩])) : CallsI Try.prog 8 [] h K := by
  apply F8
  simp only [F8_1, buildV, zr47, fl47, fillI, Option.map_some, oD_some, boxI, cellsI, oA_some, retK_v]
  exact k ⟨.snil, by simp, .inl ⟨rfl, rfl⟩, by simp⟩
theorem new44 {h : Heap} {K : IV → Heap → Prop} (k : RR (h ++ [some ⟨2, 44, [[.snil, .int .i64 0]]⟩]) h.length h.length [] 0 → K (.ptr h.length 0 0) (h ++ [some ⟨2, 44, [[.snil, .int .i64 0]]⟩])) : CallsI Try.prog 16 [] h K := by
  apply F16
  simp only [F16_1, buildV, zr44, fl44, fillI, Option.map_some, oD_some, boxI, cellsI, oA_some, retK_v]
  exact k ⟨.snil, by simp, .inl ⟨rfl, rfl⟩, by simp⟩

/-- The disk's fields are read. -/
theorem fa47_0 (d : Nat) : fieldAddrI Try.prog 47 (.ptr d 0 0) 0 = some (.ptr d 0 0) := by simp [fieldAddrI]
theorem fa47_1 (d : Nat) : fieldAddrI Try.prog 47 (.ptr d 0 0) 1 = some (.ptr d 0 1) := by simp [fieldAddrI]
theorem fa44_0 (d : Nat) : fieldAddrI Try.prog 44 (.ptr d 0 0) 0 = some (.ptr d 0 0) := by simp [fieldAddrI]
theorem fa44_1 (d : Nat) : fieldAddrI Try.prog 44 (.ptr d 0 0) 1 = some (.ptr d 0 1) := by simp [fieldAddrI]
theorem ld0 {h : Heap} {d t : Nat} {s n : IV} (hd : h[d]? = some (some ⟨2, t, [[s, n]]⟩)) : loadI Try.prog 22 (.ptr d 0 0) h = some s := by simp [loadI, cellsOf, hd]
theorem ld1 {h : Heap} {d t : Nat} {s n : IV} (hd : h[d]? = some (some ⟨2, t, [[s, n]]⟩)) : loadI Try.prog 3 (.ptr d 0 1) h = some n := by simp [loadI, cellsOf, hd]
theorem LS.one {e : TypeId} {h : Heap} {s : IV} {b : Nat} {xs : List Int} (l : LS e h s b xs) : cellsI s = some [s] ∧ oneI s = true := by
  rcases l with ⟨rfl, rfl⟩ | ⟨lo, es, rfl, _⟩ <;> exact ⟨rfl, rfl⟩
theorem st0 {h : Heap} {d t : Nat} {s n x : IV} (hd : h[d]? = some (some ⟨2, t, [[s, n]]⟩)) (hx : cellsI x = some [x] ∧ oneI x = true) : storeI Try.prog 22 (.ptr d 0 0) x h = some (h.set d (some ⟨2, t, [[x, n]]⟩)) := by
  simp [storeI, hd, hx, splice]
theorem st1 {h : Heap} {d t : Nat} {s n : IV} {m : Int} (hd : h[d]? = some (some ⟨2, t, [[s, n]]⟩)) : storeI Try.prog 3 (.ptr d 0 1) (.int .i64 m) h = some (h.set d (some ⟨2, t, [[s, .int .i64 m]]⟩)) := by
  simp [storeI, hd, cellsI, oneI, splice]
theorem set_get {h : Heap} {d : Nat} {x y : Option Blk} (hd : h[d]? = some x) : (h.set d y)[d]? = some y := by
  have := (List.getElem?_eq_some_iff.1 hd).1
  simp [this]


theorem Dk.own {e t : TypeId} {h : Heap} {d b : Nat} {xs : List Int} {n : Int} (k : Dk e t h d b xs n) : ∃ s b0, h[d]? = some (some ⟨2, t, [[s, .int .i64 n]]⟩) ∧ LS e h s b0 xs ∧ b0 ≠ d ∧ (b0 = b ∨ h.length ≤ b0) := by
  have hlt := k.lt
  obtain ⟨s, h1, h2, h3⟩ := k
  by_cases hb : b = d
  · have := h3.1 hb
    subst this
    rcases h2 with ⟨_, rfl⟩ | ⟨lo, es, h4, _⟩
    · exact ⟨_, h.length, h1, .inl ⟨rfl, rfl⟩, by omega, .inr (Nat.le_refl _)⟩
    · cases h4
  · exact ⟨s, b, h1, h2, hb, .inl rfl⟩
theorem Dk.put {e t : TypeId} {h : Heap} {d b : Nat} {xs : List Int} {n : Int} {s : IV} {x : Option Blk} (hd : h[d]? = some x) (l : LS e h s b xs) (hb : b ≠ d) : ∃ b', Dk e t (h.set d (some ⟨2, t, [[s, .int .i64 n]]⟩)) d b' xs n ∧ (b' = b ∨ b' = d) := by
  have l' : LS e (h.set d (some ⟨2, t, [[s, .int .i64 n]]⟩)) s b xs := l.fr (Fr.set (A := [d]) (by simp) _) (by simpa using hb)
  by_cases hs : s = .snil
  · subst hs
    rcases l with ⟨_, rfl⟩ | ⟨lo, es, h4, _⟩
    · exact ⟨d, ⟨.snil, set_get hd, .inl ⟨rfl, rfl⟩, by simp⟩, .inr rfl⟩
    · cases h4
  · exact ⟨b, ⟨s, set_get hd, l', by simp [hb, hs]⟩, .inl rfl⟩
theorem Fr.own {h h' h'' : Heap} {d b b0 : Nat} (p : Fr [b0] h h') (hb : b0 = b ∨ h.length ≤ b0) (q : Fr [d] h' h'') : Fr [d, b] h h'' :=
  p.trans q (fun i hi hm => by simp at hm ⊢; omega) (fun i hi hm => by simp at hm ⊢; omega)
theorem wrap64 {x : Int} (h1 : -9223372036854775808 ≤ x) (h2 : x ≤ 9223372036854775807) : IntKind.i64.wrap x = x := by
  have e : IntKind.i64.wrap x = if 9223372036854775808 ≤ x % 18446744073709551616 then x % 18446744073709551616 - 18446744073709551616 else x % 18446744073709551616 := by
    simp [IntKind.wrap, IntKind.bits, IntKind.signed]
  rw [e]
  split <;> omega

theorem append47 {h : Heap} {d b : Nat} {x : IV} {xs ys : List Int} {n : Int} {K : IV → Heap → Prop} (hd : DD h d b xs n) (hx : srcI h 1 x = some (byt ys)) (hlen : xs.length + ys.length ≤ 1073741824)
    (k : ∀ b' h', DD h' d b' (xs ++ ys) n → Fr [d, b] h h' → (b' = b ∨ b' = d ∨ h.length ≤ b') → K (.tup []) h') : CallsI Try.prog 10 [.ptr d 0 0, x] h K := by
  apply F10
  have hlt := hd.lt
  obtain ⟨s, b0, h1, h2, h3, h4⟩ := hd.own
  simp only [F10_1, nilI_ptr, oP_some, fa47_0, ld0 h1, oD_some]
  refine h2.app hx hlen fun s' b' h' l' f' hb' => ?_
  have h1' := f'.get h1 (by simp; omega)
  simp only [nilI_ptr, oP_some, fa47_0, oD_some, st0 h1' l'.one, oS_some, retK_nil]
  obtain ⟨b2, d2, e2⟩ := Dk.put (t := 47) (n := n) h1' l' (by omega)
  exact k b2 _ d2 (f'.own h4 (Fr.set (by simp) _)) (by omega)

theorem sync47 {h : Heap} {d b : Nat} {xs : List Int} {n : Int} {K : IV → Heap → Prop} (hd : DD h d b xs n)
    (k : ∀ b' h', DD h' d b' xs xs.length → Fr [d, b] h h' → (b' = b ∨ b' = d ∨ h.length ≤ b') → K (.tup []) h') : CallsI Try.prog 11 [.ptr d 0 0] h K := by
  apply F11
  obtain ⟨s, b0, h1, h2, h3, h4⟩ := hd.own
  simp only [F11_1, nilI_ptr, oP_some, fa47_0, fa47_1, ld0 h1, oD_some, h2.len el22, st1 h1, oS_some, retK_nil]
  obtain ⟨b2, d2, e2⟩ := Dk.put (t := 47) (n := xs.length) h1 h2 h3
  exact k b2 _ d2 ((Fr.refl [b0] h).own h4 (Fr.set (by simp) _)) (by omega)

theorem durable47 {h : Heap} {d b : Nat} {xs : List Int} {n : Int} {K : IV → Heap → Prop} (hd : DD h d b xs n) (k : K (.int .i64 n) h) : CallsI Try.prog 14 [.ptr d 0 0] h K := by
  apply F14
  obtain ⟨s, h1, h2, h3⟩ := hd
  simp only [F14_1, nilI_ptr, oP_some, fa47_0, fa47_1, ld1 h1, oD_some, retK_v]
  exact k

def crashN (n keep len : Int) : Int := n + max 0 (min keep (len - n))

theorem crash47 {h : Heap} {d b : Nat} {xs : List Int} {n keep : Int} {K : IV → Heap → Prop} (hd : DD h d b xs n) (hlen : xs.length ≤ 1073741824) (h0 : 0 ≤ n) (hn : n ≤ xs.length)
    (k : ∀ b' h', DD h' d b' (xs.take (crashN n keep xs.length).toNat) (crashN n keep xs.length) → Fr [d, b] h h' → (b' = b ∨ b' = d ∨ h.length ≤ b') → K (.tup []) h') : CallsI Try.prog 12 [.ptr d 0 0, .int .i64 keep] h K := by
  apply F12
  obtain ⟨s, b0, h1, h2, h3, h4⟩ := hd.own
  have hm : (crashN n keep xs.length) = n + (if (if (xs.length : Int) - n < keep then (xs.length : Int) - n else keep) > 0 then (if (xs.length : Int) - n < keep then (xs.length : Int) - n else keep) else 0) := by
    unfold crashN; split <;> split <;> omega
  have hm0 : 0 ≤ crashN n keep xs.length := by unfold crashN; omega
  have hm1 : crashN n keep xs.length ≤ xs.length := by unfold crashN; omega
  simp only [F12_5, F12_4, F12_4g, F12_3, F12_2, F12_2g, nilI_ptr, oP_some, fa47_0, fa47_1, ld0 h1, ld1 h1, oD_some, h2.len el22, binI, arithI, if_true]
  rw [wrap64 (x := (xs.length : Int) - n) (by omega) (by omega)]
  simp only [mmI, if_true, Bool.false_eq_true, if_false, oD_some, ← hm]
  rw [wrap64 (by omega) (by omega)]
  obtain ⟨s', e1, l'⟩ := h2.slice (k := .i64) el22 sz5 hm0 hm1
  simp only [e1, oD_some, st0 h1 l'.one, oS_some, true_and]
  have g1 := set_get (y := some ⟨2, 47, [[s', .int .i64 n]]⟩) h1
  have l2 : LS 5 (h.set d (some ⟨2, 47, [[s', .int .i64 n]]⟩)) s' b0 _ := l'.fr (Fr.set (A := [d]) (by simp) _) (by simpa using h3)
  simp only [F12_1, nilI_ptr, oP_some, fa47_0, fa47_1, ld0 g1, oD_some, l2.len el22, st1 g1, oS_some, retK_nil]
  have e2 : ((xs.take (crashN n keep xs.length).toNat).length : Int) = crashN n keep xs.length := by simp; omega
  rw [e2]
  obtain ⟨b2, d2, e4⟩ := Dk.put (t := 47) (n := crashN n keep xs.length) g1 l2 h3
  exact k b2 _ d2 ((Fr.refl [b0] h).own h4 ((Fr.set (A := [d]) (by simp) _).trans (C := [d]) (Fr.set (A := [d]) (by simp) _) (fun _ _ h => h) (fun _ _ h => h))) (by omega)

/-- What Bytes hands back is a new slice. -/
theorem bytes47L {h : Heap} {d b : Nat} {xs : List Int} {n : Int} {K : IV → Heap → Prop} (hd : DD h d b xs n) (hlen : xs.length ≤ 1073741824)
    (k : ∀ s' b' h', LS 5 h' s' b' xs → Fr [] h h' → h.length ≤ b' → K s' h') : CallsI Try.prog 13 [.ptr d 0 0] h K := by
  apply F13
  obtain ⟨s, b0, h1, h2, h3, h4⟩ := hd.own
  simp only [F13_1, nilI_ptr, oP_some, fa47_0, ld0 h1, oD_some, h2.len el22]
  obtain ⟨s', e1, l'⟩ := h2.slice (k := .i64) (m := xs.length) el22 sz5 (by omega) (by omega)
  simp only [e1, oD_some]
  have hl : LS 5 h .snil h.length [] := .inl ⟨rfl, rfl⟩
  refine hl.app l'.src (by simp; exact hlen) fun s2 b2 h2 l2 f2 hb2 => ⟨trivial, ?_⟩
  simp only [retK_v]
  refine k s2 b2 h2 (by simpa using l2) ⟨f2.1, fun i hi _ => f2.2 i hi (by simp; omega)⟩ (by omega)
theorem bel_byt (n : Nat) : ∀ xs : List Int, Belss n (byt xs)
  | [] => trivial
  | x :: xs => ⟨⟨trivial, trivial⟩, bel_byt n xs⟩
theorem bytes47 {h : Heap} {d b : Nat} {xs : List Int} {n : Int} {K : IV → Heap → Prop} (hd : DD h d b xs n) (hlen : xs.length ≤ 1073741824) (k : K (.vs 1 (byt xs)) h) : CallsI Try.prog 13 [.ptr d 0 0] h K := by
  refine CallsI.pure (CallsI.says (bytes47L hd hlen (K := fun s' h' => ∃ b', LS 5 h' s' b' xs ∧ Fr [] h h' ∧ h.length ≤ b') fun s' b' h' l f hb => ⟨b', l, f, hb⟩) ?_)
  rintro r h' ⟨b', l, f, hb⟩
  have hbel : Bel h.length (.vs 1 (byt xs)) := bel_byt _ _
  rcases l with ⟨rfl, rfl⟩ | ⟨lo, es, rfl, h2, h3, h4⟩
  · exact ⟨_, _, Says.nil 1, hbel, f.pfx, fun _ => k⟩
  · refine ⟨_, _, Says.freeze h2 h3, ?_, ?_, fun _ => ?_⟩
    · rw [h4]; exact hbel
    · exact (Fr.pfx ⟨by simpa using f.1, fun i hi _ => by rw [List.getElem?_set_ne (by omega)]; exact f.2 i hi (by simp)⟩)
    · rw [h4]; exact k

theorem same_bytes {h : Heap} {x y : IV} {xs : List Int} {K : IV → Heap → Prop} (hx : srcI h 1 x = some (byt xs)) (hy : srcI h 1 y = some (byt xs)) (k : K (.bool true) h) : CallsI Try.prog 15 [x, y] h K := by
  apply F15
  have hc : ∀ z, srcI h 1 z = some (byt xs) → convI Try.prog 22 9 z h = some (.str (strOfNums xs)) := by
    intro z hz
    unfold convI
    split
    · simp [srcI] at hz
    · simp [hz]
  simp only [F15_1, hc x hx, hc y hy, oD_some, binI, strI, BEq.rfl, retK_v]
  exact k
end Go.Ideal
