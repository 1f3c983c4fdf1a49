/- Slices of bytes and frames on the ideal memory. -/
import Derived.Test.YtjfpggiglgkfeaaDS1
set_option linter.unusedVariables false
set_option linter.unusedSimpArgs false
namespace Go.Ideal

def byt (xs : List Int) : List (List IV) := xs.map fun x => [.int .u8 x]
@[simp] theorem byt_length (xs : List Int) : (byt xs).length = xs.length := by simp [byt]
theorem byt_append (xs ys : List Int) : byt (xs ++ ys) = byt xs ++ byt ys := by simp [byt]
theorem byt_take (xs : List Int) (n : Nat) : (byt xs).take n = byt (xs.take n) := by simp [byt]
@[simp] theorem byt_nil : byt [] = [] := rfl
theorem byt_eq_nil {xs : List Int} : byt xs = [] ↔ xs = [] := by simp [byt]
@[simp] theorem bytesI_byt : ∀ xs : List Int, bytesI (byt xs) = some xs
  | [] => rfl
  | x :: xs => by
    have := bytesI_byt xs
    simp only [byt] at this
    simp [byt, bytesI, this]
@[simp] theorem onesI_byt (xs : List Int) : onesI (byt xs) = true := by simp [onesI, byt, oneI]

/-- What is changed lies in A, or is new. -/
def Fr (A : List Nat) (h h' : Heap) : Prop := h.length ≤ h'.length ∧ ∀ i, i < h.length → i ∉ A → h'[i]? = h[i]?
theorem Fr.refl (A : List Nat) (h : Heap) : Fr A h h := ⟨Nat.le_refl _, fun _ _ _ => rfl⟩
theorem Fr.trans {A B C : List Nat} {h h' h'' : Heap} (p : Fr A h h') (q : Fr B h' h'') (ha : ∀ i, i < h.length → i ∈ A → i ∈ C) (hb : ∀ i, i < h.length → i ∈ B → i ∈ C) : Fr C h h'' :=
  ⟨Nat.le_trans p.1 q.1, fun i hi hc => by rw [q.2 i (Nat.lt_of_lt_of_le hi p.1) fun k => hc (hb i hi k), p.2 i hi fun k => hc (ha i hi k)]⟩
theorem Fr.set {A : List Nat} {h : Heap} {b : Nat} (hb : b ∈ A) (x : Option Blk) : Fr A h (h.set b x) :=
  ⟨by simp, fun i _ hi => by rw [List.getElem?_set_ne]; rintro rfl; exact hi hb⟩
theorem Fr.push (A : List Nat) (h l : Heap) : Fr A h (h ++ l) := ⟨by simp, fun i hi _ => List.getElem?_append_left hi⟩
theorem Fr.get {A : List Nat} {h h' : Heap} (p : Fr A h h') {b : Nat} {x : Option Blk} (hx : h[b]? = some x) (hb : b ∉ A) : h'[b]? = some x := by
  rw [p.2 b (List.getElem?_eq_some_iff.1 hx).1 hb]; exact hx
theorem Fr.pfx {h h' : Heap} (p : Fr [] h h') : h <+: h' := by
  refine ⟨h'.drop h.length, ?_⟩
  have : h'.take h.length = h := by
    apply List.ext_getElem?
    intro i
    rw [List.getElem?_take]
    split
    · exact p.2 i (by assumption) (by simp)
    · rw [List.getElem?_eq_none (by omega)]
  conv => lhs; lhs; rw [← this]
  exact List.take_append_drop _ _

/-- A live slice of bytes, in block b. -/
def LS (e : TypeId) (h : Heap) (s : IV) (b : Nat) (xs : List Int) : Prop :=
  (s = .snil ∧ xs = []) ∨ ∃ lo es, s = .sl b lo xs.length ∧ h[b]? = some (some ⟨1, e, es⟩) ∧ lo + xs.length ≤ es.length ∧ (es.drop lo).take xs.length = byt xs

theorem LS.fr {e : TypeId} {h h' : Heap} {s : IV} {b : Nat} {xs : List Int} {A : List Nat} (l : LS e h s b xs) (p : Fr A h h') (hb : b ∉ A) : LS e h' s b xs := by
  rcases l with l | ⟨lo, es, h1, h2, h3⟩
  · exact .inl l
  · exact .inr ⟨lo, es, h1, p.get h2 hb, h3⟩
theorem LS.src {e : TypeId} {h : Heap} {s : IV} {b : Nat} {xs : List Int} (l : LS e h s b xs) : srcI h 1 s = some (byt xs) := by
  rcases l with ⟨rfl, rfl⟩ | ⟨lo, es, rfl, h2, h3, h4⟩
  · rfl
  · simp [srcI, h2, h3, h4]
@[simp] theorem src_vs (h : Heap) (es : List (List IV)) : srcI h 1 (.vs 1 es) = some es := rfl
theorem LS.len {e : TypeId} {h : Heap} {s : IV} {b : Nat} {xs : List Int} {P : Program} {t t' : TypeId} (l : LS e h s b xs) (ht : elO P t = some t') : lenI P t s = some (.int .i64 xs.length) := by
  rcases l with ⟨rfl, rfl⟩ | ⟨lo, es, rfl, h2, h3, h4⟩ <;> simp [lenI, ht]
theorem LS.slice {e : TypeId} {h : Heap} {s : IV} {b : Nat} {xs : List Int} {P : Program} {t t' : TypeId} {k : IntKind} {m : Int} (l : LS e h s b xs) (ht : elO P t = some t') (hs : szO P t' = some 1) (h0 : 0 ≤ m) (h1 : m ≤ xs.length) :
    ∃ s', sliceI P t s none (some (.int k m)) h = some s' ∧ LS e h s' b (xs.take m.toNat) := by
  rcases l with ⟨rfl, rfl⟩ | ⟨lo, es, rfl, h2, h3, h4⟩
  · have : m = 0 := by simp at h1; omega
    subst this
    exact ⟨.snil, by simp [sliceI, ht, hs, boundI], .inl ⟨rfl, by simp⟩⟩
  · refine ⟨.sl b lo m.toNat, by simp [sliceI, ht, hs, boundI, h2, h0, h1], .inr ⟨lo, es, ?_, h2, ?_, ?_⟩⟩
    · congr 1; simp; omega
    · simp; omega
    · rw [List.length_take, ← byt_take, ← h4, List.take_take]
theorem LS.append {e : TypeId} {h : Heap} {s x : IV} {b : Nat} {xs ys : List Int} {P : Program} {t t2 t' : TypeId} {z : IV} {by_ : Nat} {K : IV → Heap → Prop} (l : LS e h s b xs) (hx : srcI h 1 x = some (byt ys)) (ht : elO P t = some e) (ht2 : elO P t2 = some t')
    (hz : zrO P e = some [z]) (hs : szO P e = some 1) (hb : byO P e = some by_) (hy : by_ ≤ 65536) (hlen : xs.length + ys.length ≤ 1073741824)
    (k : ∀ s' b' h', LS e h' s' b' (xs ++ ys) → Fr [b] h h' → (b' = b ∨ h.length ≤ b' ∧ b' < h'.length) → K s' h') : oA (appendI P t t2 s x h) h K := by
  unfold appendI
  simp only [ht, ht2, hz, hs, hb]
  rw [if_pos ⟨rfl, Nat.one_pos, hy⟩]
  simp only [hx]
  by_cases hys : ys = []
  · subst hys
    have : K s h := k s b h (by simpa using l) (Fr.refl _ _) (.inl rfl)
    rcases l with ⟨rfl, rfl⟩ | ⟨lo, es, rfl, h2, h3, h4⟩ <;> simpa using this
  · rw [if_neg (by rw [byt_eq_nil]; exact hys)]
    rcases l with ⟨rfl, rfl⟩ | ⟨lo, es, rfl, h2, h3, h4⟩
    · simp only [byt_length]
      rw [if_pos (by simp at hlen; exact hlen)]
      refine k _ h.length _ (.inr ⟨0, byt ys, by simp, by simp, by simp, by simp; rw [List.take_of_length_le (by simp)]⟩) (Fr.push _ _ _) (.inr ⟨Nat.le_refl _, by simp⟩)
    · simp only [h2, byt_length, onesI_byt]
      rw [if_pos (by simp; exact ⟨h3, hlen⟩)]
      refine k _ h.length _ (.inr ⟨0, byt (xs ++ ys), by simp, ?_, by simp, by rw [List.drop_zero, List.take_of_length_le (by simp)]⟩) ?_ (.inr ⟨Nat.le_refl _, by simp⟩)
      · rw [h4, byt_append, List.getElem?_append_right (by simp)]; simp
      · refine (Fr.set (A := [b]) (by simp) none).trans (Fr.push [b] _ _) (fun i _ h => h) (fun i _ h => h)
/-- A new slice. -/
theorem LS.new {h : Heap} (e : TypeId) (xs : List Int) : LS e (h ++ [some ⟨1, e, byt xs⟩]) (.sl h.length 0 xs.length) h.length xs :=
  .inr ⟨0, byt xs, rfl, by simp, by simp, by rw [List.drop_zero, List.take_of_length_le (by simp)]⟩

/-- A struct of a slice of bytes and a number. -/
def Dk (e t : TypeId) (h : Heap) (d b : Nat) (xs : List Int) (n : Int) : Prop :=
  ∃ s, h[d]? = some (some ⟨2, t, [[s, .int .i64 n]]⟩) ∧ LS e h s b xs ∧ (b = d ↔ s = .snil)
theorem Dk.lt {e t : TypeId} {h : Heap} {d b : Nat} {xs : List Int} {n : Int} (k : Dk e t h d b xs n) : d < h.length := by
  obtain ⟨s, h1, _⟩ := k; exact (List.getElem?_eq_some_iff.1 h1).1
theorem Dk.lt2 {e t : TypeId} {h : Heap} {d b : Nat} {xs : List Int} {n : Int} (k : Dk e t h d b xs n) : b < h.length := by
  have h0 := k.lt
  obtain ⟨s, h1, h2, h3⟩ := k
  rcases h2 with ⟨rfl, rfl⟩ | ⟨lo, es, rfl, h4, _⟩
  · rw [h3.2 rfl]; exact h0
  · exact (List.getElem?_eq_some_iff.1 h4).1
theorem Dk.fr {e t : TypeId} {h h' : Heap} {d b : Nat} {xs : List Int} {n : Int} {A : List Nat} (k : Dk e t h d b xs n) (p : Fr A h h') (hd : d ∉ A) (hb : b ∉ A) : Dk e t h' d b xs n := by
  obtain ⟨s, h1, h2, h3⟩ := k
  exact ⟨s, p.get h1 hd, h2.fr p hb, h3⟩
end Go.Ideal
