/- From the row's memory to the ideal memory. -/
import Derived.Test.YtjfpggiglgkfeaaDC0
import Derived.ProofKit
set_option linter.unusedVariables false
set_option linter.unusedSimpArgs false
namespace Go.Ideal
open Go.Proofs Go.ChangeShapes Go.WideShapes Go.ChangeAt Go.RowKit

def allF (W : World) : Frz := fun R => W.heap[R]?
theorem rel0 (W : World) : Rel (allF W) (fun _ => none) [] W :=
  ⟨fun _ _ h => h, fun _ _ h => by simp at h, fun _ _ _ _ _ _ h => by simp at h, fun _ _ h => by cases h⟩
theorem CallsI.enter {P : Program} {f : FuncId} {args : List IV} {us : Array Value} {W : World} (hc : CallsI P f args [] fun r _ => r = .bool true) (hv : VRs (allF W) (fun _ => none) args us.toList) :
    Calls P f us W fun e W' => e = .returned (.bool true) ∧ Below W.heap.size W W' := by
  refine (hc (allF W) (fun _ => none) W us (rel0 W) hv).mono ?_
  rintro e W' ⟨r, h', v, F', ρ', rfl, rfl, st, hv'⟩
  simp only [VR] at hv'
  subst hv'
  exact ⟨rfl, st.os, st.tape, st.output, st.size, fun k hk => st.frame k hk fun ⟨b, k, l, h, _⟩ => by simp at h⟩

theorem rows_bytes {F : Frz} {ρ : Lay} {g : Nat → Option Value} : ∀ (xs : List Int) (off : Nat), (∀ i, i < xs.length → g (off + i) = some (.int .u8 (xs.getD i 0))) → RowsAt F ρ 1 (byt xs) g off
  | [], _, _ => by simp [byt, RowsAt]
  | x :: xs, off, h => by
    refine ⟨rfl, ⟨⟨_, h 0 (by simp), by simp [VR]⟩, trivial⟩, rows_bytes xs (off + 1) fun i hi => ?_⟩
    have := h (i + 1) (by simpa using hi)
    simpa [Nat.add_assoc, Nat.add_comm 1 i] using this
theorem open_bytesI {H : Type} {enc : TypeId × Value → H} {P : Program} {W : World} {ρ : Lay} {t e : TypeId} {a0 : Option Addr} {len cap : Nat} {d0 : DataW H} {p : List MemPlace} (ht : P.underlying t = some (.slice e)) (he : P.underlying e = some (.int .u8)) (hc : P.cellsOf e = 1)
    (h0 : DataW.Trod enc P W 0 (fun _ => true) true t (.slice a0 len cap) d0 p) : ∃ xs : List Int, VR (allF W) ρ (.vs 1 (byt xs)) (.slice a0 len cap) := by
  obtain ⟨fuel, hf⟩ := h0
  rcases open_ints ht he hc hf with ⟨hcs, hx⟩ | ⟨a, len', cap', zs, hcs, _, hl, hm, hz, hx, hcell, hwz⟩
  · simp [Value.cells] at hcs
    obtain ⟨rfl, rfl, rfl⟩ := hcs
    exact ⟨[], by simp [VR, byt]⟩
  · simp [Value.cells] at hcs
    obtain ⟨rfl, rfl, rfl⟩ := hcs
    simp only [if_true] at hz
    have hlen : (zs.take len).length = len := by simp; omega
    refine ⟨zs.take len, some a, cap, by simp [hlen], by simpa [hlen] using hl, fun hne => ⟨a.block, a.off, ?_, rows_bytes _ _ fun i hi => ?_⟩⟩
    · have hpos : 0 < zs.length := by
        rcases Nat.eq_zero_or_pos zs.length with h | h
        · rw [List.length_eq_zero_iff] at h; subst h; simp at hne
        · exact h
      have := hcell 0 hpos
      simp only [Addr.add, if_true, World.cell?] at this
      have hs : a.spot = none := by
        split at this
        · by_cases hsp : a.spot.isSome = true
          · rw [if_pos hsp] at this; cases this
          · simpa using hsp
        · cases this
      rw [← hs]
    · have hi' : i < zs.length := by simp at hi; omega
      have hc := hcell i hi'
      have hg : (zs.take len).getD i 0 = zs.getD i 0 := by
        simp only [List.getD_eq_getElem?_getD]
        rw [List.getElem?_take_of_lt (by simp at hi; omega)]
      rw [hg]
      unfold World.cell? at hc
      unfold fcell allF
      have e1 : (a.add i).block = a.block := by unfold Addr.add; split <;> rfl
      have e2 : (a.add i).off = a.off + i := by unfold Addr.add; split <;> simp_all
      rw [e1, e2] at hc
      split at hc
      · rename_i c x y hh
        rw [hh]
        split at hc
        · cases hc
        · exact hc
      · cases hc
end Go.Ideal
