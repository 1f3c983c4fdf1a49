/- The law DiskOwn, as the row says it: for every input it returns true and leaves the arguments as they were. No condition. -/
import Derived.Test.YtjfpggiglgkfeaaDC6
import Derived.Test.YtjfpggiglgkfeaaDL3
set_option linter.unusedVariables false
set_option linter.unusedSimpArgs false
namespace Go.Proofs.Ytjfpggiglgkfeaa
open Go.ChangeShapes Go.WideShapes Go.ChangeAt Go.RowKit Go.Ideal

set_option maxHeartbeats 800000 in
set_option maxRecDepth 100000 in
theorem own_lifted (os : Os) (started : os.Started) (H : Type) (enc : TypeId × Value → H) :
    ReturnsInHanded {} Try.checked os 4 .any (Rows.diskOwnSpec.pre6 enc Try.prog Try.f4 Rows.diskOwnRow.domain false) (Rows.diskOwnSpec.post enc Try.prog Try.f4 false true false false) := by
  refine returnsInHanded_of_change (C := Try.checked) Try.own started (by kernel_rfl) Try.func4
    (ChangeSpec.witness6 (enc := enc) (C := Try.checked) false ⟨#[], #[.slice none 0 0, .slice none 0 0, .int .u8 0], []⟩ 8 (by kernel_rfl) (by kernel_rfl) (by kernel_rfl) (by kernel_rfl)) ?_
  intro W base args ds gs before hval0 hW _ _
  have hval : ∀ (j : Nat) t v, Try.f4.params[j]? = some t → args[j]? = some v → Value.okWide Try.prog W .any base t v := hval0
  have hW' := hW
  obtain ⟨p, q, hA0, hV, rfl, _, _⟩ := hW
  have hA : DataW.TrodAll enc Try.prog W 0 (fun _ => true) true Try.f4.params.toList args.toList ds p := hA0
  rw [Try.params4] at hA hval
  obtain ⟨v0, v1, v2, d0, d1, d2, p0, p1, p2, rfl, rfl, rfl, h0, h1, h2⟩ := trodAll_three hA
  obtain ⟨rfl, rfl⟩ := trodVars_none hV
  obtain ⟨a0, len0, cap0, rfl⟩ := okWide_slice Try.underlying22 (hval 0 22 v0 rfl rfl)
  obtain ⟨a1, len1, cap1, rfl⟩ := okWide_slice Try.underlying22 (hval 1 22 v1 rfl rfl)
  obtain ⟨m, rfl, rfl, rfl, wm⟩ := open_int Try.underlying5 (hval 2 5 v2 rfl rfl) h2
  clear hA0 hval0
  simp only [List.append_nil] at hW'
  have hlt : ∀ x ∈ p0 ++ p1, x.block < W.heap.size := fun x hx => by simpa using hW'.lt x hx
  obtain ⟨xs, hx⟩ := open_bytesI (ρ := fun _ => none) Try.underlying22 Try.underlying5 Try.cells5 h0
  obtain ⟨ys, hy⟩ := open_bytesI (ρ := fun _ => none) Try.underlying22 Try.underlying5 Try.cells5 h1
  refine (CallsI.enter (args := [.vs 1 (byt xs), .vs 1 (byt ys), .int .u8 m]) (own4 rfl) ⟨_, _, rfl, hx, _, _, rfl, hy, _, _, rfl, by simp [VR], rfl⟩).mono fun e W' ⟨he, hb⟩ => ?_
  subst he
  have harg0 : DataW.Trod enc Try.prog W' 0 (fun b => decide (b < W.heap.size)) true 22 (.slice a0 len0 cap0) d0 p0 :=
    Below.trod Try.laidOut (by kernel_rfl) (of_decide_eq_true (by kernel_rfl)) h0 hb (fun x hx => hlt x (List.mem_append.2 (.inl hx)))
  have harg1 : DataW.Trod enc Try.prog W' 0 (fun b => decide (b < W.heap.size)) true 22 (.slice a1 len1 cap1) d1 p1 :=
    Below.trod Try.laidOut (by kernel_rfl) (of_decide_eq_true (by kernel_rfl)) h1 hb (fun x hx => hlt x (List.mem_append.2 (.inr hx)))
  refine ⟨_, rfl, _, _, _, [], _, [], hW', ?_, trodAll_mk3 harg0 harg1 (shut_int Try.underlying5 wm), ?_, hb.frame _, fun h => by cases h⟩
  · exact trodAll_mk1 (shut_bool Try.underlying4 true)
  · rfl

theorem own_holds : Rows.DiskOwnSaid :=
  OpenClaim.holds_of_wide 4 Try.f4 rfl rfl rfl rfl rfl rfl rfl ⟨rfl, rfl, rfl, rfl, rfl⟩ rfl rfl rfl rfl rfl (by kernel_rfl) Try.func4 (by kernel_rfl)
    (of_decide_eq_true (by kernel_rfl)) (by unfold Func.isWrapper; first | (rw [if_pos (by decide +kernel)]; kernel_rfl) | (rw [if_neg (by decide +kernel)]; exact ⟨rfl, rfl⟩))
    (fun os started H enc _ => own_lifted os started H enc)
end Go.Proofs.Ytjfpggiglgkfeaa
