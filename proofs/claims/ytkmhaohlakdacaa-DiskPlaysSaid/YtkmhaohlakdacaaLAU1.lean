/- The law DiskPlays, as the row says it: for every input it returns true and leaves the arguments as they were. No condition. -/
import Derived.Test.YtkmhaohlakdacaaLA3
import Derived.Test.YtkmhaohlakdacaaRows
set_option linter.unusedVariables false
set_option linter.unusedSimpArgs false
namespace Go.Proofs.Ytkmhaohlakdacaa
open Go.ChangeShapes Go.WideShapes Go.ChangeAt Go.RowKit Go.Ideal
theorem Try.own : ownKnob Try.prog.godebug = none := by kernel_rfl
theorem Try.laidOut : laidOutB Try.prog = true := by kernel_rfl
theorem diskPlays_law (vs : List IV) (h : Shds [.sl 3 [.i .i64, .i .i64, .sl 1 [.i .u8]]] vs) : Z0 Try.prog 3 vs [] fun r _ => r = .bool true := by
  simp only [Shds] at h
  obtain ⟨_, _, rfl, h0, rfl⟩ := h
  obtain ⟨x0, rfl⟩ := shd_Act h0
  exact (Z1D x0).call rfl
set_option maxHeartbeats 800000 in
set_option maxRecDepth 100000 in
theorem diskPlays_lifted (os : Os) (started : os.Started) (H : Type) (enc : TypeId × Value → H) :
    ReturnsInHanded {} Try.checked os 3 .any (Rows.diskPlaysSpec.pre6 enc Try.prog Try.f3 Rows.diskPlaysRow.domain false) (Rows.diskPlaysSpec.post enc Try.prog Try.f3 false true false false) :=
  law_true (C := Try.checked) (shs := [.sl 3 [.i .i64, .i .i64, .sl 1 [.i .u8]]]) (tb := 4) Try.own started (by kernel_rfl) Try.func3
    (ChangeSpec.witness6 (enc := enc) (C := Try.checked) false ⟨#[], #[.slice none 0 0], []⟩ 8 (by kernel_rfl) (by kernel_rfl) (by kernel_rfl) (by kernel_rfl))
    rfl (by kernel_rfl) (by kernel_rfl) (fun ds h => by match ds, h with | [d0], _ => exact ⟨rfl, rfl, rfl⟩) Try.laidOut (by kernel_rfl) (by kernel_rfl) diskPlays_law
theorem diskPlays_holds : Rows.DiskPlaysSaid :=
  OpenClaim.holds_of_wide 3 Try.f3 rfl rfl rfl rfl rfl rfl rfl ⟨rfl, rfl, rfl, rfl, rfl⟩ rfl rfl rfl rfl rfl (by kernel_rfl) Try.func3 (by kernel_rfl)
    (of_decide_eq_true (by kernel_rfl)) (by unfold Func.isWrapper; first | (rw [if_pos (by decide +kernel)]; kernel_rfl) | (rw [if_neg (by decide +kernel)]; exact ⟨rfl, rfl⟩))
    (fun os started H enc _ => diskPlays_lifted os started H enc)
end Go.Proofs.Ytkmhaohlakdacaa
