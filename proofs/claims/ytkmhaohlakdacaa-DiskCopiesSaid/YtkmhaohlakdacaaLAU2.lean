/- The law DiskCopies, as the row says it: for every input it returns true and leaves the arguments as they were. No condition. -/
import Derived.Test.YtkmhaohlakdacaaLA3
import Derived.Test.YtkmhaohlakdacaaRows
set_option linter.unusedVariables false
set_option linter.unusedSimpArgs false
namespace Go.Proofs.Ytkmhaohlakdacaa
open Go.ChangeShapes Go.WideShapes Go.ChangeAt Go.RowKit Go.Ideal
theorem Try.own : ownKnob Try.prog.godebug = none := by kernel_rfl
theorem Try.laidOut : laidOutB Try.prog = true := by kernel_rfl
theorem diskCopies_law (vs : List IV) (h : Shds [.sl 3 [.i .i64, .i .i64, .sl 1 [.i .u8]], .sl 3 [.i .i64, .i .i64, .sl 1 [.i .u8]]] vs) : Z0 Try.prog 4 vs [] fun r _ => r = .bool true := by
  simp only [Shds] at h
  obtain ⟨_, _, rfl, h0, _, _, rfl, h1, rfl⟩ := h
  obtain ⟨x0, rfl⟩ := shd_Act h0
  obtain ⟨x1, rfl⟩ := shd_Act h1
  exact (Z1E x0 x1).call rfl
set_option maxHeartbeats 800000 in
set_option maxRecDepth 100000 in
theorem diskCopies_lifted (os : Os) (started : os.Started) (H : Type) (enc : TypeId × Value → H) :
    ReturnsInHanded {} Try.checked os 4 .any (Rows.diskCopiesSpec.pre6 enc Try.prog Try.f4 Rows.diskCopiesRow.domain false) (Rows.diskCopiesSpec.post enc Try.prog Try.f4 false true false false) :=
  law_true (C := Try.checked) (shs := [.sl 3 [.i .i64, .i .i64, .sl 1 [.i .u8]], .sl 3 [.i .i64, .i .i64, .sl 1 [.i .u8]]]) (tb := 4) Try.own started (by kernel_rfl) Try.func4
    (ChangeSpec.witness6 (enc := enc) (C := Try.checked) false ⟨#[], #[.slice none 0 0, .slice none 0 0], []⟩ 8 (by kernel_rfl) (by kernel_rfl) (by kernel_rfl) (by kernel_rfl))
    rfl (by kernel_rfl) (by kernel_rfl) (fun ds h => by match ds, h with | [d0, d1], _ => exact ⟨rfl, rfl, rfl⟩) Try.laidOut (by kernel_rfl) (by kernel_rfl) diskCopies_law
theorem diskCopies_holds : Rows.DiskCopiesSaid :=
  OpenClaim.holds_of_wide 4 Try.f4 rfl rfl rfl rfl rfl rfl rfl ⟨rfl, rfl, rfl, rfl, rfl⟩ rfl rfl rfl rfl rfl (by kernel_rfl) Try.func4 (by kernel_rfl)
    (of_decide_eq_true (by kernel_rfl)) (by unfold Func.isWrapper; first | (rw [if_pos (by decide +kernel)]; kernel_rfl) | (rw [if_neg (by decide +kernel)]; exact ⟨rfl, rfl⟩))
    (fun os started H enc _ => diskCopies_lifted os started H enc)
end Go.Proofs.Ytkmhaohlakdacaa
