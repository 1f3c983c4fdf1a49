/- The law LoadLive, as the row says it: for every input it returns true and leaves the arguments as they were. No condition. -/
import Derived.Test.YtcbcdjfbcihgoaaLE8
import Derived.Test.YtcbcdjfbcihgoaaRows
set_option linter.unusedVariables false
set_option linter.unusedSimpArgs false
namespace Go.Proofs.Ytcbcdjfbcihgoaa
open Go.ChangeShapes Go.WideShapes Go.ChangeAt Go.RowKit Go.Ideal
theorem Try.own : ownKnob Try.prog.godebug = none := by kernel_rfl
theorem Try.laidOut : laidOutB Try.prog = true := by kernel_rfl
theorem loadLive_law (vs : List IV) (h : Shds [.sl 1 [.i .i64], .sl 12 [.b, .b, .i .i64, .i .i64, .i .i64, .i .i64, .i .i64, .i .i64, .i .i64, .i .i64, .i .i64, .i .i64], .sl 4 [.i .i64, .i .i64, .i .i64, .i .i64], .b, .i .i64] vs) : Z5 Try.prog 5 vs [] fun r _ => r = .bool true := by
  simp only [Shds] at h
  obtain ⟨_, _, rfl, h0, _, _, rfl, h1, _, _, rfl, h2, _, _, rfl, h3, _, _, rfl, h4, rfl⟩ := h
  obtain ⟨x0, rfl⟩ := shd_ints h0
  obtain ⟨x1, rfl⟩ := shd_TS h1
  obtain ⟨x2, rfl⟩ := shd_CS h2
  obtain ⟨x3, rfl⟩ := shd_b h3
  obtain ⟨x4, rfl⟩ := shd_i h4
  exact (Z6h x0 x1 x2 x3 x4).call rfl
set_option maxHeartbeats 800000 in
set_option maxRecDepth 100000 in
theorem loadLive_lifted (os : Os) (started : os.Started) (H : Type) (enc : TypeId × Value → H) :
    ReturnsInHanded {} Try.checked os 5 .any (Rows.loadLiveSpec.pre6 enc Try.prog Try.f5 Rows.loadLiveRow.domain false) (Rows.loadLiveSpec.post enc Try.prog Try.f5 false true false false) :=
  law_true (C := Try.checked) (shs := [.sl 1 [.i .i64], .sl 12 [.b, .b, .i .i64, .i .i64, .i .i64, .i .i64, .i .i64, .i .i64, .i .i64, .i .i64, .i .i64, .i .i64], .sl 4 [.i .i64, .i .i64, .i .i64, .i .i64], .b, .i .i64]) (tb := 4) Try.own started (by kernel_rfl) Try.func5
    (ChangeSpec.witness6 (enc := enc) (C := Try.checked) false ⟨#[], #[.slice none 0 0, .slice none 0 0, .slice none 0 0, .bool false, .int .i64 0], []⟩ 8 (by kernel_rfl) (by kernel_rfl) (by kernel_rfl) (by kernel_rfl))
    rfl (by kernel_rfl) (by kernel_rfl) (fun ds h => by match ds, h with | [d0, d1, d2, d3, d4], _ => exact ⟨rfl, rfl, rfl⟩) Try.laidOut (by kernel_rfl) (by kernel_rfl) loadLive_law
theorem loadLive_holds : Rows.LoadLiveSaid :=
  OpenClaim.holds_of_wide 5 Try.f5 rfl rfl rfl rfl rfl rfl rfl ⟨rfl, rfl, rfl, rfl, rfl⟩ rfl rfl rfl rfl rfl (by kernel_rfl) Try.func5 (by kernel_rfl)
    (of_decide_eq_true (by kernel_rfl)) (by unfold Func.isWrapper; first | (rw [if_pos (by decide +kernel)]; kernel_rfl) | (rw [if_neg (by decide +kernel)]; exact ⟨rfl, rfl⟩))
    (fun os started H enc _ => loadLive_lifted os started H enc)
end Go.Proofs.Ytcbcdjfbcihgoaa
