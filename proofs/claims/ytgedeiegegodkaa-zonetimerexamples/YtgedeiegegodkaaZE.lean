/- Proved: the law ZonetimerExamples returns true (it takes no arguments). No condition. -/
import Derived.Test.YtgedeiegegodkaaRows
import Derived.WalkKit
import Derived.ProofKit
import Derived.Test.YtgedeiegegodkaaZ4
set_option linter.unusedVariables false
set_option linter.unusedSimpArgs false
set_option linter.unusedSectionVars false
namespace Go.Proofs.Ytgedeiegegodkaa.zonetimerExamples
open Go Go.Sx
theorem own : ownKnob Try.prog.godebug = none := by kernel_rfl
theorem laidOut : laidOutB Try.prog = true := by kernel_rfl
theorem pure (css : List (List D)) (h : FitsAll Try.prog maxLen Try.f5.params.toList css) : ∃ K mem', (callE X5 K 5 (argsA Try.prog 4 Try.f5.params.toList css) []).run = some (.v (.bool true), mem') := by
  rw [Try.params5] at h ⊢
  cases css with
  | nil => exact ⟨100, [], by rw [← callF_eq]; exact examples_s⟩
  | cons => exact h.elim
set_option maxRecDepth 100000 in
theorem lifted (os : Os) (started : os.Started) (H : Type) (enc : TypeId × Value → H) :
    ReturnsInHanded {} Try.checked os 5 .any (Rows.zonetimerExamplesSpec.pre6 enc Try.prog Try.f5 Rows.zonetimerExamplesRow.domain false) (Rows.zonetimerExamplesSpec.post enc Try.prog Try.f5 false true false false) := by
  refine returnsInHanded_of_change (C := Try.checked) own started (by kernel_rfl) Try.func5
    (ChangeSpec.witness6 (enc := enc) (C := Try.checked) false ⟨#[], #[], []⟩ 8 (by kernel_rfl) (by kernel_rfl) (by kernel_rfl) (by kernel_rfl)) ?_
  intro W base args ds gs before hval hW _ _
  refine law_contract (H := H) (enc := enc) good5 (fun _ => rfl) Try.func5 (by kernel_rfl) (by kernel_rfl) (L := []) (by kernel_rfl) laidOut (by kernel_rfl) (tb := 4) (by kernel_rfl) Try.underlying4 rfl ?_ smallP_all 4 pure W base args ds gs before hval hW (fun _ _ => trivial)
  intro ds h
  have hs : Try.f5.params.size = 0 := by kernel_rfl
  rw [hs] at h
  match ds, h with
  | [], _ => rfl
theorem over : Rows.zonetimerExamplesRow.holds Try.pinned (OpenSpec.ofChange Rows.zonetimerExamplesSpec) :=
  OpenClaim.holds_of_wide 5 Try.f5 rfl rfl rfl rfl rfl rfl rfl ⟨rfl, rfl, rfl, rfl, rfl⟩ rfl rfl rfl rfl rfl (by kernel_rfl) Try.func5 (by kernel_rfl)
    (of_decide_eq_true (by kernel_rfl)) (by unfold Func.isWrapper; first | (rw [if_pos (by decide +kernel)]; kernel_rfl) | (rw [if_neg (by decide +kernel)]; exact ⟨rfl, rfl⟩))
    (fun os started H enc _ => lifted os started H enc)
end Go.Proofs.Ytgedeiegegodkaa.zonetimerExamples
namespace Go.Proofs.Ytgedeiegegodkaa
/-- The statement. -/
theorem zonetimerExamples_holds : Rows.ZonetimerExamplesSaid := zonetimerExamples.over
#print axioms zonetimerExamples_holds
end Go.Proofs.Ytgedeiegegodkaa
