/- Proved: the law ZonetimerDelays returns true for every zone and every two slices of flags. No condition. -/
import Derived.Test.YtgedeiegegodkaaRows
import Derived.WalkKit
import Derived.ProofKit
import Derived.Test.YtgedeiegegodkaaZ7
set_option linter.unusedVariables false
set_option linter.unusedSimpArgs false
set_option linter.unusedSectionVars false
namespace Go.Proofs.Ytgedeiegegodkaa.zonetimerDelays
open Go Go.Sx
theorem own : ownKnob Try.prog.godebug = none := by kernel_rfl
theorem laidOut : laidOutB Try.prog = true := by kernel_rfl
theorem pure (css : List (List D)) (h : FitsAll Try.prog maxLen Try.f3.params.toList css) : ∃ K mem', (callE XL K 3 (argsA Try.prog 4 Try.f3.params.toList css) []).run = some (.v (.bool true), mem') := by
  rw [Try.params3] at h ⊢
  match css, h with
  | [a0, a1, a2], h =>
    refine ⟨100, [], ?_⟩
    rw [← callF_eq]
    have e : argsA Try.prog 4 [23, 24, 24] [a0, a1, a2] = [.agg (zc ⟨boolAt a0 0, boolAt a0 1, intAt a0 2, intAt a0 3, intAt a0 4, intAt a0 5⟩), bs (lenAt a1 0) (fun i => boolAt (rowsAt a1 0 i) 0), bs (lenAt a2 0) (fun i => boolAt (rowsAt a2 0 i) 0)] := by kernel_rfl
    exact (congrArg (fun l => (callF XL 100 3 l []).run) e).trans (delays_s _ _ _ _ _)
set_option maxRecDepth 100000 in
theorem lifted (os : Os) (started : os.Started) (H : Type) (enc : TypeId × Value → H) :
    ReturnsInHanded {} Try.checked os 3 .any (Rows.zonetimerDelaysSpec.pre6 enc Try.prog Try.f3 Rows.zonetimerDelaysRow.domain false) (Rows.zonetimerDelaysSpec.post enc Try.prog Try.f3 false true false false) := by
  refine returnsInHanded_of_change (C := Try.checked) own started (by kernel_rfl) Try.func3
    (ChangeSpec.witness6 (enc := enc) (C := Try.checked) false ⟨#[], #[.agg #[.bool false, .bool false, .int .i64 0, .int .i64 0, .int .i64 0, .int .i64 0], .slice none 0 0, .slice none 0 0], []⟩ 8 (by kernel_rfl) (by kernel_rfl) (by kernel_rfl) (by kernel_rfl)) ?_
  intro W base args ds gs before hval hW _ _
  refine law_contract (H := H) (enc := enc) goodL (fun _ => rfl) Try.func3 (by kernel_rfl) (by kernel_rfl) (L := [23, 4, 3, 24]) (by kernel_rfl) laidOut (by kernel_rfl) (tb := 4) (by kernel_rfl) Try.underlying4 rfl ?_ smallP_all 4 pure W base args ds gs before hval hW (fun _ _ => trivial)
  intro ds h
  have hs : Try.f3.params.size = 3 := by kernel_rfl
  rw [hs] at h
  match ds, h with
  | [a0, a1, a2], _ => rfl
theorem over : Rows.zonetimerDelaysRow.holds Try.pinned (OpenSpec.ofChange Rows.zonetimerDelaysSpec) :=
  OpenClaim.holds_of_wide 3 Try.f3 rfl rfl rfl rfl rfl rfl rfl ⟨rfl, rfl, rfl, rfl, rfl⟩ rfl rfl rfl rfl rfl (by kernel_rfl) Try.func3 (by kernel_rfl)
    (of_decide_eq_true (by kernel_rfl)) (by unfold Func.isWrapper; first | (rw [if_pos (by decide +kernel)]; kernel_rfl) | (rw [if_neg (by decide +kernel)]; exact ⟨rfl, rfl⟩))
    (fun os started H enc _ => lifted os started H enc)
end Go.Proofs.Ytgedeiegegodkaa.zonetimerDelays
namespace Go.Proofs.Ytgedeiegegodkaa
/-- The statement. -/
theorem zonetimerDelays_holds : Rows.ZonetimerDelaysSaid := zonetimerDelays.over
#print axioms zonetimerDelays_holds
end Go.Proofs.Ytgedeiegegodkaa
