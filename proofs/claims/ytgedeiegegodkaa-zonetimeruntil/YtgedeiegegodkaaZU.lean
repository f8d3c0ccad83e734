/- Proved: the law ZonetimerUntil returns true for every zones, counts and flags. No condition. -/
import Derived.Test.YtgedeiegegodkaaRows
import Derived.WalkKit
import Derived.ProofKit
import Derived.Test.YtgedeiegegodkaaZ9
set_option linter.unusedVariables false
set_option linter.unusedSimpArgs false
set_option linter.unusedSectionVars false
namespace Go.Proofs.Ytgedeiegegodkaa.zonetimerUntil
open Go Go.Sx
theorem own : ownKnob Try.prog.godebug = none := by kernel_rfl
theorem laidOut : laidOutB Try.prog = true := by kernel_rfl
theorem pure (css : List (List D)) (h : FitsAll Try.prog maxLen Try.f7.params.toList css) : ∃ K mem', (callE XV K 7 (argsA Try.prog 4 Try.f7.params.toList css) []).run = some (.v (.bool true), mem') := by
  rw [Try.params7] at h ⊢
  match css, h with
  | [a0, a1, a2], h =>
    refine ⟨100, [], ?_⟩
    rw [← callF_eq]
    have e : argsA Try.prog 4 [26, 28, 38] [a0, a1, a2] = [.agg (zc ⟨boolAt a0 0, boolAt a0 1, intAt a0 2, intAt a0 3, intAt a0 4, intAt a0 5⟩ ++ zc ⟨boolAt a0 6, boolAt a0 7, intAt a0 8, intAt a0 9, intAt a0 10, intAt a0 11⟩ ++ zc ⟨boolAt a0 12, boolAt a0 13, intAt a0 14, intAt a0 15, intAt a0 16, intAt a0 17⟩), .agg [cI (intAt a1 0), cI (intAt a1 1), cI (intAt a1 2)], .agg [cB (boolAt a2 0), cB (boolAt a2 1), cB (boolAt a2 2), cB (boolAt a2 3), cB (boolAt a2 4), cB (boolAt a2 5)]] := by kernel_rfl
    exact (congrArg (fun l => (callF XV 100 7 l []).run) e).trans (untils_s _ _ _ _ _ _ _ _ _ _ _ _)
set_option maxRecDepth 100000 in
theorem lifted (os : Os) (started : os.Started) (H : Type) (enc : TypeId × Value → H) :
    ReturnsInHanded {} Try.checked os 7 .any (Rows.zonetimerUntilSpec.pre6 enc Try.prog Try.f7 Rows.zonetimerUntilRow.domain false) (Rows.zonetimerUntilSpec.post enc Try.prog Try.f7 false true false false) := by
  refine returnsInHanded_of_change (C := Try.checked) own started (by kernel_rfl) Try.func7
    (ChangeSpec.witness6 (enc := enc) (C := Try.checked) false ⟨#[], #[.agg #[.bool false, .bool false, .int .i64 0, .int .i64 0, .int .i64 0, .int .i64 0, .bool false, .bool false, .int .i64 0, .int .i64 0, .int .i64 0, .int .i64 0, .bool false, .bool false, .int .i64 0, .int .i64 0, .int .i64 0, .int .i64 0], .agg #[.int .i64 0, .int .i64 0, .int .i64 0], .agg #[.bool false, .bool false, .bool false, .bool false, .bool false, .bool false]], []⟩ 8 (by kernel_rfl) (by kernel_rfl) (by kernel_rfl) (by kernel_rfl)) ?_
  intro W base args ds gs before hval hW _ _
  refine law_contract (H := H) (enc := enc) goodV (fun _ => rfl) Try.func7 (by kernel_rfl) (by kernel_rfl) (L := [26, 23, 4, 3, 28, 38, 30]) (by kernel_rfl) laidOut (by kernel_rfl) (tb := 4) (by kernel_rfl) Try.underlying4 rfl ?_ smallP_all 4 pure W base args ds gs before hval hW (fun _ _ => trivial)
  intro ds h
  have hs : Try.f7.params.size = 3 := by kernel_rfl
  rw [hs] at h
  match ds, h with
  | [a0, a1, a2], _ => rfl
theorem over : Rows.zonetimerUntilRow.holds Try.pinned (OpenSpec.ofChange Rows.zonetimerUntilSpec) :=
  OpenClaim.holds_of_wide 7 Try.f7 rfl rfl rfl rfl rfl rfl rfl ⟨rfl, rfl, rfl, rfl, rfl⟩ rfl rfl rfl rfl rfl (by kernel_rfl) Try.func7 (by kernel_rfl)
    (of_decide_eq_true (by kernel_rfl)) (by unfold Func.isWrapper; first | (rw [if_pos (by decide +kernel)]; kernel_rfl) | (rw [if_neg (by decide +kernel)]; exact ⟨rfl, rfl⟩))
    (fun os started H enc _ => lifted os started H enc)
end Go.Proofs.Ytgedeiegegodkaa.zonetimerUntil
namespace Go.Proofs.Ytgedeiegegodkaa
/-- The statement. -/
theorem zonetimerUntil_holds : Rows.ZonetimerUntilSaid := zonetimerUntil.over
#print axioms zonetimerUntil_holds
end Go.Proofs.Ytgedeiegegodkaa
