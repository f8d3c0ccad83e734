/- Proved: the law ZonetimerMonotone returns true for every zone, every number and every slice of flags. No condition. -/
import Derived.Test.YtgedeiegegodkaaRows
import Derived.WalkKit
import Derived.ProofKit
import Derived.Test.YtgedeiegegodkaaZ8
set_option linter.unusedVariables false
set_option linter.unusedSimpArgs false
set_option linter.unusedSectionVars false
namespace Go.Proofs.Ytgedeiegegodkaa.zonetimerMonotone
open Go Go.Sx
theorem own : ownKnob Try.prog.godebug = none := by kernel_rfl
theorem laidOut : laidOutB Try.prog = true := by kernel_rfl
theorem pure (css : List (List D)) (h : FitsAll Try.prog maxLen Try.f4.params.toList css) : ∃ K mem', (callE XN K 4 (argsA Try.prog 4 Try.f4.params.toList css) []).run = some (.v (.bool true), mem') := by
  rw [Try.params4] at h ⊢
  match css, h with
  | [a0, a1, a2], h =>
    refine ⟨100, [], ?_⟩
    rw [← callF_eq]
    have hb := bound_arg (P := Try.prog) (N := maxLen) (L := [23, 4, 3, 24]) (by kernel_rfl) 4 (t := 23) (by kernel_rfl) h.1
    have eb : boundD Try.prog maxLen 4 23 a0 0 = (True ∧ True ∧ (Lit.int .i64 (intAt a0 2)).wf = true ∧ (Lit.int .i64 (intAt a0 3)).wf = true ∧ (Lit.int .i64 (intAt a0 4)).wf = true ∧ (Lit.int .i64 (intAt a0 5)).wf = true ∧ True) := by kernel_rfl
    rw [eb] at hb
    have hd : intAt a0 5 ≤ 9223372036854775807 := by
      have := hb.2.2.2.2.2.1
      simp [Lit.wf, IntKind.min, IntKind.max, IntKind.signed, IntKind.bits] at this
      omega
    have e : argsA Try.prog 4 [23, 3, 24] [a0, a1, a2] = [.agg (zc ⟨boolAt a0 0, boolAt a0 1, intAt a0 2, intAt a0 3, intAt a0 4, intAt a0 5⟩), vI (intAt a1 0), bs (lenAt a2 0) (fun i => boolAt (rowsAt a2 0 i) 0)] := by kernel_rfl
    exact (congrArg (fun l => (callF XN 100 4 l []).run) e).trans (mono_s _ _ _ _ hd)
set_option maxRecDepth 100000 in
theorem lifted (os : Os) (started : os.Started) (H : Type) (enc : TypeId × Value → H) :
    ReturnsInHanded {} Try.checked os 4 .any (Rows.zonetimerMonotoneSpec.pre6 enc Try.prog Try.f4 Rows.zonetimerMonotoneRow.domain false) (Rows.zonetimerMonotoneSpec.post enc Try.prog Try.f4 false true false false) := by
  refine returnsInHanded_of_change (C := Try.checked) own started (by kernel_rfl) Try.func4
    (ChangeSpec.witness6 (enc := enc) (C := Try.checked) false ⟨#[], #[.agg #[.bool false, .bool false, .int .i64 0, .int .i64 0, .int .i64 0, .int .i64 0], .int .i64 0, .slice none 0 0], []⟩ 8 (by kernel_rfl) (by kernel_rfl) (by kernel_rfl) (by kernel_rfl)) ?_
  intro W base args ds gs before hval hW _ _
  refine law_contract (H := H) (enc := enc) goodN (fun _ => rfl) Try.func4 (by kernel_rfl) (by kernel_rfl) (L := [23, 4, 3, 24]) (by kernel_rfl) laidOut (by kernel_rfl) (tb := 4) (by kernel_rfl) Try.underlying4 rfl ?_ smallP_all 4 pure W base args ds gs before hval hW (fun _ _ => trivial)
  intro ds h
  have hs : Try.f4.params.size = 3 := by kernel_rfl
  rw [hs] at h
  match ds, h with
  | [a0, a1, a2], _ => rfl
theorem over : Rows.zonetimerMonotoneRow.holds Try.pinned (OpenSpec.ofChange Rows.zonetimerMonotoneSpec) :=
  OpenClaim.holds_of_wide 4 Try.f4 rfl rfl rfl rfl rfl rfl rfl ⟨rfl, rfl, rfl, rfl, rfl⟩ rfl rfl rfl rfl rfl (by kernel_rfl) Try.func4 (by kernel_rfl)
    (of_decide_eq_true (by kernel_rfl)) (by unfold Func.isWrapper; first | (rw [if_pos (by decide +kernel)]; kernel_rfl) | (rw [if_neg (by decide +kernel)]; exact ⟨rfl, rfl⟩))
    (fun os started H enc _ => lifted os started H enc)
end Go.Proofs.Ytgedeiegegodkaa.zonetimerMonotone
namespace Go.Proofs.Ytgedeiegegodkaa
/-- The statement. -/
theorem zonetimerMonotone_holds : Rows.ZonetimerMonotoneSaid := zonetimerMonotone.over
#print axioms zonetimerMonotone_holds
end Go.Proofs.Ytgedeiegegodkaa
