/- Proved: the law SyntaxCanonical returns true for every text. No condition. -/
import Derived.Test.YtchgegcndcdleaaRows
import Derived.WalkKit
import Derived.ProofKit
import Derived.Test.YtchgegcndcdleaaY34
set_option linter.unusedVariables false
set_option linter.unusedSimpArgs false
set_option linter.unusedSectionVars false
namespace Go.Proofs.Ytchgegcndcdleaa.syntaxCanonical
open Go Go.Sx
theorem own : ownKnob Try.prog.godebug = none := by kernel_rfl
theorem laidOut : laidOutB Try.prog = true := by kernel_rfl
theorem pure (css : List (List D)) (h : FitsAll Try.prog maxLen Try.f4.params.toList css) : ∃ K mem', (callE XL K 4 (argsA Try.prog 1 Try.f4.params.toList css) []).run = some (.v (.bool true), mem') := by
  rw [Try.params4] at h ⊢
  match css, h with
  | [a0], h =>
    obtain ⟨⟨f0, h0⟩, _⟩ := h
    obtain ⟨s, rfl, hs⟩ := fits_str (by kernel_rfl) h0
    refine ⟨100, [], ?_⟩
    rw [← callF_eq]
    have e : argsA Try.prog 1 [9] [[.c (.string s)]] = [vS s] := by kernel_rfl
    exact (congrArg (fun l => (callF XL 100 4 l []).run) e).trans (can_s s)
set_option maxRecDepth 100000 in
theorem lifted (os : Os) (started : os.Started) (H : Type) (enc : TypeId × Value → H) :
    ReturnsInHanded {} Try.checked os 4 .any (Rows.syntaxCanonicalSpec.pre6 enc Try.prog Try.f4 Rows.syntaxCanonicalRow.domain false) (Rows.syntaxCanonicalSpec.post enc Try.prog Try.f4 false true false false) := by
  refine returnsInHanded_of_change (C := Try.checked) own started (by kernel_rfl) Try.func4
    (ChangeSpec.witness6 (enc := enc) (C := Try.checked) false ⟨#[], #[.string .empty], []⟩ 8 (by kernel_rfl) (by kernel_rfl) (by kernel_rfl) (by kernel_rfl)) ?_
  intro W base args ds gs before hval hW _ _
  refine law_contract (H := H) (enc := enc) goodXL (fun _ => rfl) Try.func4 (by kernel_rfl) (by kernel_rfl) (L := [9]) (by kernel_rfl) laidOut (by kernel_rfl) (tb := 4) (by kernel_rfl) Try.underlying4 rfl ?_ smallP_all 1 pure W base args ds gs before hval hW (fun _ _ => trivial)
  intro ds h
  have hs : Try.f4.params.size = 1 := by kernel_rfl
  rw [hs] at h
  match ds, h with
  | [a0], _ => rfl
theorem over : Rows.syntaxCanonicalRow.holds Try.pinned (OpenSpec.ofChange Rows.syntaxCanonicalSpec) :=
  OpenClaim.holds_of_wide 4 Try.f4 rfl rfl rfl rfl rfl rfl rfl ⟨rfl, rfl, rfl, rfl, rfl⟩ rfl rfl rfl rfl rfl (by kernel_rfl) Try.func4 (by kernel_rfl)
    (of_decide_eq_true (by kernel_rfl)) (by unfold Func.isWrapper; first | (rw [if_pos (by decide +kernel)]; kernel_rfl) | (rw [if_neg (by decide +kernel)]; exact ⟨rfl, rfl⟩))
    (fun os started H enc _ => lifted os started H enc)
end Go.Proofs.Ytchgegcndcdleaa.syntaxCanonical
namespace Go.Proofs.Ytchgegcndcdleaa
/-- The statement. -/
theorem syntaxCanonical_holds : Rows.SyntaxCanonicalSaid := syntaxCanonical.over
#print axioms syntaxCanonical_holds
end Go.Proofs.Ytchgegcndcdleaa
