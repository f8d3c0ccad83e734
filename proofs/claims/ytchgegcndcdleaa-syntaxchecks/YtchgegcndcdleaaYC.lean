/- Proved: the law SyntaxChecks returns true for every two lists of statements. No condition. -/
import Derived.Test.YtchgegcndcdleaaRows
import Derived.WalkKit
import Derived.ProofKit
import Derived.Test.YtchgegcndcdleaaY19
set_option linter.unusedVariables false
set_option linter.unusedSimpArgs false
set_option linter.unusedSectionVars false
namespace Go.Proofs.Ytchgegcndcdleaa.syntaxChecks
open Go Go.Sx
theorem own : ownKnob Try.prog.godebug = none := by kernel_rfl
theorem laidOut : laidOutB Try.prog = true := by kernel_rfl
theorem arg_slice (x : D) : argA Try.prog 0 23 [x] = .s (.d x) := by kernel_rfl
theorem pure (css : List (List D)) (h : FitsAll Try.prog maxLen Try.f5.params.toList css) : ∃ args', (∀ (F : Fr) (w : World) (ρ : Locs) (M : Mut) (vs : List Value), All2 (@AR F w ρ M) (argsA Try.prog 0 Try.f5.params.toList css) vs → All2 (@AR F w ρ M) args' vs) ∧ ∃ K mem', (callE G6 K 5 args' []).run = some (.v (.bool true), mem') := by
  rw [Try.params5] at h ⊢
  match css, h with
  | [a0, a1], h =>
    obtain ⟨⟨f0, h0⟩, ⟨f1, h1⟩, _⟩ := h
    have l0 := h0.length
    have l1 := h1.length
    rw [co23] at l0 l1
    obtain ⟨x, rfl⟩ := List.length_eq_one_iff.1 l0
    obtain ⟨y, rfl⟩ := List.length_eq_one_iff.1 l1
    obtain ⟨l, hl1, hl2⟩ := items_of _ _ h0
    obtain ⟨m, hm1, hm2⟩ := items_of _ _ h1
    refine ⟨[.s (.d (encI l)), .s (.d (encI m))], fun F w ρ M vs hv => ?_, 100, [], ?_⟩
    · simp only [argsA, arg_slice] at hv
      exact le_two hl1 hm1 F w ρ M vs hv
    · rw [← callF_eq]
      exact checks_s l m hl2 hm2
set_option maxRecDepth 100000 in
theorem lifted (os : Os) (started : os.Started) (H : Type) (enc : TypeId × Value → H) :
    ReturnsInHanded {} Try.checked os 5 .any (Rows.syntaxChecksSpec.pre6 enc Try.prog Try.f5 Rows.syntaxChecksRow.domain false) (Rows.syntaxChecksSpec.post enc Try.prog Try.f5 false true false false) := by
  refine returnsInHanded_of_change (C := Try.checked) own started (by kernel_rfl) Try.func5
    (ChangeSpec.witness6 (enc := enc) (C := Try.checked) false ⟨#[], #[.slice none 0 0, .slice none 0 0], []⟩ 8 (by kernel_rfl) (by kernel_rfl) (by kernel_rfl) (by kernel_rfl)) ?_
  intro W base args ds gs before hval hW _ _
  refine law_contract_le (H := H) (enc := enc) goodG6 (fun _ => rfl) Try.func5 (by kernel_rfl) (by kernel_rfl) (L := [23, 36, 3, 34, 52, 9, 4]) (by kernel_rfl) laidOut (by kernel_rfl) (tb := 4) (by kernel_rfl) Try.underlying4 rfl ?_ smallP_all 0 pure W base args ds gs before hval hW (fun _ _ => trivial)
  intro ds h
  have hs : Try.f5.params.size = 2 := by kernel_rfl
  rw [hs] at h
  match ds, h with
  | [a0, a1], _ => rfl
theorem over : Rows.syntaxChecksRow.holds Try.pinned (OpenSpec.ofChange Rows.syntaxChecksSpec) :=
  OpenClaim.holds_of_wide 5 Try.f5 rfl rfl rfl rfl rfl rfl rfl ⟨rfl, rfl, rfl, rfl, rfl⟩ rfl rfl rfl rfl rfl (by kernel_rfl) Try.func5 (by kernel_rfl)
    (of_decide_eq_true (by kernel_rfl)) (by unfold Func.isWrapper; first | (rw [if_pos (by decide +kernel)]; kernel_rfl) | (rw [if_neg (by decide +kernel)]; exact ⟨rfl, rfl⟩))
    (fun os started H enc _ => lifted os started H enc)
end Go.Proofs.Ytchgegcndcdleaa.syntaxChecks
namespace Go.Proofs.Ytchgegcndcdleaa
/-- The statement. -/
theorem syntaxChecks_holds : Rows.SyntaxChecksSaid := syntaxChecks.over
#print axioms syntaxChecks_holds
end Go.Proofs.Ytchgegcndcdleaa
