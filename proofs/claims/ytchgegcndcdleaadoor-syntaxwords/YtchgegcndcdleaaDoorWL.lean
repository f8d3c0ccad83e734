/- Proved: the law SyntaxWords returns true for every text; and its card, tied to the program's text. -/
import Derived.Test.YtchgegcndcdleaaDoorRows
import Derived.Test.YtchgegcndcdleaaDoorTie
import Derived.Test.YtchgegcndcdleaaDoorCards
import Derived.WalkKit
import Derived.ProofKit
import Derived.LaidMore
import Derived.OpenShut
import Derived.Stop.Joined
import Derived.SevenTiedAt
import Derived.Test.YtchgegcndcdleaaDoorW5
set_option linter.unusedVariables false
set_option linter.unusedSimpArgs false
set_option linter.unusedSectionVars false
namespace Go.Proofs.YtchgegcndcdleaaDoor.syntaxWords
open Go Go.Sx
theorem law_t (s : ByteArray) : (callF XL 100 3 [vS s] []).run =
  bif (numV s == numV s) then bif (okN s == okN s) then bif (decide (s.size ≤ 9223372036854775807)) then some ((vB (plainS s == plainS s)), [])
      else none
    else some ((vB false), [])
  else some ((vB false), []) := by kernel_rfl
theorem law_s (s : ByteArray) (hs : s.size ≤ 9223372036854775807) : (callF XL 100 3 [vS s] []).run = some (.v (.bool true), []) := by
  rw [law_t, beq_self_eq_true, beq_self_eq_true, beq_self_eq_true, decide_eq_true hs]; rfl
theorem own : ownKnob Tryd.prog.godebug = none := by kernel_rfl
theorem laidOut : laidOutB Tryd.prog = true := by kernel_rfl
theorem fits_str {P : Program} {N f t : Nat} {cs : List D} (hu : P.underlying t = some .string) (h : Fits P N f t cs) : ∃ s : ByteArray, cs = [.c (.string s)] ∧ s.size ≤ N := by
  cases f with
  | zero => exact h.elim
  | succ f => obtain ⟨_, h⟩ := h; rw [hu] at h; exact h
theorem pure (css : List (List D)) (h : FitsAll Tryd.prog maxLen Tryd.f3.params.toList css) : ∃ K mem', (callE XL K 3 (argsA Tryd.prog 1 Tryd.f3.params.toList css) []).run = some (.v (.bool true), mem') := by
  rw [Tryd.params3] at h ⊢
  match css, h with
  | [a0], h =>
    obtain ⟨⟨f0, h0⟩, _⟩ := h
    obtain ⟨s, rfl, hs⟩ := fits_str (by kernel_rfl) h0
    refine ⟨100, [], ?_⟩
    rw [← callF_eq]
    have e : argsA Tryd.prog 1 [9] [[.c (.string s)]] = [vS s] := by kernel_rfl
    exact (congrArg (fun l => (callF XL 100 3 l []).run) e).trans (law_s s hs)
theorem door_met (os : Os) (args : Array Value) : laidMetH Tryd.prog Rows.syntaxWordsRow.laid ((World.doorLaid Tryd.prog 62 os).forCall (fun _ _ => 0) ⟨#[], args, []⟩).memory :=
  laidMetH_of_parts3 (fuel := 8) (laidMet_of_run' 8 (by kernel_rfl) (by kernel_rfl)) (by kernel_rfl) (by kernel_rfl)
set_option maxRecDepth 100000 in
theorem lifted (os : Os) (started : os.Started) (H : Type) (enc : TypeId × Value → H) :
    ReturnsInHanded {} Tryd.checked os 3 .any (fun w args => (Rows.syntaxWordsSpec.pre enc Tryd.prog Tryd.f3 [] false w args ∧ laidMetH Tryd.prog Rows.syntaxWordsRow.laid w) ∧ sizedMet enc Tryd.prog Tryd.f3 (OpenSpec.ofChange Rows.syntaxWordsSpec) false w args)
      (Rows.syntaxWordsSpec.post enc Tryd.prog Tryd.f3 false true false false) := by
  refine returnsInHanded_of_change_and (C := Tryd.checked) (X := fun w _ => laidMetH Tryd.prog Rows.syntaxWordsRow.laid w) (fun _ _ _ hh h => h.of_heap hh) own started (by kernel_rfl) Tryd.func3
    (ChangeSpec.witness_shaped (enc := enc) (C := Tryd.checked) (os := os) (X := fun w _ => laidMetH Tryd.prog Rows.syntaxWordsRow.laid w) false (World.doorLaid Tryd.prog 62 os) #[.string .empty] 8 rfl (World.shaped_of_RefB (by kernel_rfl) (by kernel_rfl)) (by kernel_rfl) (by kernel_rfl) (by kernel_rfl) (door_met os _)) ?_
  intro W base args ds gs before hval hW _ _ hL _
  refine law_contract (H := H) (enc := enc) goodXL (fun _ => rfl) Tryd.func3 (by kernel_rfl) (by kernel_rfl) (L := [9]) (by kernel_rfl) laidOut (by kernel_rfl) (tb := 4) (by kernel_rfl) Tryd.underlying4 rfl ?_ smallP_all 1 pure W base args ds gs before hval hW (fun _ _ => trivial)
  intro ds h
  have hs : Tryd.f3.params.size = 1 := by kernel_rfl
  rw [hs] at h
  match ds, h with
  | [a0], _ => rfl
theorem over : Rows.SyntaxWordsSaid :=
  OpenClaim.holds_of_wide 3 Tryd.f3 rfl rfl rfl rfl rfl rfl rfl ⟨rfl, rfl, rfl, rfl, rfl⟩ rfl rfl rfl rfl rfl (by kernel_rfl) Tryd.func3 (by kernel_rfl)
    (of_decide_eq_true (by kernel_rfl)) (by unfold Func.isWrapper; first | (rw [if_pos (by decide +kernel)]; kernel_rfl) | (rw [if_neg (by decide +kernel)]; exact ⟨rfl, rfl⟩))
    (fun os started H enc _ => lifted os started H enc)
end Go.Proofs.YtchgegcndcdleaaDoor.syntaxWords
namespace Go.Proofs.YtchgegcndcdleaaDoor
/-- The card. -/
theorem syntaxWordsCard_holds : Rows.SyntaxWordsCardSaid :=
  Claim7.holds_tied_plain_at .later [] [.data, .data, .data, .sentinel, .sentinel] true (true, "62a72a9a9e62d7d3d7e625a4cf9e40175f34e29f28f35bf8eeae3634842baf55") true
    syntaxWords.over (fun _ h => by cases h) (by kernel_rfl) (fun _ h => by cases h) syntaxWords_row_tie rfl ⟨rfl, rfl⟩ (by kernel_rfl) rfl
    (fun f fn hf hfn => by
      obtain rfl : f = 3 := Option.some.inj ((show Tryd.prog.funcNamed "substation/substationlaw04.SyntaxWords" = some 3 by kernel_rfl).symm.trans hf) |>.symm
      obtain rfl : fn = Tryd.f3 := (Option.some.inj (Tryd.func3.symm.trans hfn)).symm
      exact ⟨by kernel_rfl, fun j t ht => by
        rw [Tryd.params3] at ht
        have hm : t ∈ [9] := by simpa using Array.mem_of_getElem? ht
        have hall : ([9].all fun u => !Tryd.prog.wantsStandIn u) = true := by kernel_rfl
        exact (show Tryd.prog.wantsStandIn t = false by simpa using List.all_eq_true.1 hall t hm)⟩)
    (by kernel_rfl)
#print axioms syntaxWordsCard_holds
end Go.Proofs.YtchgegcndcdleaaDoor
