/- The law SyntaxChecks: its run. -/
import Derived.Test.YtchgegcndcdleaaY18
set_option linter.unusedVariables false
set_option linter.unusedSimpArgs false
set_option linter.unusedSectionVars false
namespace Go.Proofs.Ytchgegcndcdleaa
open Go Go.Sx
theorem checks_t (x y : D) : (callF G6 100 5 [.s (.d x), .s (.d y)] []).run =
  bif (okA x) then bif (deepL (itsOf x) 12) then some ((vB true), [])
    else bif (okA y) then bif (deepL (itsOf y) 12) then some ((vB true), [])
      else bif (okA x) then bif (okA x) then bif (errD x == errD x) then bif (okA x) then bif (okA x) then bif (strEq (fmtD x) (fmtD x)) then bif (okA x) then bif (okA x) then bif (countD x == countD x) then bif (okA x && okA y) then bif (okA x && okA y) then bif (sameL (itsOf x) (itsOf y) == sameL (itsOf x) (itsOf y)) then bif (okA x && okA x) then some ((vB (sameL (itsOf x) (itsOf x))), [])
                              else none
                            else some ((vB false), [])
                          else none
                        else none
                      else some ((vB false), [])
                    else none
                  else none
                else some ((vB false), [])
              else none
            else none
          else some ((vB false), [])
        else none
      else none
    else none
  else none := by kernel_rfl
theorem eqWs_self : ∀ l : List Wd, eqWs l l = true
  | [] => rfl
  | a :: l => by simp [eqWs, eqWd, strEq, eqWs_self l]
mutual
theorem sameI_self : ∀ x : It, sameI x x = true
  | .mk a w b k => by simp only [sameI, eqWs_self w, sameL_self k, beq_self_eq_true, Bool.and_self]
theorem sameL_self : ∀ l : List It, sameL l l = true
  | [] => rfl
  | a :: l => by simp only [sameL, sameI_self a, sameL_self l, Bool.and_self]
end
theorem strEq_refl (a : ByteArray) : strEq a a = true := by simp [strEq]
theorem checks_s (l m : List It) (hl : OkA l) (hm : OkA m) : (callF G6 100 5 [.s (.d (encI l)), .s (.d (encI m))] []).run = some (vB true, []) := by
  rw [checks_t, okA_enc hl, okA_enc hm, itsOf_enc]
  simp only [cond_true, Bool.and_self, beq_self_eq_true, strEq_refl, sameL_self]
  cases deepL l 12
  · cases deepL (itsOf (encI m)) 12 <;> rfl
  · rfl
end Go.Proofs.Ytchgegcndcdleaa
