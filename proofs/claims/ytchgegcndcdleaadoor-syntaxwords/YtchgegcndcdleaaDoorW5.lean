/- The law SyntaxWords: what its calls answer. -/
import Derived.Test.YtchgegcndcdleaaDoorW4
set_option linter.unusedVariables false
set_option linter.unusedSimpArgs false
set_option linter.unusedSectionVars false
namespace Go.Proofs.YtchgegcndcdleaaDoor
open Go Go.Sx
def numV (s : ByteArray) : Int := bif okN s then valS s else 0
def f5 : Says
  | [.c (.s (.d (.c (.string s))))] => some (.ret (.tup [.c (cI (numV s)), .c (cB (okN s))], []))
  | _ => none
noncomputable def N5 : Ctx := { N12 with mprim := addPr N12.mprim 5 f5 }
theorem goodN5 : Sx.Good Tryd.prog N5 := goodN12.prim1 5 f5 fun args t r m h ht => by
  unfold f5 at h
  split at h
  · rename_i s
    injection h with h; subst h
    exact goodN12.told (show _ = (T.ret (_, ([] : Mem))).run from num_s s) ht
  · cases h
noncomputable def N6 : Ctx := { N5 with mprim := addPr N5.mprim 6 f5 }
theorem goodN6 : Sx.Good Tryd.prog N6 := goodN5.prim1 6 f5 fun args t r m h ht => by
  unfold f5 at h
  split at h
  · rename_i s
    injection h with h; subst h
    refine CallSome.glob_eq (X := N12) (X' := N5) rfl ?_
    exact goodN12.told (show _ = (T.ret (_, ([] : Mem))).run from rnum_s s) ht
  · cases h
def ar (f : FuncId) (t : Nat) : Nat := if f = 17 ∧ t = 52 then 2 else if f = 17 ∧ t = 108 then 2 else if f = 26 ∧ t = 12 then 1 else 0
noncomputable def XK : Ctx := { N6 with arrs := ar }
theorem goodXK : Sx.Good Tryd.prog XK := goodN6.arrs ar
theorem known_f : (callF XK 400 4 [] []).run = some (vB true, []) := by kernel_rfl
def f4 : Says
  | [] => some (.ret (vB true, []))
  | _ => none
noncomputable def XL : Ctx := { XK with mprim := addPr XK.mprim 4 f4 }
theorem goodXL : Sx.Good Tryd.prog XL := goodXK.prim1 4 f4 fun args t r m h ht => by
  unfold f4 at h
  split at h
  · injection h with h; subst h
    exact goodXK.told (show _ = (T.ret (_, ([] : Mem))).run from known_f) ht
  · cases h
end Go.Proofs.YtchgegcndcdleaaDoor
