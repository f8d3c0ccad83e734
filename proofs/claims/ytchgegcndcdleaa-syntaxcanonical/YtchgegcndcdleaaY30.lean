/- The laws SyntaxConcatenates and SyntaxCanonical: their runs. -/
import Derived.Test.YtchgegcndcdleaaY29
set_option linter.unusedVariables false
set_option linter.unusedSimpArgs false
set_option linter.unusedSectionVars false
namespace Go.Proofs.Ytchgegcndcdleaa
open Go Go.Sx
def rowsE (l : List It) : List (List D) := (List.range l.length).map fun i => rowL l i
theorem rowsE_dle (l : List It) : DLe (.sl 4 (rowsE l)) (encI l) := by
  unfold encI
  refine DLe.sl (by simp [rowsE]) fun i hi => ?_
  rw [List.getD_eq_getElem?_getD]
  simp only [rowsE, List.getElem?_map, List.getElem?_range hi, Option.map_some, Option.getD_some]
  exact all2_refl DLe.refl _
theorem rowsE_inj {l m : List It} (h : rowsE l = rowsE m) : l = m := by
  have hl : l.length = m.length := by
    have := congrArg List.length h
    simpa [rowsE] using this
  refine List.ext_getElem hl fun i hi hj => ?_
  have h1 : (rowsE l)[i]? = (rowsE m)[i]? := by rw [h]
  simp only [rowsE, List.getElem?_map, List.getElem?_range hi, List.getElem?_range hj, Option.map_some, Option.some.injEq] at h1
  rw [rowL_at l i hi, rowL_at m i hj] at h1
  have h2 := rowK_inj _ _ h1
  simpa [iAt, List.getD_eq_getElem?_getD, hi, hj] using h2
noncomputable def okE (r : List (List D)) : Bool := @decide (∃ l, r = rowsE l ∧ OkA l) (Classical.propDecidable _)
theorem okE_rows {l : List It} (h : OkA l) : okE (rowsE l) = true := by
  simp only [okE, decide_eq_true_eq]
  exact ⟨l, rfl, h⟩
theorem okE_some {r : List (List D)} (h : okE r = true) : ∃ l, r = rowsE l ∧ OkA l := by simpa only [okE, decide_eq_true_eq] using h
open Classical in
noncomputable def itsE (r : List (List D)) : List It := if h : ∃ l, r = rowsE l then h.choose else []
theorem itsE_rows (l : List It) : itsE (rowsE l) = l := by
  have h : ∃ m, rowsE l = rowsE m := ⟨l, rfl⟩
  unfold itsE
  rw [dif_pos h]
  exact (rowsE_inj h.choose_spec).symm
noncomputable def f9 : Says
  | [.c (.s (.d x)), .c (.s (.d (.sl 4 r)))] => some (.ite (okA x && okE r) (.ret (vB (sameL (itsOf x) (itsE r)), [])) .fail)
  | [.c (.s (.d x)), .c (.s (.d y))] => some (.ite (okA x && okA y) (.ret (vB (sameL (itsOf x) (itsOf y)), [])) .fail)
  | _ => none
noncomputable def H9 : Ctx := { G7 with mprim := addPr G7.mprim 9 f9 }
theorem same_told (x y : D) (hx : okA x = true) (hy : okA y = true) : CallSome Try.prog G7 9 [.s (.d x), .s (.d y)] [] (vB (sameL (itsOf x) (itsOf y))) [] :=
  goodG7.prims.mprim 9 [.s (.d x), .s (.d y)] [] (.ite (okA x && okA y) (.ret (vB (sameL (itsOf x) (itsOf y)), [])) .fail) _ _ rfl (by rw [hx, hy]; rfl)
theorem goodH9 : Sx.Good Try.prog H9 := goodG7.prim1 9 f9 fun args t r m h ht => by
  unfold f9 at h
  split at h
  · rename_i x rr
    injection h with h; subst h
    obtain ⟨h1, h2⟩ := guard_run ht
    injection h2 with h3 h4; subst h3; subst h4
    rw [Bool.and_eq_true] at h1
    obtain ⟨l, rfl, h5⟩ := okE_some h1.2
    have := same_told x (encI l) h1.1 (okA_enc h5)
    rw [itsOf_enc] at this
    rw [itsE_rows]
    exact CallSome.le this (le_two (DLe.refl x) (rowsE_dle l))
  · rename_i x y _
    injection h with h; subst h
    obtain ⟨h1, h2⟩ := guard_run ht
    injection h2 with h3 h4; subst h3; subst h4
    rw [Bool.and_eq_true] at h1
    exact same_told x y h1.1 h1.2
  · cases h
def gv9 (f : FuncId) : Bool := if f = 9 then true else false
noncomputable def XL : Ctx := { H9 with gsv := gv9 }
theorem goodXL : Sx.Good Try.prog XL := goodH9.gsv gv9
theorem can_t (s : ByteArray) : (callF XL 100 4 [vS s] []).run =
    bif rEr (parseI s) != 0 then some (vB (((rL (parseI s)).length : Int) == 0), [])
    else bif okA (encI (rL (parseI s))) then bif okA (encI (rL (parseI s))) then bif errD (encI (rL (parseI s))) == 0 then bif decide (((fmtD (encI (rL (parseI s)))).size : Int) > 12000) then some (vB true, [])
          else bif rEr (parseI (fmtD (encI (rL (parseI s))))) == 0 then bif okA (encI (rL (parseI (fmtD (encI (rL (parseI s))))))) && okA (encI (rL (parseI s))) then
            bif sameL (itsOf (encI (rL (parseI (fmtD (encI (rL (parseI s)))))))) (itsOf (encI (rL (parseI s)))) then bif okA (encI (rL (parseI (fmtD (encI (rL (parseI s))))))) then some (vB (strEq (fmtD (encI (rL (parseI (fmtD (encI (rL (parseI s)))))))) (fmtD (encI (rL (parseI s))))), []) else none
            else some (vB false, []) else none
          else some (vB false, [])
        else some (vB false, [])
      else none else none := by kernel_rfl
def catS (s t : ByteArray) : ByteArray := s ++ bs [10] ++ t
theorem con_t (s t : ByteArray) : (callF XL 100 3 [vS s, vS t] []).run =
    bif rEr (parseI s) != 0 then some (vB true, []) else bif rEr (parseI t) != 0 then some (vB true, [])
    else bif decide (IntKind.i64.wrap (IntKind.i64.wrap ((s.size : Int) + (t.size : Int)) + 1) > 12000) then some (vB true, [])
    else bif okA (encI (rL (parseI s))) then bif okA (encI (rL (parseI t))) then bif decide (IntKind.i64.wrap (countD (encI (rL (parseI s))) + countD (encI (rL (parseI t)))) > 600) then some (vB true, [])
        else bif decide (s.size + 1 ≤ 9223372036854775807) then bif decide ((s ++ bs [10]).size + t.size ≤ 9223372036854775807) then
          bif rEr (parseI (catS s t)) == 0 then
            bif true && (true && (rowsE (rL (parseI s))).all fun r => solid (r.map C.d)) then bif decide ((0 + (rowsE (rL (parseI s))).length) * 65 ≤ 70368744177664) then
            bif true && (true && (rowsE (rL (parseI t))).all fun r => solid (r.map C.d)) then bif decide ((([] ++ rowsE (rL (parseI s))).length + (rowsE (rL (parseI t))).length) * 65 ≤ 70368744177664) then
              bif okA (encI (rL (parseI (catS s t)))) && okE ([] ++ rowsE (rL (parseI s)) ++ rowsE (rL (parseI t))) then some (vB (sameL (itsOf (encI (rL (parseI (catS s t))))) (itsE ([] ++ rowsE (rL (parseI s)) ++ rowsE (rL (parseI t))))), []) else none
            else none else none else none else none
          else some (vB false, [])
        else none else none
      else none else none := by kernel_rfl
end Go.Proofs.Ytchgegcndcdleaa
