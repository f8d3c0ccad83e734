/- Numbers: calls. -/
import Derived.Test.YtchgegcndcdleaaDoorW2
set_option linter.unusedVariables false
set_option linter.unusedSimpArgs false
set_option linter.unusedSectionVars false
namespace Go.Proofs.YtchgegcndcdleaaDoor
open Go Go.Sx
abbrev dash : ByteArray := ⟨#[45]⟩
/-- Whether a minus stands first; what follows it. -/
def ngS (s : ByteArray) : Bool := strEq (s.extract 0 1) dash
def bodyS (s : ByteArray) : ByteArray := bif ngS s then s.extract 1 s.size else s
def okA (s : ByteArray) : Bool := decide (1 ≤ (bodyS s).size) && decide ((bodyS s).size ≤ 8) && allB digU (bodyS s) 0
def valS (s : ByteArray) : Int := bif ngS s then IntKind.i64.wrap (0 - decV (dropB (bodyS s) 0) 0) else decV (dropB (bodyS s) 0) 0
theorem ngS_iff (s : ByteArray) : ngS s = true ↔ 1 ≤ s.size ∧ bAt s 0 = 45 := by
  unfold ngS strEq
  rw [beq_iff_eq]
  have hx : (s.extract 0 1).data.toList = s.data.toList.take 1 := by
    rw [ByteArray.data_extract]; simp
  rw [hx]
  rcases hs : s.data with ⟨l⟩
  have hsz : s.size = l.length := by show s.data.size = _; rw [hs]; rfl
  have hb : bAt s 0 = l.getD 0 0 := by unfold bAt; rw [hs]; simp [Array.getD_eq_getD_getElem?, List.getD_eq_getElem?_getD]
  rw [hsz, hb]
  cases l with
  | nil => simp
  | cons b l => simp
theorem ngS_size {s : ByteArray} (h : ngS s = true) : (s.extract 1 s.size).size = s.size - 1 := by
  rw [ByteArray.size_extract]; omega
theorem cut_t (s : ByteArray) : (callF N29 100 10 [vS s, vS (⟨#[45]⟩ : ByteArray)] []).run =
  bif (decide ((s.size : Int) ≥ 1)) then bif (true && decide (1 ≤ (s.size : Int))) then bif (!strEq (s.extract 0 1) { data := #[45] }) then some ((.tup [(.c (cS s)), (.c (cB false))]), [])
      else bif (true && decide (1 ≤ (s.size : Int))) then some ((.tup [(.c (cS (s.extract 1 s.size))), (.c (cB true))]), [])
      else none
    else none
  else some ((.tup [(.c (cS s)), (.c (cB false))]), []) := by kernel_rfl
theorem cut_s (s : ByteArray) : (callF N29 100 10 [vS s, vS dash] []).run = some (.tup [.c (cS (bodyS s)), .c (cB (ngS s))], []) := by
  rw [cut_t]
  unfold bodyS
  cases hn : ngS s
  · by_cases h : s.size ≥ 1
    · have hn' := hn
      unfold ngS at hn'
      rw [hn', decide_eq_true (show (s.size : Int) ≥ 1 by omega)]
      rfl
    · rw [decide_eq_false (show ¬ (s.size : Int) ≥ 1 by omega)]; rfl
  · have h := ((ngS_iff s).1 hn).1
    have hn' := hn
    unfold ngS at hn'
    rw [hn', decide_eq_true (show (s.size : Int) ≥ 1 by omega)]; rfl
def f10 : Says
  | [.c (.s (.d (.c (.string s)))), .c (.s (.d (.c (.string t))))] => some (.ite (strEq t dash) (.ret (.tup [.c (cS (bodyS s)), .c (cB (ngS s))], [])) .fail)
  | _ => none
noncomputable def N10 : Ctx := { N29 with mprim := addPr N29.mprim 10 f10 }
theorem goodN10 : Sx.Good Tryd.prog N10 := goodN29.prim1 10 f10 fun args t r m h ht => by
  unfold f10 at h
  split at h
  · rename_i s d
    injection h with h; subst h
    cases hd : strEq d dash
    · rw [hd] at ht; cases ht
    · rw [hd] at ht
      rw [strEq_eq hd]
      exact goodN29.told (show _ = (T.ret (_, ([] : Mem))).run from cut_s s) ht
  · cases h
theorem at_t (s : ByteArray) : (callF N29 100 19 [vS s] []).run =
  bif (decide (0 < (s.size : Int))) then bif (decide ((s.size : Int) < 19)) then bif (true && decide (0 < (s.size : Int))) then bif ((((s.data.getD 0 { toBitVec := 0#8 }).toNat : Nat) : Int) == 45) then bif (true && decide (1 ≤ (s.size : Int))) then bif (decide (((s.extract 1 s.size).size : Int) < 1)) then some ((.tup [(.c (cI 0)), (.c (.ifc 59 (.d (.c (.int .i64 2)))))]), [])
            else bif (isHd hdp19 pre19 (hdp19 ⟨s.extract 1 s.size, s⟩)) then bif (true && decide (0 < (s.size : Int))) then bif ((((s.data.getD 0 { toBitVec := 0#8 }).toNat : Nat) : Int) == 45) then some ((.tup [(.c (cI (IntKind.i64.wrap (0 - decV (dropB (s.extract 1 s.size) 0) 0)))), (.c (.s (.d (.c .nilIface))))]), [])
                else some ((.tup [(.c (cI (decV (dropB (s.extract 1 s.size) 0) 0))), (.c (.s (.d (.c .nilIface))))]), [])
              else none
            else none
          else none
        else bif (true && decide (0 < (s.size : Int))) then bif ((((s.data.getD 0 { toBitVec := 0#8 }).toNat : Nat) : Int) == 43) then bif (true && decide (1 ≤ (s.size : Int))) then bif (decide (((s.extract 1 s.size).size : Int) < 1)) then some ((.tup [(.c (cI 0)), (.c (.ifc 59 (.d (.c (.int .i64 2)))))]), [])
              else bif (isHd hdp19 pre19 (hdp19 ⟨s.extract 1 s.size, s⟩)) then bif (true && decide (0 < (s.size : Int))) then bif ((((s.data.getD 0 { toBitVec := 0#8 }).toNat : Nat) : Int) == 45) then some ((.tup [(.c (cI (IntKind.i64.wrap (0 - decV (dropB (s.extract 1 s.size) 0) 0)))), (.c (.s (.d (.c .nilIface))))]), [])
                  else some ((.tup [(.c (cI (decV (dropB (s.extract 1 s.size) 0) 0))), (.c (.s (.d (.c .nilIface))))]), [])
                else none
              else none
            else none
          else bif (isHd hdp19 pre19 (hdp19 ⟨s, s⟩)) then bif (true && decide (0 < (s.size : Int))) then bif ((((s.data.getD 0 { toBitVec := 0#8 }).toNat : Nat) : Int) == 45) then some ((.tup [(.c (cI (IntKind.i64.wrap (0 - decV (dropB (s) 0) 0)))), (.c (.s (.d (.c .nilIface))))]), [])
              else some ((.tup [(.c (cI (decV (dropB (s) 0) 0))), (.c (.s (.d (.c .nilIface))))]), [])
            else none
          else none
        else none
      else none
    else none
  else none := by kernel_rfl
theorem at_s {s : ByteArray} (h : okA s = true) : (callF N29 100 19 [vS s] []).run = some (.tup [.c (cI (valS s)), .c (.s (.d (.c .nilIface)))], []) := by
  simp only [okA, Bool.and_eq_true, decide_eq_true_eq] at h
  obtain ⟨⟨h1, h2⟩, h3⟩ := h
  rw [at_t]
  unfold valS
  cases hn : ngS s
  · have eb : bodyS s = s := by unfold bodyS; rw [hn]; rfl
    rw [eb] at h1 h2 h3 ⊢
    have hd : digU (bAt s 0) = true := by
      rw [allB_step (by omega), Bool.and_eq_true] at h3; exact h3.1
    obtain ⟨_, w2, w3⟩ := dig_wrap hd
    have e45 : ((((bAt s 0).toNat : Nat) : Int) == 45) = false := by rw [beq_eq_false_iff_ne]; omega
    have e43 : ((((bAt s 0).toNat : Nat) : Int) == 43) = false := by rw [beq_eq_false_iff_ne]; omega
    have g1 : decide ((0 : Int) < s.size) = true := by rw [decide_eq_true_eq]; omega
    have g2 : decide ((s.size : Int) < 19) = true := by rw [decide_eq_true_eq]; omega
    have g3 : isHd hdp19 pre19 (hdp19 ⟨s, s⟩) = true := isHd_true (hd := hdp19) (pre := pre19) (a := ⟨s, s⟩) ⟨h2, h3⟩
    show (bif _ then _ else _) = _
    simp only [g1, g2, g3, show ((((s.data.getD 0 { toBitVec := 0#8 }).toNat : Nat) : Int) == 45) = false from e45, show ((((s.data.getD 0 { toBitVec := 0#8 }).toNat : Nat) : Int) == 43) = false from e43, Bool.and_self, cond_true, cond_false]
  · have hb := (ngS_iff s).1 hn
    have eb : bodyS s = s.extract 1 s.size := by unfold bodyS; rw [hn]; rfl
    rw [eb] at h1 h2 h3 ⊢
    have hz := ngS_size hn
    have e45 : ((((bAt s 0).toNat : Nat) : Int) == 45) = true := by rw [hb.2]; rfl
    have g1 : decide ((0 : Int) < s.size) = true := by rw [decide_eq_true_eq]; omega
    have g2 : decide ((s.size : Int) < 19) = true := by rw [decide_eq_true_eq]; omega
    have g4 : decide ((1 : Int) ≤ s.size) = true := by rw [decide_eq_true_eq]; omega
    have g5 : decide (((s.extract 1 s.size).size : Int) < 1) = false := by rw [decide_eq_false_iff_not]; omega
    have g3 : isHd hdp19 pre19 (hdp19 ⟨s.extract 1 s.size, s⟩) = true := isHd_true (hd := hdp19) (pre := pre19) (a := ⟨s.extract 1 s.size, s⟩) ⟨h2, h3⟩
    simp only [g1, g2, g3, g4, g5, show ((((s.data.getD 0 { toBitVec := 0#8 }).toNat : Nat) : Int) == 45) = true from e45, Bool.and_self, cond_true, cond_false]
def f19 : Says
  | [.c (.s (.d (.c (.string s))))] => some (.ite (okA s) (.ret (.tup [.c (cI (valS s)), .c (.s (.d (.c .nilIface)))], [])) .fail)
  | _ => none
noncomputable def N19 : Ctx := { N10 with mprim := addPr N10.mprim 19 f19 }
theorem goodN19 : Sx.Good Tryd.prog N19 := goodN10.prim1 19 f19 fun args t r m h ht => by
  unfold f19 at h
  split at h
  · rename_i s
    injection h with h; subst h
    cases hd : okA s
    · rw [hd] at ht; cases ht
    · rw [hd] at ht
      refine CallSome.glob_eq (X := N29) (X' := N10) rfl ?_
      exact goodN29.told (show _ = (T.ret (_, ([] : Mem))).run from at_s hd) ht
  · cases h
theorem ato_t (s : ByteArray) : (callF N19 100 12 [vS s] []).run = bif okA s then some (.tup [.c (cI (valS s)), .c (.s (.d (.c .nilIface)))], []) else none := by kernel_rfl
noncomputable def N12 : Ctx := { N19 with mprim := addPr N19.mprim 12 f19 }
theorem goodN12 : Sx.Good Tryd.prog N12 := goodN19.prim1 12 f19 fun args t r m h ht => by
  unfold f19 at h
  split at h
  · rename_i s
    injection h with h; subst h
    exact goodN19.told (show _ = (T.ite (okA s) (.ret (_, ([] : Mem))) .fail).run from (ato_t s).trans (by cases okA s <;> rfl)) ht
  · cases h
end Go.Proofs.YtchgegcndcdleaaDoor
