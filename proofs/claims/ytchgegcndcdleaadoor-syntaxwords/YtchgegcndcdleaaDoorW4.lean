/- Numbers: both. -/
import Derived.Test.YtchgegcndcdleaaDoorW3
set_option linter.unusedVariables false
set_option linter.unusedSimpArgs false
set_option linter.unusedSectionVars false
namespace Go.Proofs.YtchgegcndcdleaaDoor
open Go Go.Sx
def b45 (s : ByteArray) : Bool := (((bAt s 0).toNat : Nat) : Int) == 45
def b48 (s : ByteArray) : Bool := (((bAt s 0).toNat : Nat) : Int) == 48
theorem num_t (s : ByteArray) : (callF N12 100 5 [vS s] []).run =
  bif (strEq (bodyS s) { data := #[] }) then some ((.tup [(.c (cI 0)), (.c (cB false))]), [])
  else bif (decide (((bodyS s).size : Int) > 7)) then some ((.tup [(.c (cI 0)), (.c (cB false))]), [])
  else bif (true && decide (0 < ((bodyS s).size : Int))) then bif (b48 (bodyS s)) then bif (ngS s) then some ((.tup [(.c (cI 0)), (.c (cB false))]), [])
      else bif (decide (((bodyS s).size : Int) > 1)) then some ((.tup [(.c (cI 0)), (.c (cB false))]), [])
      else bif (isHd hdp5 (fun _ => True) (hdp5 ⟨s, bodyS s, ngS s⟩)) then bif (allB digU (bodyS s) 0) then bif (okA s) then some ((.tup [(.c (cI (valS s))), (.c (cB true))]), [])
          else none
        else some ((.tup [(.c (cI 0)), (.c (cB false))]), [])
      else none
    else bif (isHd hdp5 (fun _ => True) (hdp5 ⟨s, bodyS s, ngS s⟩)) then bif (allB digU (bodyS s) 0) then bif (okA s) then some ((.tup [(.c (cI (valS s))), (.c (cB true))]), [])
        else none
      else some ((.tup [(.c (cI 0)), (.c (cB false))]), [])
    else none
  else none := by kernel_rfl
theorem rnum_t (s : ByteArray) : (callF N12 100 6 [vS s] []).run =
  bif (decide ((s.size : Int) > 1)) then bif (true && decide (0 < (s.size : Int))) then bif (b45 s) then bif (true && decide (1 ≤ (s.size : Int))) then bif (decide (((s.extract 1 s.size).size : Int) < 1)) then some ((.tup [(.c (cI 0)), (.c (cB false))]), [])
          else bif (decide (((s.extract 1 s.size).size : Int) > 7)) then some ((.tup [(.c (cI 0)), (.c (cB false))]), [])
          else bif (true && decide (0 < ((s.extract 1 s.size).size : Int))) then bif (b48 (s.extract 1 s.size)) then bif (decide (((s.extract 1 s.size).size : Int) > 1)) then some ((.tup [(.c (cI 0)), (.c (cB false))]), [])
              else bif (b45 s) then some ((.tup [(.c (cI 0)), (.c (cB false))]), [])
              else bif (isHd hdp6 (fun p => p.d.size ≤ 8) (hdp6 ⟨b45 s, s.extract 1 s.size⟩)) then bif (allB digU (s.extract 1 s.size) 0) then bif (b45 s) then some ((.tup [(.c (cI (IntKind.i64.wrap (0 - decW (dropB (s.extract 1 s.size) 0) 0)))), (.c (cB true))]), [])
                  else some ((.tup [(.c (cI (decW (dropB (s.extract 1 s.size) 0) 0))), (.c (cB true))]), [])
                else some ((.tup [(.c (cI 0)), (.c (cB false))]), [])
              else none
            else bif (isHd hdp6 (fun p => p.d.size ≤ 8) (hdp6 ⟨b45 s, s.extract 1 s.size⟩)) then bif (allB digU (s.extract 1 s.size) 0) then bif (b45 s) then some ((.tup [(.c (cI (IntKind.i64.wrap (0 - decW (dropB (s.extract 1 s.size) 0) 0)))), (.c (cB true))]), [])
                else some ((.tup [(.c (cI (decW (dropB (s.extract 1 s.size) 0) 0))), (.c (cB true))]), [])
              else some ((.tup [(.c (cI 0)), (.c (cB false))]), [])
            else none
          else none
        else none
      else bif (decide ((s.size : Int) < 1)) then some ((.tup [(.c (cI 0)), (.c (cB false))]), [])
      else bif (decide ((s.size : Int) > 7)) then some ((.tup [(.c (cI 0)), (.c (cB false))]), [])
      else bif (true && decide (0 < (s.size : Int))) then bif (b48 s) then bif (decide ((s.size : Int) > 1)) then some ((.tup [(.c (cI 0)), (.c (cB false))]), [])
          else bif (b45 s) then some ((.tup [(.c (cI 0)), (.c (cB false))]), [])
          else bif (isHd hdp6 (fun p => p.d.size ≤ 8) (hdp6 ⟨b45 s, s⟩)) then bif (allB digU s 0) then bif (b45 s) then some ((.tup [(.c (cI (IntKind.i64.wrap (0 - decW (dropB (s) 0) 0)))), (.c (cB true))]), [])
              else some ((.tup [(.c (cI (decW (dropB (s) 0) 0))), (.c (cB true))]), [])
            else some ((.tup [(.c (cI 0)), (.c (cB false))]), [])
          else none
        else bif (isHd hdp6 (fun p => p.d.size ≤ 8) (hdp6 ⟨b45 s, s⟩)) then bif (allB digU s 0) then bif (b45 s) then some ((.tup [(.c (cI (IntKind.i64.wrap (0 - decW (dropB (s) 0) 0)))), (.c (cB true))]), [])
            else some ((.tup [(.c (cI (decW (dropB (s) 0) 0))), (.c (cB true))]), [])
          else some ((.tup [(.c (cI 0)), (.c (cB false))]), [])
        else none
      else none
    else none
  else bif (decide ((s.size : Int) < 1)) then some ((.tup [(.c (cI 0)), (.c (cB false))]), [])
  else bif (decide ((s.size : Int) > 7)) then some ((.tup [(.c (cI 0)), (.c (cB false))]), [])
  else bif (true && decide (0 < (s.size : Int))) then bif (b48 s) then bif (decide ((s.size : Int) > 1)) then some ((.tup [(.c (cI 0)), (.c (cB false))]), [])
      else bif (isHd hdp6 (fun p => p.d.size ≤ 8) (hdp6 ⟨false, s⟩)) then bif (allB digU s 0) then some ((.tup [(.c (cI (decW (dropB (s) 0) 0))), (.c (cB true))]), [])
        else some ((.tup [(.c (cI 0)), (.c (cB false))]), [])
      else none
    else bif (isHd hdp6 (fun p => p.d.size ≤ 8) (hdp6 ⟨false, s⟩)) then bif (allB digU s 0) then some ((.tup [(.c (cI (decW (dropB (s) 0) 0))), (.c (cB true))]), [])
      else some ((.tup [(.c (cI 0)), (.c (cB false))]), [])
    else none
  else none := by kernel_rfl


/-- What a number is: to the program, and to the specification. -/
def okN (s : ByteArray) : Bool := decide (1 ≤ (bodyS s).size) && decide ((bodyS s).size ≤ 7) && !(b48 (bodyS s) && (ngS s || decide (((bodyS s).size : Int) > 1))) && allB digU (bodyS s) 0
theorem strEq_nil (s : ByteArray) : strEq s ⟨#[]⟩ = decide (s.size = 0) := by
  unfold strEq
  rcases s with ⟨⟨l⟩⟩
  cases l with
  | nil => rfl
  | cons a l => simp [ByteArray.size]
theorem num_s (s : ByteArray) : (callF N12 100 5 [vS s] []).run = some (.tup [.c (cI (bif okN s then valS s else 0)), .c (cB (okN s))], []) := by
  rw [num_t, isHd_true (hd := hdp5) (pre := fun _ => True) (a := ⟨s, bodyS s, ngS s⟩) trivial, strEq_nil]
  by_cases e : (bodyS s).size = 0
  · have : okN s = false := by unfold okN; rw [decide_eq_false (show ¬ 1 ≤ (bodyS s).size by omega)]; rfl
    rw [this, decide_eq_true e]; rfl
  · by_cases h3 : (bodyS s).size ≤ 7
    · have hA : okA s = allB digU (bodyS s) 0 := by
        unfold okA; rw [decide_eq_true (show 1 ≤ (bodyS s).size by omega), decide_eq_true (show (bodyS s).size ≤ 8 by omega)]; rfl
      unfold okN
      rw [hA, decide_eq_false e, decide_eq_false (show ¬ ((bodyS s).size : Int) > 7 by omega), decide_eq_true (show (0 : Int) < (bodyS s).size by omega), decide_eq_true (show 1 ≤ (bodyS s).size by omega), decide_eq_true h3]
      generalize b48 (bodyS s) = x1
      generalize ngS s = x2
      generalize decide (((bodyS s).size : Int) > 1) = x3
      generalize allB digU (bodyS s) 0 = x4
      cases x1 <;> cases x2 <;> cases x3 <;> cases x4 <;> rfl
    · have : okN s = false := by unfold okN; rw [decide_eq_false h3, Bool.and_false]; rfl
      rw [this, decide_eq_false e, decide_eq_true (show ((bodyS s).size : Int) > 7 by omega)]; rfl
theorem ngS_45 {s : ByteArray} (h : 1 ≤ s.size) : ngS s = b45 s := by
  rw [Bool.eq_iff_iff, ngS_iff]
  unfold b45
  rw [beq_iff_eq]
  constructor
  · intro h'; rw [h'.2]; rfl
  · intro h'
    refine ⟨h, UInt8.toNat_inj.1 ?_⟩
    show _ = 45
    omega
theorem decW_all {s : ByteArray} (h : allB digU s 0 = true) : decW (dropB s 0) 0 = decV (dropB s 0) 0 := by
  apply decW_V
  exact h
theorem rnum_s (s : ByteArray) : (callF N12 100 6 [vS s] []).run = some (.tup [.c (cI (bif okN s then valS s else 0)), .c (cB (okN s))], []) := by
  rw [rnum_t]
  by_cases h1 : s.size > 1
  · have hn := ngS_45 (s := s) (by omega)
    rw [decide_eq_true (show (s.size : Int) > 1 by omega), decide_eq_true (show (0 : Int) < s.size by omega), decide_eq_true (show (1 : Int) ≤ s.size by omega)]
    cases hb : b45 s
    · rw [hb] at hn
      have eb : bodyS s = s := by unfold bodyS; rw [hn]; rfl
      by_cases h7 : s.size ≤ 7
      · rw [isHd_true (hd := hdp6) (pre := fun p => p.d.size ≤ 8) (a := ⟨false, s⟩) (show s.size ≤ 8 by omega)]
        unfold okN valS
        rw [eb, hn, decide_eq_false (show ¬ (s.size : Int) < 1 by omega), decide_eq_false (show ¬ (s.size : Int) > 7 by omega), decide_eq_true (show 1 ≤ s.size by omega), decide_eq_true h7]
        cases b48 s
        · cases ha : allB digU s 0
          · rfl
          · rw [decW_all ha]; rfl
        · rw [decide_eq_true (show (s.size : Int) > 1 by omega)]; rfl
      · have : okN s = false := by unfold okN; rw [eb, decide_eq_false h7, Bool.and_false]; rfl
        rw [this, decide_eq_false (show ¬ (s.size : Int) < 1 by omega), decide_eq_true (show (s.size : Int) > 7 by omega)]; rfl
    · rw [hb] at hn
      have eb : bodyS s = s.extract 1 s.size := by unfold bodyS; rw [hn]; rfl
      have hz := ngS_size hn
      by_cases h7 : (s.extract 1 s.size).size ≤ 7
      · rw [isHd_true (hd := hdp6) (pre := fun p => p.d.size ≤ 8) (a := ⟨true, s.extract 1 s.size⟩) (show (s.extract 1 s.size).size ≤ 8 by omega)]
        unfold okN valS
        rw [eb, hn, decide_eq_false (show ¬ ((s.extract 1 s.size).size : Int) < 1 by omega), decide_eq_false (show ¬ ((s.extract 1 s.size).size : Int) > 7 by omega), decide_eq_true (show (0 : Int) < (s.extract 1 s.size).size by omega), decide_eq_true (show 1 ≤ (s.extract 1 s.size).size by omega), decide_eq_true h7]
        cases b48 (s.extract 1 s.size)
        · cases ha : allB digU (s.extract 1 s.size) 0
          · rfl
          · rw [decW_all ha]; rfl
        · cases decide (((s.extract 1 s.size).size : Int) > 1) <;> rfl
      · have : okN s = false := by unfold okN; rw [eb, decide_eq_false h7, Bool.and_false]; rfl
        rw [this, decide_eq_false (show ¬ ((s.extract 1 s.size).size : Int) < 1 by omega), decide_eq_true (show ((s.extract 1 s.size).size : Int) > 7 by omega)]; rfl
  · rw [decide_eq_false (show ¬ (s.size : Int) > 1 by omega)]
    by_cases h0 : s.size = 0
    · have hn : ngS s = false := by
        cases hn : ngS s
        · rfl
        · have := ((ngS_iff s).1 hn).1; omega
      have eb : bodyS s = s := by unfold bodyS; rw [hn]; rfl
      have : okN s = false := by unfold okN; rw [eb, decide_eq_false (show ¬ 1 ≤ s.size by omega)]; rfl
      rw [this, decide_eq_true (show (s.size : Int) < 1 by omega)]; rfl
    · have hn := ngS_45 (s := s) (by omega)
      rw [isHd_true (hd := hdp6) (pre := fun p => p.d.size ≤ 8) (a := ⟨false, s⟩) (show s.size ≤ 8 by omega)]
      rw [decide_eq_false (show ¬ (s.size : Int) < 1 by omega), decide_eq_false (show ¬ (s.size : Int) > 7 by omega), decide_eq_true (show (0 : Int) < s.size by omega)]
      cases hb : b45 s
      · rw [hb] at hn
        have eb : bodyS s = s := by unfold bodyS; rw [hn]; rfl
        unfold okN valS
        rw [eb, hn, decide_eq_true (show 1 ≤ s.size by omega), decide_eq_true (show s.size ≤ 7 by omega), decide_eq_false (show ¬ (s.size : Int) > 1 by omega)]
        cases b48 s <;> cases ha : allB digU s 0 <;> first | rfl | (rw [decW_all ha]; rfl)
      · rw [hb] at hn
        have hz := ngS_size hn
        have eb : bodyS s = s.extract 1 s.size := by unfold bodyS; rw [hn]; rfl
        have h45 := ((ngS_iff s).1 hn).2
        have : okN s = false := by unfold okN; rw [eb, decide_eq_false (show ¬ 1 ≤ (s.extract 1 s.size).size by omega)]; rfl
        have h48 : b48 s = false := by unfold b48; rw [h45]; rfl
        have hd : allB digU s 0 = false := by rw [allB_step (by omega), h45]; rfl
        rw [this, h48, hd]; rfl
end Go.Proofs.YtchgegcndcdleaaDoor
