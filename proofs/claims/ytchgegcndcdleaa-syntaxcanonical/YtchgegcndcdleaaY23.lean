/- The lexer: quoted words, the next token. -/
import Derived.Test.YtchgegcndcdleaaY22
set_option linter.unusedVariables false
set_option linter.unusedSimpArgs false
set_option linter.unusedSectionVars false
namespace Go.Proofs.Ytchgegcndcdleaa
open Go Go.Sx
def quT (s : ByteArray) (line fr : Int) (j : Nat) : T (Ex × St) :=
  .ite (decide (s.size ≤ j)) (.ret (.ex 0, ⟨[.s (.ptr 0 0), na, .s (.ptr 1 0), vI 0, vI 0] ++ nas 88, [lexB s j line, tok0]⟩))
    (.ite (((bAt s j).toNat : Int) == 34) (.ret (rtq (finD s (j + 1) 34 (s.extract fr.toNat j) line) s ((j + 1 : Nat) : Int) line)) (.ret (rtq (errR line 5) s j line)))
theorem quo_loop (s : ByteArray) (hs : s.size ≤ 9223372036854775807) (line : Int) (fr : Nat) : ∀ (m a : Nat), fr ≤ a → a + m = s.size →
    (loopF LW (m + 1) 30 1 3 (hdq s a line fr)).run = (quT s line fr (a + spanN quU (restB s a))).run := by
  intro m
  induction m with
  | zero =>
    intro a hf h
    rw [quo_i, restB_end (by omega)]
    have : decide ((a : Int) < s.size) = false := by rw [decide_eq_false_iff_not]; omega
    rw [this]
    unfold quT
    simp only [T.run]
    rw [show decide (s.size ≤ a + spanN quU []) = true by rw [decide_eq_true_eq, spanN_nil]; omega]
    rfl
  | succ m ih =>
    intro a hf h
    have ha : a < s.size := by omega
    have e1 : decide ((a : Int) < s.size) = true := by rw [decide_eq_true_eq]; omega
    have e2 : decide ((0 : Int) ≤ a) = true := by rw [decide_eq_true_eq]; omega
    have e3 : IntKind.i64.wrap ((a : Int) + 1) = ((a + 1 : Nat) : Int) := by rw [wrap_id (by omega) (by omega)]; rfl
    have e4 : IntKind.i64.wrap (((a + 1 : Nat) : Int) - 1) = (a : Int) := by rw [wrap_id (by omega) (by omega)]; omega
    have e5 : decide ((a : Int) ≤ s.size) = true := by rw [decide_eq_true_eq]; omega
    have e6 : decide ((0 : Int) ≤ fr) = true := by rw [decide_eq_true_eq]; omega
    have e7 : decide ((fr : Int) ≤ (((a : Int).toNat : Nat) : Int)) = true := by rw [decide_eq_true_eq]; omega
    have e8 : decide ((0 : Int) ≤ ((a + 1 : Nat) : Int)) = true := by rw [decide_eq_true_eq]; omega
    have e9 : decide (s.size ≤ a) = false := by rw [decide_eq_false_iff_not]; omega
    rw [quo_i, e3, e4, restB_cons ha, spanN_cons, e7]
    simp only [e1, e2, e5, e6, e8, Int.toNat_natCast, Bool.and_self, cond_true, ih (a + 1) (by omega) (by omega)]
    cases h1 : ((bAt s a).toNat : Int) == 34
    · cases h2 : decide (((bAt s a).toNat : Int) < 32)
      · cases h3 : decide (((bAt s a).toNat : Int) > 126)
        · have hq : quU (bAt s a) = true := by simp only [quU, h1, h2, h3, Bool.not_false, Bool.and_self]
          rw [hq]
          simp only [cond_false, if_true]
          rw [show a + 1 + spanN quU (restB s (a + 1)) = a + (spanN quU (restB s (a + 1)) + 1) by omega]
        · have hq : quU (bAt s a) = false := by simp only [quU, h3, Bool.not_true, Bool.and_false]
          rw [hq]
          simp only [cond_false, cond_true, Bool.false_eq_true, if_false, Nat.add_zero, quT, T.run, e9, h1]
      · have hq : quU (bAt s a) = false := by simp only [quU, h2, Bool.not_true, Bool.and_false, Bool.false_and]
        rw [hq]
        simp only [cond_false, cond_true, Bool.false_eq_true, if_false, Nat.add_zero, quT, T.run, e9, h1]
    · have hq : quU (bAt s a) = false := by simp only [quU, h1, Bool.not_true, Bool.false_and]
      rw [hq]
      simp only [cond_true, Bool.false_eq_true, if_false, Nat.add_zero, quT, T.run, e9, h1, cond_false, Int.toNat_natCast]
structure LqA where
  s : ByteArray
  a : Nat
  line : Int
abbrev hdpq (p : LqA) : St := hdq p.s p.a p.line p.a
def preq (p : LqA) : Prop := p.a ≤ p.s.size ∧ p.s.size ≤ 9223372036854775807
def resQ (s : St) : T (Ex × St) := match s.mem with
  | [.cells [.s (.d (.c (.string x))), .s (.d (.c (.int .i64 a))), .s (.d (.c (.int .i64 line)))] _, _] => quT x line a (a.toNat + spanN quU (restB x a.toNat))
  | _ => .fail
noncomputable def LQ : Ctx := { LW with lp := addLp LW.lp 30 3 1 (lpOf hdpq preq resQ) }
theorem goodLQ : Sx.Good Try.prog LQ := goodLW.loop1 30 3 1 _ _ _ (by kernel_rfl) fun p hp => ⟨p.s.size - p.a + 1, quo_loop p.s hp.2 p.line p.a (p.s.size - p.a) p.a (Nat.le_refl _) (by have := hp.1; omega)⟩
/-- From the first quote on. -/
def quJ (s : ByteArray) (a : Nat) : Nat := a + 1 + spanN quU (restB s (a + 1))
theorem quo_f (s : ByteArray) (a : Nat) (line : Int) : (callF LQ 100 30 [.s (.ptr 0 0)] [lexB s a line]).run =
    bif isHd hdpq preq (hdq s (IntKind.i64.wrap ((a : Int) + 1)) line (IntKind.i64.wrap ((a : Int) + 1))) then
      bif decide (s.size ≤ (IntKind.i64.wrap ((a : Int) + 1)).toNat + spanN quU (restB s (IntKind.i64.wrap ((a : Int) + 1)).toNat)) then some (lexT (errR line 6), [lexB s (((IntKind.i64.wrap ((a : Int) + 1)).toNat + spanN quU (restB s (IntKind.i64.wrap ((a : Int) + 1)).toNat) : Nat) : Int) line])
      else bif ((bAt s ((IntKind.i64.wrap ((a : Int) + 1)).toNat + spanN quU (restB s (IntKind.i64.wrap ((a : Int) + 1)).toNat))).toNat : Int) == 34 then
        some (lexT (finD s ((IntKind.i64.wrap ((a : Int) + 1)).toNat + spanN quU (restB s (IntKind.i64.wrap ((a : Int) + 1)).toNat) + 1) 34 (s.extract (IntKind.i64.wrap ((a : Int) + 1)).toNat ((IntKind.i64.wrap ((a : Int) + 1)).toNat + spanN quU (restB s (IntKind.i64.wrap ((a : Int) + 1)).toNat))) line), [lexB s (((IntKind.i64.wrap ((a : Int) + 1)).toNat + spanN quU (restB s (IntKind.i64.wrap ((a : Int) + 1)).toNat) + 1 : Nat) : Int) line])
      else some (lexT (errR line 5), [lexB s (((IntKind.i64.wrap ((a : Int) + 1)).toNat + spanN quU (restB s (IntKind.i64.wrap ((a : Int) + 1)).toNat) : Nat) : Int) line])
    else none := by kernel_rfl
def quoD (s : ByteArray) (a : Nat) (line : Int) : LR × Nat :=
  bif decide (s.size ≤ quJ s a) then (errR line 6, quJ s a) else bif ((bAt s (quJ s a)).toNat : Int) == 34 then (finD s (quJ s a + 1) 34 (s.extract (a + 1) (quJ s a)) line, quJ s a + 1) else (errR line 5, quJ s a)
theorem quo_s (s : ByteArray) (hs : s.size ≤ 9223372036854775807) (a : Nat) (ha : a < s.size) (line : Int) : (callF LQ 100 30 [.s (.ptr 0 0)] [lexB s a line]).run = some (lexT (quoD s a line).1, [lexB s ((quoD s a line).2 : Nat) line]) := by
  have e3 : IntKind.i64.wrap ((a : Int) + 1) = ((a + 1 : Nat) : Int) := by rw [wrap_id (by omega) (by omega)]; rfl
  rw [quo_f, e3, isHd_true (hd := hdpq) (pre := preq) (a := ⟨s, a + 1, line⟩) ⟨by show a + 1 ≤ s.size; omega, hs⟩]
  simp only [Int.toNat_natCast, cond_true]
  unfold quoD quJ
  cases decide (s.size ≤ a + 1 + spanN quU (restB s (a + 1)))
  · cases ((bAt s (a + 1 + spanN quU (restB s (a + 1)))).toNat : Int) == 34 <;> rfl
  · rfl
def f30 : SaysM := fun args mem => match args, mem with
  | [.c (.s (.ptr 0 0))], [.cells [.s (.d (.c (.string s))), .s (.d (.c (.int .i64 a))), .s (.d (.c (.int .i64 line)))] none] =>
    some (.ite (decide (0 ≤ a) && decide (a.toNat < s.size) && decide (s.size ≤ 9223372036854775807)) (.ret (lexT (quoD s a.toNat line).1, [lexB s ((quoD s a.toNat line).2 : Nat) line])) .fail)
  | _, _ => none
noncomputable def G30 : Ctx := { LW with mprim := addPrM LW.mprim 30 f30 }
theorem goodG30 : Sx.Good Try.prog G30 := goodLW.primM 30 f30 fun args mem t r m h ht => by
  unfold f30 at h
  split at h
  · rename_i s a line
    injection h with h; subst h
    obtain ⟨h1, h2⟩ := guard_run ht
    injection h2 with h3 h4; subst h3; subst h4
    simp only [Bool.and_eq_true, decide_eq_true_eq] at h1
    refine CallSome.glob_eq (X := LQ) (X' := LW) rfl (goodLQ.call (k := 100) ?_)
    rw [← callF_eq]
    have := quo_s s h1.2 a.toNat h1.1.2 line
    rw [Int.toNat_of_nonneg h1.1.1] at this
    exact this
  · cases h
/-! ### The next token -/
def findScope : Code → Option Code
  | .scope b => some b
  | .seq a b => match findScope a with
    | some c => some c
    | none => findScope b
  | _ => none
noncomputable def B17 : Code := (findScope (bodyAt G30 17)).getD .skip
noncomputable def B170 : Code := (findLabel B17 0).getD .skip
noncomputable def fin17 (r : Ex × St) : T (AV × Mem) := match r.1 with
  | .rt | .nm => finish G30 Try.f17 1 r.2
  | _ => .fail
noncomputable def nxF (k : Nat) (s : ByteArray) (a line : Int) : T (AV × Mem) := T.bindF (evF G30 k 17 1 (.scope B17 B170) (hdc s a line)) fin17
def rtn (x : LR) (s : ByteArray) (a line : Int) : Option (AV × Mem) := some (lexT x, [lexB s a line])
def wrdJ (s : ByteArray) (a : Nat) : Nat := a + spanN plU (restB s a)
noncomputable def nxR (s : ByteArray) (a line : Int) (rec : Int → Int → Option (AV × Mem)) : Option (AV × Mem) :=
  bif a == (s.size : Int) then rtn ⟨0, ByteArray.empty, line, 0, 0⟩ s a line else bif decide (0 ≤ a) && decide (a < s.size) then
    bif ((bAt s a.toNat).toNat : Int) == 35 then bif isHd hdpc prec (hdc s a line) then rec ((a.toNat + spanN comU (restB s a.toNat) : Nat) : Int) line else none
    else bif ((bAt s a.toNat).toNat : Int) == 10 then bif ((bAt s a.toNat).toNat : Int) == 10 then rec (IntKind.i64.wrap (a + 1)) (IntKind.i64.wrap (line + 1)) else rec (IntKind.i64.wrap (a + 1)) line
    else bif ((bAt s a.toNat).toNat : Int) == 32 then bif ((bAt s a.toNat).toNat : Int) == 10 then rec (IntKind.i64.wrap (a + 1)) (IntKind.i64.wrap (line + 1)) else rec (IntKind.i64.wrap (a + 1)) line
    else bif ((bAt s a.toNat).toNat : Int) == 9 then bif ((bAt s a.toNat).toNat : Int) == 10 then rec (IntKind.i64.wrap (a + 1)) (IntKind.i64.wrap (line + 1)) else rec (IntKind.i64.wrap (a + 1)) line
    else bif ((bAt s a.toNat).toNat : Int) == 123 then rtn ⟨(bAt s a.toNat).toNat, ByteArray.empty, line, 0, 0⟩ s (IntKind.i64.wrap (a + 1)) line
    else bif ((bAt s a.toNat).toNat : Int) == 125 then rtn ⟨(bAt s a.toNat).toNat, ByteArray.empty, line, 0, 0⟩ s (IntKind.i64.wrap (a + 1)) line
    else bif ((bAt s a.toNat).toNat : Int) == 59 then rtn ⟨(bAt s a.toNat).toNat, ByteArray.empty, line, 0, 0⟩ s (IntKind.i64.wrap (a + 1)) line
    else bif ((bAt s a.toNat).toNat : Int) == 34 then bif decide (0 ≤ a) && decide (a.toNat < s.size) && decide (s.size ≤ 9223372036854775807) then rtn (quoD s a.toNat line).1 s ((quoD s a.toNat line).2 : Nat) line else none
    else bif plB (IntKind.i32.wrap ((bAt s a.toNat).toNat : Int)) then bif isHd hdpw preW (hdw s a line a) then
      bif decide (0 ≤ ((wrdJ s a.toNat : Nat) : Int)) && decide (((wrdJ s a.toNat : Nat) : Int) ≤ s.size) then bif decide (0 ≤ a) && decide (a ≤ ((((wrdJ s a.toNat : Nat) : Int).toNat : Nat) : Int)) then bif decide (0 ≤ ((wrdJ s a.toNat : Nat) : Int)) then
        rtn (finD s ((wrdJ s a.toNat : Nat) : Int).toNat 119 (s.extract a.toNat ((wrdJ s a.toNat : Nat) : Int).toNat) line) s ((wrdJ s a.toNat : Nat) : Int) line
      else none else none else none else none
    else rtn (errR line 5) s a line
  else none
theorem nx_i (k : Nat) (s : ByteArray) (a line : Int) : (nxF (k + 1) s a line).run = nxR s a line fun a line => (nxF k s a line).run := by kernel_rfl
theorem nx_0 (k : Nat) (s : ByteArray) (a line : Int) : (callF G30 (k + 2) 17 [.s (.ptr 0 0)] [lexB s a line]).run = nxR s a line fun a line => (nxF k s a line).run := by kernel_rfl
end Go.Proofs.Ytchgegcndcdleaa
