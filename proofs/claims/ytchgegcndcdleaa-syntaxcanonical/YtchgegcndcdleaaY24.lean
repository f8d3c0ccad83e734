/- The lexer: the next token, told. -/
import Derived.Test.YtchgegcndcdleaaY23
set_option linter.unusedVariables false
set_option linter.unusedSimpArgs false
set_option linter.unusedSectionVars false
namespace Go.Proofs.Ytchgegcndcdleaa
open Go Go.Sx
/-- The next token from a place and a line on; the place and the line behind it. -/
def lxF : Nat → ByteArray → Nat → Int → LR × Nat × Int
  | 0, _, a, line => (errR line 5, a, line)
  | n + 1, s, a, line =>
    bif decide (s.size ≤ a) then (⟨0, ByteArray.empty, line, 0, 0⟩, a, line)
    else bif ((bAt s a).toNat : Int) == 35 then lxF n s (a + spanN comU (restB s a)) line
    else bif ((bAt s a).toNat : Int) == 10 then lxF n s (a + 1) (line + 1)
    else bif ((bAt s a).toNat : Int) == 32 then lxF n s (a + 1) line
    else bif ((bAt s a).toNat : Int) == 9 then lxF n s (a + 1) line
    else bif ((bAt s a).toNat : Int) == 123 then (⟨(bAt s a).toNat, ByteArray.empty, line, 0, 0⟩, a + 1, line)
    else bif ((bAt s a).toNat : Int) == 125 then (⟨(bAt s a).toNat, ByteArray.empty, line, 0, 0⟩, a + 1, line)
    else bif ((bAt s a).toNat : Int) == 59 then (⟨(bAt s a).toNat, ByteArray.empty, line, 0, 0⟩, a + 1, line)
    else bif ((bAt s a).toNat : Int) == 34 then ((quoD s a line).1, (quoD s a line).2, line)
    else bif plU (bAt s a) then (finD s (wrdJ s a) 119 (s.extract a (wrdJ s a)) line, wrdJ s a, line)
    else (errR line 5, a, line)
theorem com_pos {s : ByteArray} {a : Nat} (ha : a < s.size) (h : ((bAt s a).toNat : Int) == 35) : 0 < spanN comU (restB s a) := by
  rw [restB_cons ha, spanN_cons, if_pos]
  · omega
  · unfold comU
    rw [beq_iff_eq] at h
    rw [h]; rfl
def rtn3 (s : ByteArray) (x : LR × Nat × Int) : Option (AV × Mem) := rtn x.1 s (x.2.1 : Nat) x.2.2
theorem nx_run (s : ByteArray) (hs : s.size ≤ 12000) : ∀ (n a : Nat) (line : Int), s.size - a < n → a ≤ s.size → 0 ≤ line → line + (s.size - a : Nat) ≤ 20000 → nxR s a line (fun a line => (nxF (n - 1) s a line).run) = rtn3 s (lxF n s a line) := by
  intro n
  induction n with
  | zero => intro a line h; omega
  | succ n ih =>
    intro a line h ha h0 h1
    have step : ∀ (a' : Nat) (line' : Int), a < a' → a' ≤ s.size → 0 ≤ line' → line' + (s.size - a' : Nat) ≤ 20000 → (nxF n s a' line').run = rtn3 s (lxF n s a' line') := fun a' line' k1 k2 k3 k4 => by
      cases n with
      | zero => omega
      | succ n => rw [nx_i]; exact ih a' line' (by omega) k2 k3 k4
    unfold nxR
    show _ = rtn3 s (bif decide (s.size ≤ a) then _ else _)
    by_cases hlt : a < s.size
    · have e1 : decide ((a : Int) < s.size) = true := by rw [decide_eq_true_eq]; omega
      have e2 : decide ((0 : Int) ≤ a) = true := by rw [decide_eq_true_eq]; omega
      have e3 : IntKind.i64.wrap ((a : Int) + 1) = ((a + 1 : Nat) : Int) := by rw [wrap_id (by omega) (by omega)]; rfl
      have e4 : ((a : Int) == (s.size : Int)) = false := by rw [beq_eq_false_iff_ne]; omega
      have e5 : decide (s.size ≤ a) = false := by rw [decide_eq_false_iff_not]; omega
      have e6 : IntKind.i64.wrap (line + 1) = line + 1 := wrap_id (by omega) (by omega)
      have e7 : decide (a < s.size) = true := decide_eq_true hlt
      have e8 : decide (s.size ≤ 9223372036854775807) = true := by rw [decide_eq_true_eq]; omega
      rw [e1, e2, e3, e4, e5, e6, wrap32_byte]
      simp only [Int.toNat_natCast, Bool.and_self, cond_true, cond_false, e7, e8]
      cases c35 : ((bAt s a).toNat : Int) == 35
      · cases c10 : ((bAt s a).toNat : Int) == 10
        · cases c32 : ((bAt s a).toNat : Int) == 32
          · cases c9 : ((bAt s a).toNat : Int) == 9
            · cases c123 : ((bAt s a).toNat : Int) == 123
              · cases c125 : ((bAt s a).toNat : Int) == 125
                · cases c59 : ((bAt s a).toNat : Int) == 59
                  · cases c34 : ((bAt s a).toNat : Int) == 34
                    · simp only [cond_false]
                      show (bif plU (bAt s a) then _ else _) = _
                      cases hp : plU (bAt s a)
                      · rfl
                      · have hj := span_in s a plU ha
                        have hj2 : wrdJ s a ≤ s.size := hj
                        have k1 : decide ((0 : Int) ≤ ((wrdJ s a : Nat) : Int)) = true := by rw [decide_eq_true_eq]; omega
                        have k2 : decide (((wrdJ s a : Nat) : Int) ≤ s.size) = true := by rw [decide_eq_true_eq]; omega
                        have k3 : decide ((a : Int) ≤ ((wrdJ s a : Nat) : Int)) = true := by rw [decide_eq_true_eq]; unfold wrdJ; omega
                        have hw : isHd hdpw preW (hdw s a line a) = true := isHd_true (hd := hdpw) (pre := preW) (a := ⟨s, a, line, a⟩) ⟨ha, by show s.size ≤ _; omega⟩
                        simp only [hw, k1, k2, k3, Bool.and_self, cond_true]
                        rfl
                    · rfl
                  · rfl
                · rfl
              · rfl
            · exact step (a + 1) line (by omega) (by omega) h0 (by omega)
          · exact step (a + 1) line (by omega) (by omega) h0 (by omega)
        · exact step (a + 1) (line + 1) (by omega) (by omega) (by omega) (by omega)
      · have hp := com_pos hlt c35
        have hi := span_in s a comU ha
        have hw : isHd hdpc prec (hdc s a line) = true := isHd_true (hd := hdpc) (pre := prec) (a := ⟨s, a, line⟩) ⟨ha, by show s.size ≤ _; omega⟩
        simp only [hw, cond_true]
        exact step (a + spanN comU (restB s a)) line (by omega) hi h0 (by omega)
    · have e4 : ((a : Int) == (s.size : Int)) = true := by rw [beq_iff_eq]; omega
      have e5 : decide (s.size ≤ a) = true := by rw [decide_eq_true_eq]; omega
      rw [e4, e5]; rfl
def lxD (s : ByteArray) (a : Nat) (line : Int) : LR × Nat × Int := lxF (s.size + 1) s a line
def okL (s : ByteArray) (a line : Int) : Bool := decide (0 ≤ a) && decide (a.toNat ≤ s.size) && decide (s.size ≤ 12000) && decide (0 ≤ line) && decide (line + ((s.size - a.toNat : Nat) : Int) ≤ 20000)
def f17 : SaysM := fun args mem => match args, mem with
  | [.c (.s (.ptr 0 0))], [.cells [.s (.d (.c (.string s))), .s (.d (.c (.int .i64 a))), .s (.d (.c (.int .i64 line)))] none] =>
    some (.ite (okL s a line) (.ret (lexT (lxD s a.toNat line).1, [lexB s ((lxD s a.toNat line).2.1 : Nat) (lxD s a.toNat line).2.2])) .fail)
  | _, _ => none
noncomputable def G17 : Ctx := { G30 with mprim := addPrM G30.mprim 17 f17 }
theorem goodG17 : Sx.Good Try.prog G17 := goodG30.primM 17 f17 fun args mem t r m h ht => by
  unfold f17 at h
  split at h
  · rename_i s a line
    injection h with h; subst h
    obtain ⟨h1, h2⟩ := guard_run ht
    injection h2 with h3 h4; subst h3; subst h4
    simp only [okL, Bool.and_eq_true, decide_eq_true_eq] at h1
    refine goodG30.call (k := s.size + 2) ?_
    rw [← callF_eq]
    have := nx_run s h1.1.1.2 (s.size + 1) a.toNat line (by omega) h1.1.1.1.2 h1.1.2 h1.2
    rw [Int.toNat_of_nonneg h1.1.1.1.1] at this
    exact (nx_0 s.size s a line).trans this
  · cases h
end Go.Proofs.Ytchgegcndcdleaa
