/- The lexer over a list of bytes; the parser's state as statements. -/
import Derived.Test.YtchgegcndcdleaaY25
set_option linter.unusedVariables false
set_option linter.unusedSimpArgs false
set_option linter.unusedSectionVars false
namespace Go.Proofs.Ytchgegcndcdleaa
open Go Go.Sx
/-! ### Tokens of a list -/
def hdBad (r : List UInt8) (kind : Int) : Bool := match r with
  | c :: _ => ((c.toNat : Int) == 34 || (kind == 34 && plU c))
  | [] => false
def finL (r : List UInt8) (kind : Int) (w : List UInt8) (line : Int) : LR :=
  bif decide (w.length > 120) then errR line 4 else bif hdBad r kind then errR line 6 else ⟨kind, bs w, line, 0, 0⟩
def quoL (r : List UInt8) (line : Int) : LR × List UInt8 := match r.dropWhile quU with
  | [] => (errR line 6, [])
  | c :: r' => bif (c.toNat : Int) == 34 then (finL r' 34 (r.takeWhile quU) line, r') else (errR line 5, c :: r')
def lxL : Nat → List UInt8 → Int → LR × List UInt8 × Int
  | 0, L, line => (errR line 5, L, line)
  | _ + 1, [], line => (⟨0, ByteArray.empty, line, 0, 0⟩, [], line)
  | n + 1, b :: r, line =>
    bif (b.toNat : Int) == 35 then lxL n ((b :: r).dropWhile comU) line
    else bif (b.toNat : Int) == 10 then lxL n r (line + 1)
    else bif (b.toNat : Int) == 32 then lxL n r line
    else bif (b.toNat : Int) == 9 then lxL n r line
    else bif (b.toNat : Int) == 123 then (⟨b.toNat, ByteArray.empty, line, 0, 0⟩, r, line)
    else bif (b.toNat : Int) == 125 then (⟨b.toNat, ByteArray.empty, line, 0, 0⟩, r, line)
    else bif (b.toNat : Int) == 59 then (⟨b.toNat, ByteArray.empty, line, 0, 0⟩, r, line)
    else bif (b.toNat : Int) == 34 then ((quoL r line).1, (quoL r line).2, line)
    else bif plU b then (finL ((b :: r).dropWhile plU) 119 ((b :: r).takeWhile plU) line, (b :: r).dropWhile plU, line)
    else (errR line 5, b :: r, line)
theorem drop_span (p : UInt8 → Bool) : ∀ l : List UInt8, l.drop (spanN p l) = l.dropWhile p
  | [] => rfl
  | b :: l => by
    rw [spanN_cons, List.dropWhile_cons]
    cases p b
    · rfl
    · simp only [if_true, List.drop_succ_cons, drop_span p l]
theorem take_span (p : UInt8 → Bool) : ∀ l : List UInt8, l.take (spanN p l) = l.takeWhile p
  | [] => rfl
  | b :: l => by
    rw [spanN_cons, List.takeWhile_cons]
    cases p b
    · rfl
    · simp only [if_true, List.take_succ_cons, take_span p l]
theorem restB_add (s : ByteArray) (a n : Nat) : restB s (a + n) = (restB s a).drop n := by
  unfold restB
  rw [List.drop_drop]
theorem extract_bs (s : ByteArray) (a n : Nat) : s.extract a (a + n) = bs ((restB s a).take n) := by
  apply ByteArray.ext
  rw [ByteArray.data_extract]
  apply Array.ext'
  rw [Array.toList_extract]
  unfold restB bs
  simp only [List.extract_eq_take_drop]
  rw [show a + n - a = n by omega]
theorem extract_span (s : ByteArray) (a : Nat) (p : UInt8 → Bool) : s.extract a (a + spanN p (restB s a)) = bs ((restB s a).takeWhile p) := by
  rw [extract_bs, take_span]
theorem rest_span (s : ByteArray) (a : Nat) (p : UInt8 → Bool) : restB s (a + spanN p (restB s a)) = (restB s a).dropWhile p := by
  rw [restB_add, drop_span]
theorem fin_list (s : ByteArray) (a : Nat) (kind : Int) (w : List UInt8) (line : Int) : finD s a kind (bs w) line = finL (restB s a) kind w line := by
  unfold finD finL badA
  rw [show decide (((bs w).size : Int) > 120) = decide (w.length > 120) by rw [bs_size, decide_eq_decide]; omega]
  by_cases h : a < s.size
  · rw [restB_cons h, decide_eq_true h, Bool.true_and]; rfl
  · rw [restB_end (by omega), decide_eq_false h, Bool.false_and]; rfl
theorem quo_list (s : ByteArray) (a : Nat) (ha : a < s.size) (line : Int) : (quoD s a line).1 = (quoL (restB s (a + 1)) line).1 ∧ restB s (quoD s a line).2 = (quoL (restB s (a + 1)) line).2 ∧ (quoD s a line).2 ≤ s.size ∧ a < (quoD s a line).2 := by
  have hj := span_in s (a + 1) quU (by omega)
  have hr := rest_span s (a + 1) quU
  unfold quoD quoL
  rw [← hr]
  show _ ∧ _ ∧ _ ∧ _
  by_cases h : s.size ≤ quJ s a
  · have h' : s.size ≤ a + 1 + spanN quU (restB s (a + 1)) := h
    rw [decide_eq_true h, restB_end h']
    refine ⟨rfl, restB_end h, ?_, ?_⟩
    · exact hj
    · show a < quJ s a; unfold quJ; omega
  · rw [decide_eq_false h]
    have h' : a + 1 + spanN quU (restB s (a + 1)) < s.size := by unfold quJ at h; omega
    rw [restB_cons h']
    show _
    simp only [cond_false]
    have e : bAt s (quJ s a) = bAt s (a + 1 + spanN quU (restB s (a + 1))) := rfl
    rw [e]
    cases h34 : ((bAt s (a + 1 + spanN quU (restB s (a + 1)))).toNat : Int) == 34
    · simp only [cond_false]
      refine ⟨by first | rfl | trivial, ?_, ?_, ?_⟩
      · exact restB_cons h'
      · exact hj
      · show a < quJ s a; unfold quJ; omega
    · simp only [cond_true]
      refine ⟨?_, by first | rfl | trivial, ?_, ?_⟩
      · have := extract_span s (a + 1) quU
        show finD s (quJ s a + 1) 34 (s.extract (a + 1) (quJ s a)) line = _
        unfold quJ
        rw [this, fin_list]
      · show quJ s a + 1 ≤ s.size; unfold quJ; omega
      · show a < quJ s a + 1; unfold quJ; omega
theorem lx_list (s : ByteArray) : ∀ (n a : Nat) (line : Int), s.size - a < n → a ≤ s.size → lxL n (restB s a) line = ((lxF n s a line).1, restB s (lxF n s a line).2.1, (lxF n s a line).2.2) ∧
    (lxF n s a line).2.1 ≤ s.size ∧ a ≤ (lxF n s a line).2.1 ∧ ((lxF n s a line).1.err = 0 → (lxF n s a line).1.kind ≠ 0 → a < (lxF n s a line).2.1) ∧ line ≤ (lxF n s a line).2.2 ∧ (lxF n s a line).2.2 + a ≤ line + (lxF n s a line).2.1 := by
  intro n
  induction n with
  | zero => intro a line h; omega
  | succ n ih =>
    intro a line h ha
    by_cases hlt : a < s.size
    · have e5 : decide (s.size ≤ a) = false := by rw [decide_eq_false_iff_not]; omega
      rw [lxF, e5, restB_cons hlt, lxL, ← restB_cons hlt]
      simp only [cond_false]
      have step : ∀ (a' : Nat) (line' : Int), a < a' → a' ≤ s.size → line ≤ line' → line' + a ≤ line + a' → lxL n (restB s a') line' = ((lxF n s a' line').1, restB s (lxF n s a' line').2.1, (lxF n s a' line').2.2) ∧
          (lxF n s a' line').2.1 ≤ s.size ∧ a ≤ (lxF n s a' line').2.1 ∧ ((lxF n s a' line').1.err = 0 → (lxF n s a' line').1.kind ≠ 0 → a < (lxF n s a' line').2.1) ∧ line ≤ (lxF n s a' line').2.2 ∧ (lxF n s a' line').2.2 + a ≤ line + (lxF n s a' line').2.1 := fun a' line' k1 k2 k3 k4 => by
        obtain ⟨q1, q2, q3, q4, q5, q6⟩ := ih a' line' (by omega) k2
        exact ⟨q1, q2, by omega, fun _ _ => by omega, by omega, by omega⟩
      cases c35 : ((bAt s a).toNat : Int) == 35
      · cases c10 : ((bAt s a).toNat : Int) == 10
        · cases c32 : ((bAt s a).toNat : Int) == 32
          · cases c9 : ((bAt s a).toNat : Int) == 9
            · cases c123 : ((bAt s a).toNat : Int) == 123
              · cases c125 : ((bAt s a).toNat : Int) == 125
                · cases c59 : ((bAt s a).toNat : Int) == 59
                  · cases c34 : ((bAt s a).toNat : Int) == 34
                    · cases hp : plU (bAt s a)
                      · simp only [cond_false]
                        exact ⟨by first | rfl | trivial, ha, Nat.le_refl _, fun h => by simp [errR] at h, Int.le_refl _, by omega⟩
                      · simp only [cond_false, cond_true]
                        have hj := span_in s a plU ha
                        have hpos : 0 < spanN plU (restB s a) := by rw [restB_cons hlt, spanN_cons, if_pos hp]; omega
                        refine ⟨?_, hj, ?_, fun _ _ => ?_, Int.le_refl _, ?_⟩
                        · have e1 : finD s (wrdJ s a) 119 (s.extract a (wrdJ s a)) line = finL ((restB s a).dropWhile plU) 119 ((restB s a).takeWhile plU) line := by
                            unfold wrdJ
                            rw [extract_span, fin_list, rest_span]
                          rw [e1]
                          have e2 : restB s (wrdJ s a) = (restB s a).dropWhile plU := rest_span s a plU
                          rw [e2]
                        · show a ≤ wrdJ s a; unfold wrdJ; omega
                        · show a < wrdJ s a; unfold wrdJ; omega
                        · show line + a ≤ line + (wrdJ s a : Nat); unfold wrdJ; omega
                    · simp only [cond_false, cond_true]
                      obtain ⟨q1, q2, q3, q4⟩ := quo_list s a hlt line
                      refine ⟨by rw [q1, q2], q3, by omega, fun _ _ => q4, Int.le_refl _, by omega⟩
                  · simp only [cond_false, cond_true]
                    exact ⟨by first | rfl | trivial, by omega, by omega, fun _ _ => by omega, Int.le_refl _, by omega⟩
                · simp only [cond_false, cond_true]
                  exact ⟨by first | rfl | trivial, by omega, by omega, fun _ _ => by omega, Int.le_refl _, by omega⟩
              · simp only [cond_false, cond_true]
                exact ⟨by first | rfl | trivial, by omega, by omega, fun _ _ => by omega, Int.le_refl _, by omega⟩
            · simp only [cond_false, cond_true]
              exact step (a + 1) line (by omega) (by omega) (Int.le_refl _) (by omega)
          · simp only [cond_false, cond_true]
            exact step (a + 1) line (by omega) (by omega) (Int.le_refl _) (by omega)
        · simp only [cond_false, cond_true]
          exact step (a + 1) (line + 1) (by omega) (by omega) (by omega) (by omega)
      · simp only [cond_true]
        have hp := com_pos hlt c35
        have hi := span_in s a comU ha
        rw [← rest_span]
        exact step (a + spanN comU (restB s a)) line (by omega) hi (Int.le_refl _) (by omega)
    · have e5 : decide (s.size ≤ a) = true := by rw [decide_eq_true_eq]; omega
      rw [lxF, e5, restB_end (by omega), lxL]
      refine ⟨?_, ha, Nat.le_refl _, fun _ h => absurd rfl h, Int.le_refl _, by simp⟩
      show _ = (_, restB s a, _)
      rw [restB_end (by omega)]; rfl
theorem lxL_fuel : ∀ (n m : Nat) (L : List UInt8) (line : Int), L.length < n → L.length < m → lxL n L line = lxL m L line := by
  intro n
  induction n with
  | zero => intro m L line h; omega
  | succ n ih =>
    intro m L line h1 h2
    cases m with
    | zero => omega
    | succ m =>
      cases L with
      | nil => rfl
      | cons b r =>
        simp only [List.length_cons] at h1 h2
        rw [lxL, lxL]
        have hd : ((b :: r).dropWhile comU).length ≤ r.length ∨ ((b.toNat : Int) == 35) = false := by
          cases h : ((b.toNat : Int) == 35)
          · exact .inr rfl
          · left
            have hc : comU b = true := by unfold comU; rw [beq_iff_eq] at h; rw [h]; rfl
            rw [List.dropWhile_cons, if_pos hc]
            have := List.takeWhile_append_dropWhile (p := comU) (l := r)
            have := congrArg List.length this
            rw [List.length_append] at this
            omega
        rw [ih m r line (by omega) (by omega), ih m r (line + 1) (by omega) (by omega)]
        rcases hd with hd | hd
        · rw [ih m _ line (by omega) (by omega)]
        · rw [hd]; rfl
/-- The next token of a list of bytes. -/
def lx1 (L : List UInt8) (line : Int) : LR × List UInt8 × Int := lxL (L.length + 1) L line
theorem lxD_list (s : ByteArray) (a : Nat) (line : Int) (ha : a ≤ s.size) : lx1 (restB s a) line = ((lxD s a line).1, restB s (lxD s a line).2.1, (lxD s a line).2.2) ∧
    (lxD s a line).2.1 ≤ s.size ∧ a ≤ (lxD s a line).2.1 ∧ ((lxD s a line).1.err = 0 → (lxD s a line).1.kind ≠ 0 → a < (lxD s a line).2.1) ∧ line ≤ (lxD s a line).2.2 ∧ (lxD s a line).2.2 + a ≤ line + (lxD s a line).2.1 := by
  have := lx_list s (s.size + 1) a line (by omega) ha
  rw [lxL_fuel (s.size + 1) ((restB s a).length + 1) _ _ (by rw [restB_len]; omega) (by omega)] at this
  exact this
end Go.Proofs.Ytchgegcndcdleaa
