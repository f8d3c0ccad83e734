/- Parsing lists of bytes: laws. -/
import Derived.Test.YtchgegcndcdleaaY30
set_option linter.unusedVariables false
set_option linter.unusedSimpArgs false
set_option linter.unusedSectionVars false
namespace Go.Proofs.Ytchgegcndcdleaa
open Go Go.Sx
theorem dropWhile_le (p : UInt8 → Bool) (l : List UInt8) : (l.dropWhile p).length ≤ l.length := by
  have := congrArg List.length (List.takeWhile_append_dropWhile (p := p) (l := l))
  rw [List.length_append] at this
  omega
theorem lx_less : ∀ (n : Nat) (L : List UInt8) (line : Int), (lxL n L line).1.err = 0 → (lxL n L line).1.kind ≠ 0 → (lxL n L line).2.1.length < L.length := by
  intro n
  induction n with
  | zero => intro L line h; simp [lxL, errR] at h
  | succ n ih =>
    intro L line h hk
    cases L with
    | nil => exact absurd rfl hk
    | cons b r =>
      rw [lxL] at h hk ⊢
      have d1 := dropWhile_le comU r
      have d2 := dropWhile_le plU r
      have d3 := dropWhile_le quU r
      simp only [List.length_cons]
      cases c35 : (b.toNat : Int) == 35
      · rw [c35] at h hk
        cases c10 : (b.toNat : Int) == 10
        · rw [c10] at h hk
          cases c32 : (b.toNat : Int) == 32
          · rw [c32] at h hk
            cases c9 : (b.toNat : Int) == 9
            · rw [c9] at h hk
              cases c123 : (b.toNat : Int) == 123
              · rw [c123] at h hk
                cases c125 : (b.toNat : Int) == 125
                · rw [c125] at h hk
                  cases c59 : (b.toNat : Int) == 59
                  · rw [c59] at h hk
                    cases c34 : (b.toNat : Int) == 34
                    · rw [c34] at h hk
                      cases hp : plU b
                      · rw [hp] at h; simp [errR] at h
                      · simp only [cond_false, cond_true]
                        rw [List.dropWhile_cons, if_pos hp]
                        omega
                    · rw [c34] at h hk
                      simp only [cond_false, cond_true] at h ⊢
                      unfold quoL at h ⊢
                      split at h
                      · simp [errR] at h
                      · rename_i c r' hd
                        cases h34 : (c.toNat : Int) == 34
                        · rw [h34] at h; simp [errR] at h
                        · rw [hd] at d3
                          simp only [List.length_cons] at d3
                          simp only [cond_true]
                          omega
                  · simp only [cond_false, cond_true]; omega
                · simp only [cond_false, cond_true]; omega
              · simp only [cond_false, cond_true]; omega
            · rw [c9] at h hk
              have := ih r line h hk
              simp only [cond_false, cond_true]; omega
          · rw [c32] at h hk
            have := ih r line h hk
            simp only [cond_false, cond_true]; omega
        · rw [c10] at h hk
          have := ih r (line + 1) h hk
          simp only [cond_false, cond_true]; omega
      · rw [c35] at h hk
        have hc : comU b = true := by unfold comU; rw [beq_iff_eq] at c35; rw [c35]; rfl
        rw [List.dropWhile_cons, if_pos hc] at h hk ⊢
        have := ih _ line h hk
        simp only [cond_true]; omega
/-! ### The parser as a function of the next token -/
def parS : Nat → List UInt8 → Int → PI → Except (Int × Int) PI
  | 0, _, _, _ => .error (0, 5)
  | n + 1, L, line, p =>
    bif !((lx1 L line).1.err == 0) then .error ((lx1 L line).1.el, (lx1 L line).1.err)
    else bif (lx1 L line).1.kind == 0 then bif p.begun then .error ((lx1 L line).1.tl, 6) else bif p.outer.length == 0 then .ok p else .error ((lx1 L line).1.tl, 6)
    else match stepI p (lx1 L line).1 with
      | .error e => .error ((lx1 L line).1.tl, e)
      | .ok p' => parS n (lx1 L line).2.1 (lx1 L line).2.2 p'
theorem lx1_less {L : List UInt8} {line : Int} (h : (lx1 L line).1.err = 0) (hk : (lx1 L line).1.kind ≠ 0) : (lx1 L line).2.1.length < L.length := lx_less _ L line h hk
theorem parS_fuel : ∀ (n m : Nat) (L : List UInt8) (line : Int) (p : PI), L.length < n → L.length < m → parS n L line p = parS m L line p := by
  intro n
  induction n with
  | zero => intro m L line p h; omega
  | succ n ih =>
    intro m L line p h1 h2
    cases m with
    | zero => omega
    | succ m =>
      rw [parS, parS]
      cases he : (lx1 L line).1.err == 0
      · rfl
      · cases hk : (lx1 L line).1.kind == 0
        · simp only [Bool.not_true, cond_false]
          cases stepI p (lx1 L line).1 with
          | error e => rfl
          | ok p' =>
            have := lx1_less (L := L) (line := line) (by simpa using he) (by simpa using hk)
            exact ih m _ _ p' (by omega) (by omega)
        · rfl
def par (L : List UInt8) (line : Int) (p : PI) : Except (Int × Int) PI := parS (L.length + 1) L line p
def parX (x : LR × List UInt8 × Int) (p : PI) : Except (Int × Int) PI :=
  bif !(x.1.err == 0) then .error (x.1.el, x.1.err)
  else bif x.1.kind == 0 then bif p.begun then .error (x.1.tl, 6) else bif p.outer.length == 0 then .ok p else .error (x.1.tl, 6)
  else match stepI p x.1 with
    | .error e => .error (x.1.tl, e)
    | .ok p' => par x.2.1 x.2.2 p'
theorem par_eq (L : List UInt8) (line : Int) (p : PI) : par L line p = parX (lx1 L line) p := by
  unfold par parX
  rw [parS]
  cases he : (lx1 L line).1.err == 0
  · rfl
  · cases hk : (lx1 L line).1.kind == 0
    · simp only [Bool.not_true, cond_false]
      cases stepI p (lx1 L line).1 with
      | error e => rfl
      | ok p' =>
        have := lx1_less (L := L) (line := line) (by simpa using he) (by simpa using hk)
        exact parS_fuel _ _ _ _ p' (by omega) (by omega)
    · rfl
theorem stepI_err {p : PI} {x : LR} {e : Int} (h : stepI p x = .error e) : e ≠ 0 := by
  unfold stepI at h
  intro h0
  subst h0
  cases c59 : x.kind == 59 <;> rw [c59] at h
  · cases c123 : x.kind == 123 <;> rw [c123] at h
    · cases c125 : x.kind == 125 <;> rw [c125] at h
      · cases hb : p.begun <;> rw [hb] at h
        · cases ho : opB x.text (x.kind == 34) <;> rw [ho] at h
          · cases h
          · cases hc : p.count == 600 <;> rw [hc] at h <;> cases h
        · cases hc : p.words.length == 40 <;> rw [hc] at h <;> cases h
      · cases hb : p.begun <;> rw [hb] at h
        · cases hc : p.outer.length == 0 <;> rw [hc] at h <;> cases h
        · cases h
    · cases hb : p.begun <;> rw [hb] at h
      · cases h
      · cases hc : p.outer.length == 4 <;> rw [hc] at h <;> cases h
  · cases hb : p.begun <;> rw [hb] at h <;> cases h
/-- What parL answers, and the last state. -/
theorem parL_S : ∀ (n : Nat) (L : List UInt8) (line : Int) (p : PI), L.length < n → (∃ e, parL n L line p = .error e ∧ parS n L line p = .error e ∧ e.2 ≠ 0) ∨ ∃ q, parL n L line p = .ok q.done ∧ parS n L line p = .ok q ∧ q.begun = false ∧ q.outer = [] := by
  intro n
  induction n with
  | zero => intro L line p h; omega
  | succ n ih =>
    intro L line p h
    rw [parL, parS]
    cases he : (lx1 L line).1.err == 0
    · exact .inl ⟨_, rfl, rfl, by simpa using he⟩
    · cases hk : (lx1 L line).1.kind == 0
      · simp only [Bool.not_true, cond_false]
        cases hst : stepI p (lx1 L line).1 with
        | error e => exact .inl ⟨_, rfl, rfl, stepI_err hst⟩
        | ok p' =>
          have := lx1_less (L := L) (line := line) (by simpa using he) (by simpa using hk)
          exact ih _ _ p' (by omega)
      · simp only [Bool.not_true, cond_false, cond_true]
        cases hb : p.begun
        · cases ho : p.outer.length == 0
          · exact .inl ⟨_, rfl, rfl, (show (6 : Int) ≠ 0 by decide)⟩
          · exact .inr ⟨p, rfl, rfl, hb, List.eq_nil_of_length_eq_zero (by simpa using ho)⟩
        · exact .inl ⟨_, rfl, rfl, (show (6 : Int) ≠ 0 by decide)⟩
/-- A text is parsed. -/
theorem parse_par (s : ByteArray) : (∃ e, parseI s = .error e ∧ e.2 ≠ 0) ∨ (s.size ≤ 12000 ∧ ∃ q, parseI s = .ok q.done ∧ par s.data.toList 1 p0 = .ok q ∧ q.begun = false ∧ q.outer = []) := by
  unfold parseI
  by_cases hs : (s.size : Int) > 12000
  · rw [decide_eq_true hs]
    exact .inl ⟨_, rfl, (show (4 : Int) ≠ 0 by decide)⟩
  · rw [decide_eq_false hs]
    have hl : (restB s 0).length = s.size := restB_len s 0
    have e : restB s 0 = s.data.toList := by unfold restB; exact List.drop_zero
    rcases parL_S (s.size + 1) (restB s 0) 1 p0 (by omega) with ⟨e, h1, _, h3⟩ | ⟨q, h1, h2, h3, h4⟩
    · exact .inl ⟨e, h1, h3⟩
    · refine .inr ⟨by omega, q, h1, ?_, h3, h4⟩
      unfold par
      rw [← e, hl]
      exact h2
theorem par_parse {s : ByteArray} (hs : s.size ≤ 12000) {q : PI} (h : par s.data.toList 1 p0 = .ok q) : parseI s = .ok q.done := by
  rcases parse_par s with ⟨e, h1, h2⟩ | ⟨_, q', h1, h2, _⟩
  · exfalso
    unfold parseI at h1
    rw [decide_eq_false (by omega)] at h1
    have hl : (restB s 0).length = s.size := restB_len s 0
    have e0 : restB s 0 = s.data.toList := by unfold restB; exact List.drop_zero
    rcases parL_S (s.size + 1) (restB s 0) 1 p0 (by omega) with ⟨e', h3, h4, _⟩ | ⟨q', h3, h4, _, _⟩
    · unfold par at h
      rw [← e0, hl, h4] at h
      cases h
    · have h1 : parL (s.size + 1) (restB s 0) 1 p0 = .error e := h1
      rw [h3] at h1; cases h1
  · rw [h] at h2
    injection h2 with h2; subst h2
    exact h1
/-! ### Counts grow -/
theorem stepI_cnt {p p' : PI} {x : LR} (h : stepI p x = .ok p') : p.count ≤ p'.count := by
  unfold stepI at h
  cases c59 : x.kind == 59 <;> rw [c59] at h
  · cases c123 : x.kind == 123 <;> rw [c123] at h
    · cases c125 : x.kind == 125 <;> rw [c125] at h
      · cases hb : p.begun <;> rw [hb] at h
        · cases ho : opB x.text (x.kind == 34) <;> rw [ho] at h
          · cases h
          · cases hc : p.count == 600 <;> rw [hc] at h
            · injection h with h; subst h
              show p.count ≤ p.count + 1
              omega
            · cases h
        · cases hc : p.words.length == 40 <;> rw [hc] at h
          · injection h with h; subst h; exact Int.le_refl _
          · cases h
      · cases hb : p.begun <;> rw [hb] at h
        · cases hc : p.outer.length == 0 <;> rw [hc] at h
          · injection h with h; subst h; exact Int.le_refl _
          · cases h
        · cases h
    · cases hb : p.begun <;> rw [hb] at h
      · cases h
      · cases hc : p.outer.length == 4 <;> rw [hc] at h
        · injection h with h; subst h; exact Int.le_refl _
        · cases h
  · cases hb : p.begun <;> rw [hb] at h
    · cases h
    · injection h with h; subst h; exact Int.le_refl _
/-- An induction over what is parsed. -/
theorem par_induct {motive : List UInt8 → Int → PI → Prop} (step : ∀ L line p, (∀ p', stepI p (lx1 L line).1 = .ok p' → (lx1 L line).1.err = 0 → (lx1 L line).1.kind ≠ 0 → motive (lx1 L line).2.1 (lx1 L line).2.2 p') → motive L line p) : ∀ (n : Nat) (L : List UInt8) (line : Int) (p : PI), L.length < n → motive L line p := by
  intro n
  induction n with
  | zero => intro L line p h; omega
  | succ n ih =>
    intro L line p h
    refine step L line p fun p' _ he hk => ?_
    have := lx1_less (L := L) (line := line) he hk
    exact ih _ _ p' (by omega)
theorem par_cnt : ∀ (L : List UInt8) (line : Int) (p q : PI), par L line p = .ok q → p.count ≤ q.count := fun L line p => by
  refine par_induct (motive := fun L line p => ∀ q, par L line p = .ok q → p.count ≤ q.count) (fun L line p ih q h => ?_) (L.length + 1) L line p (by omega)
  rw [par_eq, parX] at h
  cases he : (lx1 L line).1.err == 0 <;> rw [he] at h
  · cases h
  · cases hk : (lx1 L line).1.kind == 0 <;> rw [hk] at h
    · simp only [Bool.not_true, cond_false] at h
      cases hst : stepI p (lx1 L line).1 with
      | error e => rw [hst] at h; cases h
      | ok p' =>
        rw [hst] at h
        have := ih p' hst (by simpa using he) (by simpa using hk) q h
        have := stepI_cnt hst
        omega
    · simp only [Bool.not_true, cond_false, cond_true] at h
      cases hb : p.begun <;> rw [hb] at h
      · cases ho : p.outer.length == 0 <;> rw [ho] at h
        · cases h
        · injection h with h; subst h; exact Int.le_refl _
      · cases h
end Go.Proofs.Ytchgegcndcdleaa
