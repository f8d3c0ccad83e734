/- The law SyntaxConcatenates: in plain words. -/
import Derived.Test.YtchgegcndcdleaaY31
set_option linter.unusedVariables false
set_option linter.unusedSimpArgs false
set_option linter.unusedSectionVars false
namespace Go.Proofs.Ytchgegcndcdleaa
open Go Go.Sx
/-! ### A text and a line feed before another one -/
theorem tw_cat {p : UInt8 → Bool} (h10 : p 10 = false) (M : List UInt8) : ∀ L : List UInt8, (L ++ 10 :: M).takeWhile p = L.takeWhile p ∧ (L ++ 10 :: M).dropWhile p = L.dropWhile p ++ 10 :: M
  | [] => by simp [List.takeWhile_cons, List.dropWhile_cons, h10]
  | b :: L => by
    have ih := tw_cat h10 M L
    rw [List.cons_append, List.takeWhile_cons, List.takeWhile_cons, List.dropWhile_cons, List.dropWhile_cons]
    cases p b
    · exact ⟨rfl, rfl⟩
    · simp only [if_true, ih.1, ih.2]
      exact ⟨trivial, trivial⟩
theorem hd_cat (r M : List UInt8) (kind : Int) : hdBad (r ++ 10 :: M) kind = hdBad r kind := by
  cases r with
  | nil =>
    show ((((10 : UInt8).toNat : Int) == 34) || (kind == 34 && plU 10)) = false
    rw [show plU 10 = false by decide]
    simp
  | cons => rfl
theorem lx_nl (m : Nat) (M : List UInt8) (line : Int) : lxL (m + 1) (10 :: M) line = lxL m M (line + 1) := by rw [lxL]; rfl
theorem lx_cat (M : List UInt8) : ∀ (n m : Nat) (L : List UInt8) (line : Int), L.length < n → (L ++ 10 :: M).length < m → (lxL n L line).1.err = 0 →
    ((lxL n L line).1.kind ≠ 0 → lxL m (L ++ 10 :: M) line = ((lxL n L line).1, (lxL n L line).2.1 ++ 10 :: M, (lxL n L line).2.2)) ∧ ((lxL n L line).1.kind = 0 → lxL m (L ++ 10 :: M) line = lx1 M ((lxL n L line).2.2 + 1)) := by
  intro n
  induction n with
  | zero => intro m L line h; omega
  | succ n ih =>
    intro m L line h1 h2 h
    cases m with
    | zero => omega
    | succ m =>
      cases L with
      | nil =>
        refine ⟨fun hk => absurd rfl hk, fun _ => ?_⟩
        simp only [List.nil_append, List.length_cons] at h2 ⊢
        rw [lx_nl]
        exact lxL_fuel _ _ _ _ (by omega) (by omega)
      | cons b r =>
        simp only [List.cons_append, List.length_cons] at h1 h2
        rw [List.cons_append, lxL]
        rw [lxL] at h ⊢
        have tcom := (tw_cat (show comU 10 = false by decide) M (b :: r)).2
        have tpl := tw_cat (show plU 10 = false by decide) M (b :: r)
        have tqu := tw_cat (show quU 10 = false by decide) M r
        rw [List.cons_append] at tcom tpl
        cases c35 : (b.toNat : Int) == 35
        · rw [c35] at h
          cases c10 : (b.toNat : Int) == 10
          · rw [c10] at h
            cases c32 : (b.toNat : Int) == 32
            · rw [c32] at h
              cases c9 : (b.toNat : Int) == 9
              · rw [c9] at h
                cases c123 : (b.toNat : Int) == 123
                · rw [c123] at h
                  cases c125 : (b.toNat : Int) == 125
                  · rw [c125] at h
                    cases c59 : (b.toNat : Int) == 59
                    · rw [c59] at h
                      cases c34 : (b.toNat : Int) == 34
                      · rw [c34] at h
                        cases hp : plU b
                        · rw [hp] at h; simp [errR] at h
                        · rw [hp] at h
                          simp only [cond_false, cond_true] at h ⊢
                          rw [tpl.1, tpl.2]
                          obtain ⟨h3, _⟩ := finL_ok h
                          have h4 : finL ((b :: r).dropWhile plU ++ 10 :: M) 119 ((b :: r).takeWhile plU) line = finL ((b :: r).dropWhile plU) 119 ((b :: r).takeWhile plU) line := by
                            unfold finL; rw [hd_cat]
                          rw [h4]
                          refine ⟨fun _ => by first | rfl | trivial, fun hk => ?_⟩
                          rw [h3] at hk
                          exact absurd hk (show (119 : Int) ≠ 0 by decide)
                      · rw [c34] at h
                        simp only [cond_false, cond_true] at h ⊢
                        unfold quoL at h ⊢
                        rw [tqu.1, tqu.2]
                        cases hd : r.dropWhile quU with
                        | nil => rw [hd] at h; simp [errR] at h
                        | cons c r' =>
                          rw [hd] at h
                          simp only [List.cons_append] at h ⊢
                          cases h34 : (c.toNat : Int) == 34
                          · rw [h34] at h; simp [errR] at h
                          · rw [h34] at h
                            simp only [cond_true] at h ⊢
                            obtain ⟨h3, _⟩ := finL_ok h
                            have h4 : finL (r' ++ 10 :: M) 34 (r.takeWhile quU) line = finL r' 34 (r.takeWhile quU) line := by unfold finL; rw [hd_cat]
                            rw [h4]
                            refine ⟨fun _ => by first | rfl | trivial, fun hk => ?_⟩
                            rw [h3] at hk
                            exact absurd hk (show (34 : Int) ≠ 0 by decide)
                    · simp only [cond_false, cond_true]
                      refine ⟨fun _ => by first | rfl | trivial, fun hk => ?_⟩
                      rw [hk] at c59; exact absurd c59 (by decide)
                  · simp only [cond_false, cond_true]
                    refine ⟨fun _ => by first | rfl | trivial, fun hk => ?_⟩
                    rw [hk] at c125; exact absurd c125 (by decide)
                · simp only [cond_false, cond_true]
                  refine ⟨fun _ => by first | rfl | trivial, fun hk => ?_⟩
                  rw [hk] at c123; exact absurd c123 (by decide)
              · rw [c9] at h
                exact ih m r line (by omega) (by omega) h
            · rw [c32] at h
              exact ih m r line (by omega) (by omega) h
          · rw [c10] at h
            exact ih m r (line + 1) (by omega) (by omega) h
        · rw [c35] at h
          have hc : comU b = true := by unfold comU; rw [beq_iff_eq] at c35; rw [c35]; rfl
          have hle : ((b :: r).dropWhile comU).length ≤ r.length := by
            rw [List.dropWhile_cons, if_pos hc]; exact dropWhile_le comU r
          simp only [cond_true]
          rw [tcom]
          exact ih m _ line (by omega) (by rw [List.length_append, List.length_cons] at *; omega) h
theorem par_cat (M : List UInt8) (L : List UInt8) (line : Int) (p : PI) : ∀ q, par L line p = .ok q → ∃ k, par (L ++ 10 :: M) line p = par M k q := by
  refine par_induct (motive := fun L line p => ∀ q, par L line p = .ok q → ∃ k, par (L ++ 10 :: M) line p = par M k q) (fun L line p ih q h => ?_) (L.length + 1) L line p (by omega)
  rw [par_eq, parX] at h
  rw [par_eq]
  cases he : (lx1 L line).1.err == 0 <;> rw [he] at h
  · cases h
  · have hc := lx_cat M (L.length + 1) ((L ++ 10 :: M).length + 1) L line (by omega) (by omega) (show (lx1 L line).1.err = 0 by simpa using he)
    cases hk : (lx1 L line).1.kind == 0 <;> rw [hk] at h
    · simp only [Bool.not_true, cond_false] at h
      have e : lx1 (L ++ 10 :: M) line = ((lx1 L line).1, (lx1 L line).2.1 ++ 10 :: M, (lx1 L line).2.2) := hc.1 (show (lx1 L line).1.kind ≠ 0 by simpa using hk)
      rw [e, parX]
      simp only [he, hk, Bool.not_true, cond_false]
      cases hst : stepI p (lx1 L line).1 with
      | error e => rw [hst] at h; cases h
      | ok p' =>
        rw [hst] at h
        exact ih p' hst (by simpa using he) (by simpa using hk) q h
    · simp only [Bool.not_true, cond_false, cond_true] at h
      cases hb : p.begun <;> rw [hb] at h
      · cases ho : p.outer.length == 0 <;> rw [ho] at h
        · cases h
        · injection h with h; subst h
          have e : lx1 (L ++ 10 :: M) line = lx1 M ((lx1 L line).2.2 + 1) := hc.2 (show (lx1 L line).1.kind = 0 by simpa using hk)
          exact ⟨(lx1 L line).2.2 + 1, by rw [e, par_eq]⟩
      · cases h
/-! ### Lines do not matter -/
mutual
def stI : It → It
  | .mk _ ws bk kids => .mk 0 ws bk (stL kids)
def stL : List It → List It
  | [] => []
  | a :: l => stI a :: stL l
end
theorem stL_app : ∀ a b : List It, stL (a ++ b) = stL a ++ stL b
  | [], b => rfl
  | x :: a, b => by simp only [List.cons_append, stL, stL_app a b]
def stLv (l : LvI) : LvI := ⟨0, l.words, stL l.bef⟩
def stP (p : PI) : PI := ⟨stL p.done, 0, bif p.begun then p.words else [], p.begun, p.count, p.outer.map stLv⟩
theorem eqWd_self (w : Wd) : eqWd w w = true := by simp [eqWd, strEq]
theorem eqWs_rfl : ∀ l : List Wd, eqWs l l = true
  | [] => rfl
  | a :: l => by rw [eqWs, eqWd_self, eqWs_rfl l]; rfl
mutual
theorem sameI_st : ∀ x y : It, stI x = stI y → sameI x y = true
  | .mk l ws bk kids, .mk l' ws' bk' kids', h => by
    simp only [stI, It.mk.injEq, true_and] at h
    obtain ⟨rfl, rfl, h3⟩ := h
    rw [sameI, sameL_st kids kids' h3, eqWs_rfl]
    simp
theorem sameL_st : ∀ x y : List It, stL x = stL y → sameL x y = true
  | [], [], _ => rfl
  | a :: l, b :: m, h => by
    simp only [stL, List.cons.injEq] at h
    rw [sameL, sameI_st a b h.1, sameL_st l m h.2]; rfl
  | [], _ :: _, h => by simp [stL] at h
  | _ :: _, [], h => by simp [stL] at h
end
theorem lx_free : ∀ (n : Nat) (L : List UInt8) (l1 l2 : Int), (lxL n L l1).1.kind = (lxL n L l2).1.kind ∧ (lxL n L l1).1.text = (lxL n L l2).1.text ∧ (lxL n L l1).1.err = (lxL n L l2).1.err ∧ (lxL n L l1).2.1 = (lxL n L l2).2.1 := by
  have fin : ∀ r kind w l1 l2, (finL r kind w l1).kind = (finL r kind w l2).kind ∧ (finL r kind w l1).text = (finL r kind w l2).text ∧ (finL r kind w l1).err = (finL r kind w l2).err := fun r kind w l1 l2 => by
    unfold finL
    cases decide (w.length > 120)
    · cases hdBad r kind <;> exact ⟨rfl, rfl, rfl⟩
    · exact ⟨rfl, rfl, rfl⟩
  intro n
  induction n with
  | zero => intro L l1 l2; exact ⟨rfl, rfl, rfl, rfl⟩
  | succ n ih =>
    intro L l1 l2
    cases L with
    | nil => exact ⟨rfl, rfl, rfl, rfl⟩
    | cons b r =>
      rw [lxL, lxL]
      cases (b.toNat : Int) == 35
      · cases (b.toNat : Int) == 10
        · cases (b.toNat : Int) == 32
          · cases (b.toNat : Int) == 9
            · cases (b.toNat : Int) == 123
              · cases (b.toNat : Int) == 125
                · cases (b.toNat : Int) == 59
                  · cases (b.toNat : Int) == 34
                    · cases plU b
                      · exact ⟨rfl, rfl, rfl, rfl⟩
                      · have := fin ((b :: r).dropWhile plU) 119 ((b :: r).takeWhile plU) l1 l2
                        exact ⟨this.1, this.2.1, this.2.2, rfl⟩
                    · simp only [cond_false, cond_true]
                      unfold quoL
                      split
                      · exact ⟨rfl, rfl, rfl, rfl⟩
                      · rename_i c r' _
                        cases (c.toNat : Int) == 34
                        · exact ⟨rfl, rfl, rfl, rfl⟩
                        · have := fin r' 34 (r.takeWhile quU) l1 l2
                          exact ⟨this.1, this.2.1, this.2.2, rfl⟩
                  · exact ⟨rfl, rfl, rfl, rfl⟩
                · exact ⟨rfl, rfl, rfl, rfl⟩
              · exact ⟨rfl, rfl, rfl, rfl⟩
            · exact ih r l1 l2
          · exact ih r l1 l2
        · exact ih r (l1 + 1) (l2 + 1)
      · exact ih _ l1 l2
theorem map_last {o o2 : List LvI} (h : o.map stLv = o2.map stLv) : stLv (lastI o) = stLv (lastI o2) ∧ (initI o).map stLv = (initI o2).map stLv := by
  have hl : o.length = o2.length := by
    have := congrArg List.length h
    simpa using this
  by_cases h0 : o = []
  · subst h0
    have : o2 = [] := List.eq_nil_of_length_eq_zero hl.symm
    subst this
    exact ⟨rfl, rfl⟩
  · have h1 : o2 ≠ [] := by
      rintro rfl
      exact h0 (List.eq_nil_of_length_eq_zero hl)
    rw [last_init o h0, last_init o2 h1, List.map_append, List.map_append] at h
    have := List.append_inj' h (by simp)
    refine ⟨?_, this.1⟩
    have := this.2
    simpa using this
theorem step_st {p q : PI} {x y : LR} (h : stP p = stP q) (hk : x.kind = y.kind) (ht : x.text = y.text) : (∃ e, stepI p x = .error e ∧ stepI q y = .error e) ∨ ∃ p' q', stepI p x = .ok p' ∧ stepI q y = .ok q' ∧ stP p' = stP q' := by
  simp only [stP, PI.mk.injEq, true_and] at h
  obtain ⟨h1, h2, h3, h4, h5⟩ := h
  have hl : p.outer.length = q.outer.length := by
    have := congrArg List.length h5
    simpa using this
  unfold stepI
  rw [← hk, ← ht, ← h3, ← h4, ← hl]
  cases c59 : x.kind == 59
  · cases c123 : x.kind == 123
    · cases c125 : x.kind == 125
      · cases hb : p.begun
        · cases opB x.text (x.kind == 34)
          · exact .inl ⟨_, rfl, rfl⟩
          · cases hc : p.count == 600
            · refine .inr ⟨_, _, rfl, rfl, ?_⟩
              simp only [stP, begI, h1, h4, h5, cond_true]
            · exact .inl ⟨_, rfl, rfl⟩
        · rw [hb, ← h3, hb] at h2
          simp only [cond_true] at h2
          rw [← h2]
          cases p.words.length == 40
          · refine .inr ⟨_, _, rfl, rfl, ?_⟩
            simp only [stP, addI, h1, h4, h5, h2, hb, ← h3]
          · exact .inl ⟨_, rfl, rfl⟩
      · cases hb : p.begun
        · cases p.outer.length == 0
          · refine .inr ⟨_, _, rfl, rfl, ?_⟩
            have hm := map_last h5
            have hm1 := hm.1
            simp only [stLv, LvI.mk.injEq, true_and] at hm1
            simp only [stP, popI, stL_app, stL, stI, hm.2, hm1.1, hm1.2, h1, h4]
          · exact .inl ⟨_, rfl, rfl⟩
        · exact .inl ⟨_, rfl, rfl⟩
    · cases hb : p.begun
      · exact .inl ⟨_, rfl, rfl⟩
      · rw [hb, ← h3, hb] at h2
        simp only [cond_true] at h2
        cases p.outer.length == 4
        · refine .inr ⟨_, _, rfl, rfl, ?_⟩
          simp only [stP, pushI, stL, List.map_append, List.map_cons, List.map_nil, stLv, h1, h2, h4, h5]
        · exact .inl ⟨_, rfl, rfl⟩
  · cases hb : p.begun
    · exact .inl ⟨_, rfl, rfl⟩
    · rw [hb, ← h3, hb] at h2
      simp only [cond_true] at h2
      refine .inr ⟨_, _, rfl, rfl, ?_⟩
      simp only [stP, semiI, stL_app, stL, stI, h1, h2, h4, h5]
theorem par_st (L : List UInt8) (line : Int) (p : PI) : ∀ (l2 : Int) (p2 q : PI), stP p = stP p2 → par L line p = .ok q → ∃ q2, par L l2 p2 = .ok q2 ∧ stP q = stP q2 := by
  refine par_induct (motive := fun L line p => ∀ (l2 : Int) (p2 q : PI), stP p = stP p2 → par L line p = .ok q → ∃ q2, par L l2 p2 = .ok q2 ∧ stP q = stP q2) (fun L line p ih l2 p2 q hp h => ?_) (L.length + 1) L line p (by omega)
  rw [par_eq, parX] at h
  rw [par_eq, parX]
  obtain ⟨f1, f2, f3, f4⟩ := lx_free (L.length + 1) L line l2
  have f1 : (lx1 L line).1.kind = (lx1 L l2).1.kind := f1
  have f2 : (lx1 L line).1.text = (lx1 L l2).1.text := f2
  have f3 : (lx1 L line).1.err = (lx1 L l2).1.err := f3
  have f4 : (lx1 L line).2.1 = (lx1 L l2).2.1 := f4
  rw [← f3, ← f1]
  cases he : (lx1 L line).1.err == 0 <;> rw [he] at h
  · cases h
  · cases hk : (lx1 L line).1.kind == 0 <;> rw [hk] at h
    · simp only [Bool.not_true, cond_false] at h ⊢
      rcases step_st hp f1 f2 with ⟨e, h1, h2⟩ | ⟨p', p2', h1, h2, h3⟩
      · rw [h1] at h; cases h
      · rw [h1] at h
        rw [h2]
        simp only at h ⊢
        rw [← f4]
        exact ih p' h1 (by simpa using he) (by simpa using hk) _ p2' q h3 h
    · simp only [Bool.not_true, cond_false, cond_true] at h ⊢
      have hp' := hp
      simp only [stP, PI.mk.injEq, true_and] at hp'
      obtain ⟨_, _, h3, _, h5⟩ := hp'
      have hl : p.outer.length = p2.outer.length := by
        have := congrArg List.length h5
        simpa using this
      rw [← h3, ← hl]
      cases hb : p.begun <;> rw [hb] at h
      · cases ho : p.outer.length == 0 <;> rw [ho] at h
        · cases h
        · injection h with h; subst h
          exact ⟨p2, rfl, hp⟩
      · cases h
/-! ### What stands before does not matter -/
def preD (l : List It) (c : Int) (p : PI) : PI := match p.outer with
  | [] => ⟨l ++ p.done, p.line, p.words, p.begun, p.count + c, []⟩
  | o :: r => ⟨p.done, p.line, p.words, p.begun, p.count + c, ⟨o.line, o.words, l ++ o.bef⟩ :: r⟩
theorem pre_nil (l : List It) (c : Int) (p : PI) (h : p.outer = []) : preD l c p = ⟨l ++ p.done, p.line, p.words, p.begun, p.count + c, []⟩ := by unfold preD; rw [h]
theorem pre_cons (l : List It) (c : Int) (p : PI) {o : LvI} {r : List LvI} (h : p.outer = o :: r) : preD l c p = ⟨p.done, p.line, p.words, p.begun, p.count + c, ⟨o.line, o.words, l ++ o.bef⟩ :: r⟩ := by unfold preD; rw [h]
theorem pre_begun (l : List It) (c : Int) (p : PI) : (preD l c p).begun = p.begun ∧ (preD l c p).words = p.words ∧ (preD l c p).count = p.count + c ∧ (preD l c p).outer.length = p.outer.length ∧ (preD l c p).line = p.line := by
  unfold preD
  cases p.outer <;> exact ⟨rfl, rfl, rfl, rfl, rfl⟩
theorem step_pre {l : List It} {c : Int} {p p' : PI} {x : LR} (h : stepI p x = .ok p') (hc : p'.count + c ≤ 600) : stepI (preD l c p) x = .ok (preD l c p') := by
  obtain ⟨g1, g2, g3, g4, g5⟩ := pre_begun l c p
  unfold stepI at h ⊢
  rw [g1, g2, g3, g4]
  cases c59 : x.kind == 59 <;> rw [c59] at h
  · cases c123 : x.kind == 123 <;> rw [c123] at h
    · cases c125 : x.kind == 125 <;> rw [c125] at h
      · cases hb : p.begun <;> rw [hb] at h
        · cases ho : opB x.text (x.kind == 34) <;> rw [ho] at h
          · cases h
          · cases h6 : p.count == 600 <;> rw [h6] at h
            · injection h with h; subst h
              have hc : p.count + 1 + c ≤ 600 := hc
              have : (p.count + c == 600) = false := by rw [beq_eq_false_iff_ne]; omega
              rw [this]
              simp only [Bool.not_true, cond_false]
              congr 1
              unfold preD begI
              cases hpo : p.outer <;> simp only [PI.mk.injEq, true_and, and_true] <;> omega
            · cases h
        · cases hw : p.words.length == 40 <;> rw [hw] at h
          · injection h with h; subst h
            simp only [cond_false, cond_true]
            congr 1
            unfold preD addI
            cases hpo : p.outer <;> simp only [hb]
          · cases h
      · cases hb : p.begun <;> rw [hb] at h
        · cases ho : p.outer.length == 0 <;> rw [ho] at h
          · injection h with h; subst h
            simp only [cond_false, cond_true]
            congr 1
            cases hpo : p.outer with
            | nil => rw [hpo] at ho; simp at ho
            | cons o r =>
              cases r with
              | nil =>
                rw [pre_cons l c p hpo]
                unfold popI
                simp only [hpo, lastI, initI]
                rw [pre_nil _ _ _ rfl]
                simp only [List.append_assoc]
              | cons o2 r =>
                rw [pre_cons l c p hpo]
                unfold popI
                simp only [hpo, lastI, initI]
                rw [pre_cons (o := o) (r := initI (o2 :: r)) _ _ _ rfl]
          · cases h
        · cases h
    · cases hb : p.begun <;> rw [hb] at h
      · cases h
      · cases ho : p.outer.length == 4 <;> rw [ho] at h
        · injection h with h; subst h
          simp only [cond_false, cond_true]
          congr 1
          cases hpo : p.outer with
          | nil =>
            rw [pre_nil l c p hpo]
            unfold pushI
            simp only [hpo, List.nil_append]
            rw [pre_cons (o := ⟨p.line, p.words, p.done⟩) (r := []) _ _ _ rfl]
          | cons o r =>
            rw [pre_cons l c p hpo]
            unfold pushI
            simp only [hpo, List.cons_append]
            rw [pre_cons (o := o) (r := r ++ [⟨p.line, p.words, p.done⟩]) _ _ _ rfl]
        · cases h
  · cases hb : p.begun <;> rw [hb] at h
    · cases h
    · injection h with h; subst h
      simp only [cond_true]
      congr 1
      cases hpo : p.outer with
      | nil =>
        rw [pre_nil l c p hpo]
        unfold semiI
        simp only [hpo]
        rw [pre_nil _ _ _ rfl]
        simp only [List.append_assoc]
      | cons o r =>
        rw [pre_cons l c p hpo]
        unfold semiI
        simp only [hpo]
        rw [pre_cons (o := o) (r := r) _ _ _ rfl]
theorem par_pre (l : List It) (c : Int) (L : List UInt8) (line : Int) (p : PI) : ∀ q, par L line p = .ok q → q.count + c ≤ 600 → par L line (preD l c p) = .ok (preD l c q) := by
  refine par_induct (motive := fun L line p => ∀ q, par L line p = .ok q → q.count + c ≤ 600 → par L line (preD l c p) = .ok (preD l c q)) (fun L line p ih q h hc => ?_) (L.length + 1) L line p (by omega)
  obtain ⟨g1, g2, g3, g4, g5⟩ := pre_begun l c p
  have h0 := h
  rw [par_eq, parX] at h
  rw [par_eq, parX, g1, g4]
  cases he : (lx1 L line).1.err == 0 <;> rw [he] at h
  · cases h
  · cases hk : (lx1 L line).1.kind == 0 <;> rw [hk] at h
    · simp only [Bool.not_true, cond_false] at h ⊢
      cases hst : stepI p (lx1 L line).1 with
      | error e => rw [hst] at h; cases h
      | ok p' =>
        rw [hst] at h
        have := par_cnt _ _ _ _ h
        rw [step_pre hst (by omega)]
        exact ih p' hst (by simpa using he) (by simpa using hk) q h hc
    · simp only [Bool.not_true, cond_false, cond_true] at h ⊢
      cases hb : p.begun <;> rw [hb] at h
      · cases ho : p.outer.length == 0 <;> rw [ho] at h
        · cases h
        · injection h with h; subst h; rfl
      · cases h
end Go.Proofs.Ytchgegcndcdleaa
