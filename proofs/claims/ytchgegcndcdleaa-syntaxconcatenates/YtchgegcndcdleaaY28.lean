/- What is parsed has no error. -/
import Derived.Test.YtchgegcndcdleaaY27
set_option linter.unusedVariables false
set_option linter.unusedSimpArgs false
set_option linter.unusedSectionVars false
namespace Go.Proofs.Ytchgegcndcdleaa
open Go Go.Sx
def wsOk (ws : List Wd) : Prop := ws.length ≠ 0 ∧ opB (wAt ws 0).text (wAt ws 0).quoted = true ∧ ws.length ≤ 40 ∧ ∀ w, w ∈ ws → wE w.text w.quoted = 0
def okLn (line : Int) : Prop := 0 ≤ line ∧ line ≤ 20000
mutual
def goodI : Nat → It → Prop
  | d, .mk line ws bk kids => (d ≤ 4 ∧ (bk = true → d ≤ 3)) ∧ wsOk ws ∧ (bk = false → kids = []) ∧ okLn line ∧ goodL (d + 1) kids
def goodL : Nat → List It → Prop
  | _, [] => True
  | d, a :: l => goodI d a ∧ goodL d l
end
mutual
def szI : It → Nat
  | .mk _ _ _ kids => szL kids + 1
def szL : List It → Nat
  | [] => 0
  | a :: l => szI a + szL l
end
theorem goodL_app (d : Nat) : ∀ (a b : List It), goodL d (a ++ b) ↔ goodL d a ∧ goodL d b
  | [], b => by simp only [List.nil_append, goodL, true_and]
  | x :: a, b => by simp only [List.cons_append, goodL, goodL_app d a b, and_assoc]
theorem szL_app : ∀ (a b : List It), szL (a ++ b) = szL a + szL b
  | [], b => by simp only [List.nil_append, szL, Nat.zero_add]
  | x :: a, b => by simp only [List.cons_append, szL, szL_app a b, Nat.add_assoc]
theorem wsE_of : ∀ (ws : List Wd), (∀ w, w ∈ ws → wE w.text w.quoted = 0) → wsE ws = 0
  | [], _ => rfl
  | w :: ws, h => by
    rw [wsE, h w (by simp)]
    exact wsE_of ws fun w hw => h w (by simp [hw])
theorem stE_of {ws : List Wd} {bk : Bool} {n : Nat} (h : wsOk ws) (hk : bk = false → n = 0) : stE ws bk n = 0 := by
  obtain ⟨h1, h2, h3, h4⟩ := h
  unfold stE
  rw [show ((ws.length : Int) == 0) = false by rw [beq_eq_false_iff_ne]; omega, h2, show decide ((ws.length : Int) > 40) = false by rw [decide_eq_false_iff_not]; omega, wsE_of ws h4]
  cases bk
  · rw [hk rfl]; rfl
  · rfl
mutual
theorem chkI_good : ∀ (x : It) (d : Nat) (n : Int), goodI d x → n + szL x.kids ≤ 600 → chkI 0 x d n = (0, n + szL x.kids)
  | .mk line ws bk kids, d, n, h, hn => by
    simp only [goodI, It.kids] at h hn ⊢
    rw [chkI, stE_of h.2.1 (fun hb => by rw [h.2.2.1 hb]; rfl)]
    exact chkL_good kids (d + 1) n h.2.2.2.2 hn
theorem chkL_good : ∀ (l : List It) (d : Nat) (n : Int), goodL d l → n + szL l ≤ 600 → chkL 0 l d n = (0, n + szL l)
  | [], d, n, _, _ => by simp only [chkL, szL]; simp
  | x :: l, d, n, h, hn => by
    simp only [goodL] at h
    have hd : d ≤ 4 := by cases x; simp only [goodI] at h; exact h.1.1.1
    have hx : szI x = szL x.kids + 1 := by cases x; simp only [szI, It.kids]
    simp only [szL] at hn ⊢
    rw [chkL_cons, show decide (n + 1 > 600) = false by rw [decide_eq_false_iff_not]; omega, show decide ((d : Int) > 4) = false by rw [decide_eq_false_iff_not]; omega,
      chkI_good x d (n + 1) h.1 (by omega)]
    simp only [cond_false, beq_self_eq_true, cond_true]
    rw [chkL_good l d _ h.2 (by omega)]
    congr 1
    omega
end
/-! ### Tokens -/
def tokOk (x : LR) : Prop := x.kind = 0 ∨ x.kind = 59 ∨ x.kind = 123 ∨ x.kind = 125 ∨ ((x.kind = 119 ∨ x.kind = 34) ∧ wE x.text (x.kind == 34) = 0)
theorem allB_bs (p : UInt8 → Bool) (l : List UInt8) : allB p (bs l) 0 = l.all p := rfl
theorem all_takeWhile (p : UInt8 → Bool) : ∀ l : List UInt8, (l.takeWhile p).all p = true
  | [] => rfl
  | b :: l => by
    rw [List.takeWhile_cons]
    cases h : p b
    · rfl
    · simp only [if_true, List.all_cons, h, all_takeWhile p l, Bool.and_self]
theorem finL_ok {r : List UInt8} {kind : Int} {w : List UInt8} {line : Int} (h : (finL r kind w line).err = 0) : finL r kind w line = ⟨kind, bs w, line, 0, 0⟩ ∧ w.length ≤ 120 := by
  unfold finL at h ⊢
  cases h1 : decide (w.length > 120)
  · rw [h1] at h
    rw [decide_eq_false_iff_not] at h1
    simp only [cond_false] at h ⊢
    cases h2 : hdBad r kind
    · exact ⟨rfl, by omega⟩
    · rw [h2] at h; simp [errR] at h
  · rw [h1] at h; simp [errR] at h
theorem wE_plain {w : List UInt8} (hl : w.length ≤ 120) (h0 : w ≠ []) (h : w.all plU = true) : wE (bs w) false = 0 := by
  unfold wE
  rw [show decide (((bs w).size : Int) > 120) = false by rw [decide_eq_false_iff_not, bs_size]; omega]
  have : plainS (bs w) = true := by
    unfold plainS
    rw [allB_bs, h, Bool.true_and]
    unfold strEq
    rw [Bool.not_eq_true']
    show (w == []) = false
    cases w with
    | nil => exact absurd rfl h0
    | cons => rfl
  rw [this]; rfl
theorem quU_evU (b : UInt8) : quU b = evU b := by
  unfold quU evU odB
  generalize ((b.toNat : Int) == 34) = p
  cases p <;> cases decide ((b.toNat : Int) < 32) <;> cases decide ((b.toNat : Int) > 126) <;> rfl
theorem wE_quoted {w : List UInt8} (hl : w.length ≤ 120) (h : w.all quU = true) : wE (bs w) true = 0 := by
  unfold wE
  rw [show decide (((bs w).size : Int) > 120) = false by rw [decide_eq_false_iff_not, bs_size]; omega]
  have : allB evU (bs w) 0 = true := by
    rw [allB_bs, ← h]
    congr 1
    funext b
    exact (quU_evU b).symm
  rw [this]; rfl
theorem lx_tok : ∀ (n : Nat) (L : List UInt8) (line : Int), (lxL n L line).1.err = 0 → tokOk (lxL n L line).1 ∧ (lxL n L line).1.tl = (lxL n L line).2.2 := by
  intro n
  induction n with
  | zero => intro L line h; simp [lxL, errR] at h
  | succ n ih =>
    intro L line h
    cases L with
    | nil => exact ⟨.inl rfl, rfl⟩
    | cons b r =>
      rw [lxL] at h ⊢
      cases c35 : (b.toNat : Int) == 35
      · rw [c35] at h
        cases c10 : (b.toNat : Int) == 10
        · rw [c10] at h
          cases c32 : (b.toNat : Int) == 32
          · rw [c32] at h
            cases c9 : (b.toNat : Int) == 9
            · rw [c9] at h
              cases c123 : (b.toNat : Int) == 123
              · rw [c123] at h
                cases c125 : (b.toNat : Int) == 125
                · rw [c125] at h
                  cases c59 : (b.toNat : Int) == 59
                  · rw [c59] at h
                    cases c34 : (b.toNat : Int) == 34
                    · rw [c34] at h
                      cases hp : plU b
                      · rw [hp] at h; simp [errR] at h
                      · rw [hp] at h
                        simp only [cond_false, cond_true] at h ⊢
                        obtain ⟨h1, h2⟩ := finL_ok h
                        rw [h1]
                        refine ⟨.inr (.inr (.inr (.inr ⟨.inl rfl, wE_plain h2 ?_ (all_takeWhile plU _)⟩))), rfl⟩
                        rw [List.takeWhile_cons, if_pos hp]
                        simp
                    · rw [c34] at h
                      simp only [cond_false, cond_true] at h ⊢
                      unfold quoL at h ⊢
                      split at h
                      · simp [errR] at h
                      · rename_i c r' hd
                        cases h34 : (c.toNat : Int) == 34
                        · rw [h34] at h; simp [errR] at h
                        · rw [h34] at h
                          simp only [h34, cond_true] at h ⊢
                          obtain ⟨h1, h2⟩ := finL_ok h
                          rw [h1]
                          exact ⟨.inr (.inr (.inr (.inr ⟨.inr rfl, wE_quoted h2 (all_takeWhile quU _)⟩))), rfl⟩
                  · exact ⟨.inr (.inl (by simpa using c59)), rfl⟩
                · exact ⟨.inr (.inr (.inr (.inl (by simpa using c125)))), rfl⟩
              · exact ⟨.inr (.inr (.inl (by simpa using c123))), rfl⟩
            · rw [c9] at h
              exact ih r line h
          · rw [c32] at h
            exact ih r line h
        · rw [c10] at h
          exact ih r (line + 1) h
      · rw [c35] at h
        exact ih _ line h
/-! ### The parser's state -/
def goodO : Nat → List LvI → Prop
  | _, [] => True
  | i, l :: r => goodL i l.bef ∧ wsOk l.words ∧ okLn l.line ∧ goodO (i + 1) r
def szO : List LvI → Nat
  | [] => 0
  | l :: r => szL l.bef + 1 + szO r
theorem goodO_app : ∀ (i : Nat) (a : List LvI) (b : LvI), goodO i (a ++ [b]) ↔ goodO i a ∧ goodL (i + a.length) b.bef ∧ wsOk b.words ∧ okLn b.line
  | i, [], b => by simp only [List.nil_append, goodO, List.length_nil, Nat.add_zero, and_true, true_and]
  | i, x :: a, b => by
    simp only [List.cons_append, goodO, goodO_app (i + 1) a b, List.length_cons, and_assoc]
    rw [show i + 1 + a.length = i + (a.length + 1) by omega]
theorem szO_app : ∀ (a : List LvI) (b : LvI), szO (a ++ [b]) = szO a + szL b.bef + 1
  | [], b => by simp only [List.nil_append, szO]; omega
  | x :: a, b => by simp only [List.cons_append, szO, szO_app a b]; omega
structure InvV (p : PI) : Prop where
  done : goodL p.outer.length p.done
  outer : goodO 0 p.outer
  depth : p.outer.length ≤ 4
  yes : p.begun = true → wsOk p.words ∧ okLn p.line
  no : p.begun = false → p.words = []
  cnt : p.count = szL p.done + szO p.outer + (if p.begun then 1 else 0 : Nat)
  c1 : p.count ≤ 600
theorem InvV.step {p p' : PI} {x : LR} (h : InvV p) (hx : tokOk x) (hk : x.kind ≠ 0) (hl : okLn x.tl) (hs : stepI p x = .ok p') : InvV p' := by
  obtain ⟨b1, b2, b3, b4, b5, b6, b7⟩ := h
  unfold stepI at hs
  have hw : x.kind ≠ 59 → x.kind ≠ 123 → x.kind ≠ 125 → wE x.text (x.kind == 34) = 0 := fun h1 h2 h3 => by
    rcases hx with hx | hx | hx | hx | hx
    · exact absurd hx hk
    · exact absurd hx h1
    · exact absurd hx h2
    · exact absurd hx h3
    · exact hx.2
  cases c59 : x.kind == 59
  · rw [c59] at hs
    cases c123 : x.kind == 123
    · rw [c123] at hs
      cases c125 : x.kind == 125
      · rw [c125] at hs
        have hw := hw (by simpa using c59) (by simpa using c123) (by simpa using c125)
        cases hb : p.begun
        · rw [hb] at hs
          cases ho : opB x.text (x.kind == 34)
          · rw [ho] at hs; cases hs
          · rw [ho] at hs
            cases hc : p.count == 600
            · rw [hc] at hs
              have hc' : p.count ≠ 600 := by simpa using hc
              injection hs with hs; subst hs
              rw [hb] at b6
              refine ⟨b1, b2, b3, fun _ => ⟨⟨by simp [begI], ho, by simp [begI], fun w hw' => ?_⟩, hl⟩, fun h => by simp [begI] at h, ?_, ?_⟩
              · obtain rfl := List.mem_singleton.1 hw'
                exact hw
              · simp only [begI, if_true]
                rw [b6]
                simp
              · show p.count + 1 ≤ 600; omega
            · rw [hc] at hs; cases hs
        · rw [hb] at hs
          cases hw40 : p.words.length == 40
          · rw [hw40] at hs
            injection hs with hs; subst hs
            have h40 : p.words.length ≠ 40 := by simpa using hw40
            obtain ⟨⟨k1, k2, k3, k4⟩, k5⟩ := b4 hb
            rw [hb] at b6
            refine ⟨b1, b2, b3, fun _ => ⟨⟨by simp [addI], ?_, by simp only [addI, List.length_append, List.length_cons, List.length_nil]; omega, fun w hw' => ?_⟩, k5⟩, fun h => (by simp only [addI, hb] at h; cases h), ?_, b7⟩
            · have : wAt (p.words ++ [⟨x.text, x.kind == 34⟩]) 0 = wAt p.words 0 := by
                cases hh : p.words with
                | nil => rw [hh] at k1; exact absurd rfl k1
                | cons a l => rfl
              simp only [addI, this]
              exact k2
            · rcases List.mem_append.1 hw' with hw' | hw'
              · exact k4 w hw'
              · obtain rfl := List.mem_singleton.1 hw'
                exact hw
            · show p.count = szL p.done + szO p.outer + (if p.begun then 1 else 0 : Nat)
              rw [hb]; exact b6
          · rw [hw40] at hs; cases hs
      · rw [c125] at hs
        cases hb : p.begun
        · rw [hb] at hs
          cases ho : p.outer.length == 0
          · rw [ho] at hs
            injection hs with hs; subst hs
            have hne : p.outer ≠ [] := by
              intro h0
              rw [h0] at ho; simp at ho
            have hsp := last_init p.outer hne
            have hil := initI_len p.outer
            have hpos : 0 < p.outer.length := List.length_pos_iff.2 hne
            rw [hsp, goodO_app, Nat.zero_add] at b2
            obtain ⟨q1, q2, q3, q4⟩ := b2
            rw [hb] at b6
            refine ⟨?_, q1, by simp only [popI, initI_len]; omega, fun h => by simp [popI] at h, fun _ => rfl, ?_, b7⟩
            · simp only [popI]
              rw [goodL_app]
              refine ⟨q2, ?_⟩
              simp only [goodL, goodI, and_true]
              refine ⟨⟨by omega, fun _ => by omega⟩, q3, fun h => (Bool.noConfusion h), q4, ?_⟩
              rw [hil, show p.outer.length - 1 + 1 = p.outer.length by omega]
              exact b1
            · simp only [popI, szL_app, szL, szI]
              rw [hsp, szO_app] at b6
              simp only [Bool.false_eq_true, if_false] at b6 ⊢
              omega
          · rw [ho] at hs; cases hs
        · rw [hb] at hs; cases hs
    · rw [c123] at hs
      cases hb : p.begun
      · rw [hb] at hs; cases hs
      · rw [hb] at hs
        cases ho : p.outer.length == 4
        · rw [ho] at hs
          injection hs with hs; subst hs
          have ho' : p.outer.length ≠ 4 := by simpa using ho
          obtain ⟨k1, k2⟩ := b4 hb
          rw [hb] at b6
          refine ⟨by simp only [pushI, goodL], ?_, by simp only [pushI, List.length_append, List.length_cons, List.length_nil]; omega, fun h => by simp [pushI] at h, fun _ => rfl, ?_, b7⟩
          · simp only [pushI]
            rw [goodO_app, Nat.zero_add]
            exact ⟨b2, b1, k1, k2⟩
          · simp only [pushI, szL, szO_app, Bool.false_eq_true, if_false, if_true] at b6 ⊢
            omega
        · rw [ho] at hs; cases hs
  · rw [c59] at hs
    cases hb : p.begun
    · rw [hb] at hs; cases hs
    · rw [hb] at hs
      injection hs with hs; subst hs
      obtain ⟨k1, k2⟩ := b4 hb
      rw [hb] at b6
      refine ⟨?_, b2, b3, fun h => by simp [semiI] at h, fun _ => rfl, ?_, b7⟩
      · simp only [semiI]
        rw [goodL_app]
        refine ⟨b1, ?_⟩
        simp only [goodL, goodI, and_true]
        exact ⟨⟨b3, fun h => (by cases h)⟩, k1, fun _ => by first | rfl | trivial, k2⟩
      · simp only [semiI, szL_app, szL, szI, Bool.false_eq_true, if_false, if_true] at b6 ⊢
        omega
theorem lx_line : ∀ (n : Nat) (L : List UInt8) (line : Int), line ≤ (lxL n L line).2.2 ∧ (lxL n L line).2.2 + (lxL n L line).2.1.length ≤ line + L.length := by
  intro n
  induction n with
  | zero => intro L line; simp only [lxL]; omega
  | succ n ih =>
    intro L line
    have hdw : ∀ (p : UInt8 → Bool) (l : List UInt8), (l.dropWhile p).length ≤ l.length := fun p l => by
      have := congrArg List.length (List.takeWhile_append_dropWhile (p := p) (l := l))
      rw [List.length_append] at this
      omega
    cases L with
    | nil => simp only [lxL]; omega
    | cons b r =>
      rw [lxL]
      have h1 := hdw comU (b :: r)
      have h2 := hdw plU (b :: r)
      have h3 := hdw quU r
      have i1 := ih ((b :: r).dropWhile comU) line
      have i2 := ih r line
      have i3 := ih r (line + 1)
      simp only [List.length_cons] at h1 h2 ⊢
      have hq : (quoL r line).2.length ≤ r.length := by
        unfold quoL
        split
        · simp
        · rename_i c r' hd
          rw [hd] at h3
          simp only [List.length_cons] at h3
          cases (c.toNat : Int) == 34
          · exact h3
          · simp only [cond_true]; omega
      cases (b.toNat : Int) == 35
      · cases (b.toNat : Int) == 10
        · cases (b.toNat : Int) == 32
          · cases (b.toNat : Int) == 9
            · cases (b.toNat : Int) == 123
              · cases (b.toNat : Int) == 125
                · cases (b.toNat : Int) == 59
                  · cases (b.toNat : Int) == 34
                    · cases plU b
                      · simp only [cond_false, List.length_cons]; omega
                      · simp only [cond_false, cond_true]; omega
                    · simp only [cond_false, cond_true]; omega
                  · simp only [cond_false, cond_true]; omega
                · simp only [cond_false, cond_true]; omega
              · simp only [cond_false, cond_true]; omega
            · simp only [cond_false, cond_true]; omega
          · simp only [cond_false, cond_true]; omega
        · simp only [cond_false, cond_true]; omega
      · simp only [cond_true]; omega
theorem par_good : ∀ (n : Nat) (L : List UInt8) (line : Int) (p : PI) (l : List It), InvV p → 0 ≤ line → line + L.length ≤ 20000 → parL n L line p = .ok l → goodL 0 l ∧ szL l ≤ 600 := by
  intro n
  induction n with
  | zero => intro L line p l _ _ _ h; cases h
  | succ n ih =>
    intro L line p l hp h0 h1 h
    have hln := lx_line (L.length + 1) L line
    rw [parL] at h
    cases he : (lx1 L line).1.err == 0
    · rw [he] at h; cases h
    · rw [he] at h
      have he' : (lx1 L line).1.err = 0 := by simpa using he
      have ht : tokOk (lx1 L line).1 ∧ (lx1 L line).1.tl = (lx1 L line).2.2 := lx_tok _ L line he'
      obtain ⟨ht1, ht2⟩ := ht
      have hln' : line ≤ (lx1 L line).2.2 ∧ (lx1 L line).2.2 + (lx1 L line).2.1.length ≤ line + L.length := hln
      cases hk : (lx1 L line).1.kind == 0
      · rw [hk] at h
        simp only [Bool.not_true, cond_false] at h
        split at h
        · cases h
        · rename_i p' hst
          have ht2' : (lx1 L line).1.tl = (lx1 L line).2.2 := ht2
          exact ih _ _ p' l (hp.step ht1 (by simpa using hk) ⟨by rw [ht2']; omega, by rw [ht2']; omega⟩ hst) (by omega) (by omega) h
      · rw [hk] at h
        simp only [Bool.not_true, cond_false, cond_true] at h
        cases hb : p.begun
        · rw [hb] at h
          cases ho : p.outer.length == 0
          · rw [ho] at h; cases h
          · rw [ho] at h
            injection h with h; subst h
            have ho' : p.outer.length = 0 := by simpa using ho
            have hc := hp.cnt
            have hc1 := hp.c1
            rw [hb] at hc
            simp only [Bool.false_eq_true, if_false] at hc
            exact ⟨ho' ▸ hp.done, by omega⟩
        · rw [hb] at h; cases h
end Go.Proofs.Ytchgegcndcdleaa
