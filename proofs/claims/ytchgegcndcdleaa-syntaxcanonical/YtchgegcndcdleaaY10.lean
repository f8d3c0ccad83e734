/- The specification's check. -/
import Derived.Test.YtchgegcndcdleaaY9
set_option linter.unusedVariables false
set_option linter.unusedSimpArgs false
set_option linter.unusedSectionVars false
namespace Go.Proofs.Ytchgegcndcdleaa
open Go Go.Sx
def bdN (d n : Int) : Bool := (decide (0 ≤ n) && decide (n ≤ 600)) && (decide (0 ≤ d) && decide (d ≤ 5))
theorem bdN_true {d n : Int} (h : 0 ≤ n ∧ n ≤ 600 ∧ 0 ≤ d ∧ d ≤ 5) : bdN d n = true := by
  simp only [bdN, Bool.and_eq_true, decide_eq_true_eq]
  omega
theorem bdN_some {d n : Int} (h : bdN d n = true) : 0 ≤ n ∧ n ≤ 600 ∧ 0 ≤ d ∧ d ≤ 5 := by
  simp only [bdN, Bool.and_eq_true, decide_eq_true_eq] at h
  omega
def two (p : Int × Int) : AV := .tup [.c (.s (.d (.c (.int .i64 p.2)))), .c (.s (.d (.c (.int .i64 p.1))))]
noncomputable def fR (dd : Nat) : Says
  | [.c (.s (.d x)), .c (.s (.d (.c (.int .i64 d)))), .c (.s (.d (.c (.int .i64 n))))] => some (.ite (okI dd x && bdN d n) (.ret (two (chkL 0 (itsOf x) d n), [])) .fail)
  | _ => none
noncomputable def fRA : Says
  | [.c (.s (.d x)), .c (.s (.d (.c (.int .i64 d)))), .c (.s (.d (.c (.int .i64 n))))] => some (.ite (okA x && bdN d n) (.ret (two (chkL 0 (itsOf x) d n), [])) .fail)
  | _ => none
theorem fR_some {dd : Nat} {args : List AV} {t : T (AV × Mem)} {r : AV} {m : Mem} (h : fR dd args = some t) (ht : t.run = some (r, m)) :
    ∃ l d n, args = [.s (.d (encI l)), vI d, vI n] ∧ Ok dd l ∧ (0 ≤ n ∧ n ≤ 600 ∧ 0 ≤ d ∧ d ≤ 5) ∧ r = two (chkL 0 l d n) ∧ m = [] := by
  unfold fR at h
  split at h
  · rename_i x d n
    injection h with h; subst h
    obtain ⟨h1, h2⟩ := guard_run ht
    rw [Bool.and_eq_true] at h1
    obtain ⟨l, rfl, h3⟩ := okI_some h1.1
    injection h2 with h6 h7
    rw [itsOf_enc] at h6
    exact ⟨l, d, n, rfl, h3, bdN_some h1.2, h6.symm, h7.symm⟩
  · cases h
theorem fR_zero {args : List AV} {t : T (AV × Mem)} {r : AV} {m : Mem} (h : fR 0 args = some t) (ht : t.run = some (r, m)) : False := by
  obtain ⟨l, d, n, _, h2, _⟩ := fR_some h ht
  exact Nat.not_lt_zero _ h2.2.2
theorem fRA_fR {args : List AV} {t : T (AV × Mem)} {r : AV} {m : Mem} (h : fRA args = some t) (ht : t.run = some (r, m)) : ∃ d t', fR d args = some t' ∧ t'.run = some (r, m) := by
  unfold fRA at h
  split at h
  · injection h with h; subst h
    obtain ⟨h1, h2⟩ := guard_run ht
    rw [Bool.and_eq_true] at h1
    obtain ⟨d, h3⟩ := okA_okI h1.1
    exact ⟨d, _, rfl, by simp only [T.run, h3, h1.2, h2, Bool.and_self, cond_true]⟩
  · cases h
noncomputable def C28 (dd : Nat) : Ctx := { G11 with mprim := addPr G11.mprim 28 (fR dd) }
def hd28 (l : List It) (d n i : Int) : St := ⟨[.s (.d (opnI l)), vI d, vI n] ++ nas 5 ++ [vI i] ++ nas 44, []⟩
/-- Error, number, and the number that the loop counts in. -/
def rs28 (e n m : Int) : T (Ex × St) := .ite (e == 0) (.ret (.ex 0, ⟨nas 2 ++ [vI n] ++ nas 50, []⟩)) (.ret (.rt, ⟨nas 2 ++ [vI m] ++ nas 3 ++ [vI n, vI e] ++ nas 45, []⟩))
theorem rchk_i (dd k : Nat) (l : List It) (d n i : Int) : (loopF (C28 dd) (k + 1) 28 0 2 (hd28 l d n i)).run =
    bif decide (i < l.length) then bif decide (n ≥ 600) then (rs28 3 n n).run else bif decide (d > 4) then (rs28 17 n n).run else
      bif decide (0 ≤ i) && decide (i < l.length) then bif isWd (encW (iAt l i.toNat).words) then
        bif !(stE (wOf (.s (.d (encW (iAt l i.toNat).words)))) (iAt l i.toNat).block (iAt l i.toNat).kids.length == 0) then
          some (.rt, ⟨nas 2 ++ [vI (IntKind.i64.wrap (n + 1))] ++ nas 3 ++ [vI (IntKind.i64.wrap (n + 1)), vI (stE (wOf (.s (.d (encW (iAt l i.toNat).words)))) (iAt l i.toNat).block (iAt l i.toNat).kids.length)] ++ nas 45, []⟩)
        else bif decide (0 ≤ i) && decide (i < l.length) then bif okI dd (encI (iAt l i.toNat).kids) && bdN (IntKind.i64.wrap (d + 1)) (IntKind.i64.wrap (n + 1)) then
            bif !((chkL 0 (itsOf (encI (iAt l i.toNat).kids)) (IntKind.i64.wrap (d + 1)) (IntKind.i64.wrap (n + 1))).1 == 0) then
              some (.rt, ⟨nas 2 ++ [vI (IntKind.i64.wrap (n + 1))] ++ nas 3 ++ [vI (chkL 0 (itsOf (encI (iAt l i.toNat).kids)) (IntKind.i64.wrap (d + 1)) (IntKind.i64.wrap (n + 1))).2, vI (chkL 0 (itsOf (encI (iAt l i.toNat).kids)) (IntKind.i64.wrap (d + 1)) (IntKind.i64.wrap (n + 1))).1] ++ nas 45, []⟩)
            else (loopF (C28 dd) k 28 0 2 (hd28 l d (chkL 0 (itsOf (encI (iAt l i.toNat).kids)) (IntKind.i64.wrap (d + 1)) (IntKind.i64.wrap (n + 1))).2 (IntKind.i64.wrap (i + 1)))).run
          else none else none
        else none else none
    else (rs28 0 n n).run := by kernel_rfl
/-- The number that the loop counts in, where it stops. -/
def ctr : List It → Int → Int → Int
  | [], _, n => n
  | x :: l, d, n => bif decide (n + 1 > 600) then n else bif decide (d > 4) then n else bif (chkI 0 x d (n + 1)).1 == 0 then ctr l d (chkI 0 x d (n + 1)).2 else n + 1
theorem ctr_ok : ∀ (l : List It) (d n : Int), (chkL 0 l d n).1 = 0 → ctr l d n = (chkL 0 l d n).2
  | [], d, n, _ => by simp only [ctr, chkL]
  | x :: l, d, n, h => by
    rw [chkL_cons] at h ⊢
    simp only [ctr]
    cases h1 : decide (n + 1 > 600)
    · cases h2 : decide (d > 4)
      · cases h3 : (chkI 0 x d (n + 1)).1 == 0
        · simp only [h1, h2, h3, cond_false] at h
          rw [h] at h3; cases h3
        · simp only [h1, h2, h3, cond_false, cond_true] at h ⊢
          exact ctr_ok l d _ h
      · simp only [h1, h2, cond_false, cond_true] at h; exact absurd h (by decide)
    · simp only [h1, cond_true] at h; exact absurd h (by decide)
theorem rchk_loop {dd : Nat} {l : List It} (hl : Ok (dd + 1) l) (d : Int) (hd : 0 ≤ d ∧ d ≤ 5) : ∀ (m i : Nat) (n : Int), 0 ≤ n ∧ n ≤ 600 → i + m = l.length →
    (loopF (C28 dd) (m + 1) 28 0 2 (hd28 l d n i)).run = (rs28 (chkL 0 (l.drop i) d n).1 (chkL 0 (l.drop i) d n).2 (ctr (l.drop i) d n)).run := by
  have hl0 := hl.1
  intro m
  induction m with
  | zero =>
    intro i n hn h
    rw [rchk_i]
    have : decide ((i : Int) < l.length) = false := by rw [decide_eq_false_iff_not]; omega
    rw [this, List.drop_of_length_le (by omega)]
    simp only [chkL, ctr]
    rfl
  | succ m ih =>
    intro i n hn h
    have hi : i < l.length := by omega
    have e1 : decide ((i : Int) < l.length) = true := by rw [decide_eq_true_eq]; omega
    have e2 : decide ((0 : Int) ≤ i) = true := by rw [decide_eq_true_eq]; omega
    have e3 : IntKind.i64.wrap ((i : Int) + 1) = ((i + 1 : Nat) : Int) := by rw [wrap_id (by omega) (by omega)]; rfl
    have e4 : IntKind.i64.wrap (n + 1) = n + 1 := wrap_id (by omega) (by omega)
    have e5 : IntKind.i64.wrap (d + 1) = d + 1 := wrap_id (by omega) (by omega)
    have e6 : decide (n ≥ 600) = decide (n + 1 > 600) := by rw [decide_eq_decide]; omega
    rw [rchk_i, e3, e4, e5, e6, drop_iAt l i hi, chkL_cons]
    simp only [ctr]
    rw [chkI_eq]
    simp only [e1, e2, Int.toNat_natCast, Bool.and_self, cond_true, isWd_enc, wOf_enc, itsOf_enc]
    cases h1 : decide (n + 1 > 600)
    · cases h2 : decide (d > 4)
      · rw [decide_eq_false_iff_not] at h1 h2
        simp only [cond_false]
        cases h3 : stE (iAt l i).words (iAt l i).block (iAt l i).kids.length == 0
        · simp only [cond_false, Bool.not_false, cond_true, h3]
          unfold rs28
          simp only [h3, T.run, cond_false]
        · have hk : okI dd (encI (iAt l i).kids) = true := okI_enc (hl.kids hi)
          simp only [cond_true, hk, bdN_true (n := n + 1) (d := d + 1) ⟨by omega, by omega, by omega, by omega⟩, Bool.and_self, Bool.not_true, cond_false]
          cases h4 : (chkL 0 (iAt l i).kids (d + 1) (n + 1)).1 == 0
          · simp only [cond_false, Bool.not_false, cond_true]
            unfold rs28
            simp only [h4, T.run, cond_false]
          · simp only [cond_true, Bool.not_true, cond_false]
            have k1 := chkL_bd 0 (iAt l i).kids (d + 1) (n + 1) (by omega) (by simpa using h4)
            exact ih (i + 1) _ ⟨by omega, k1.2⟩ (by omega)
      · simp only [cond_false, cond_true, Int.add_zero]
    · simp only [cond_true, Int.add_zero]
abbrev hdp28 (p : List It × Int × Int) : St := hd28 p.1 p.2.1 p.2.2 0
noncomputable def L28 (dd : Nat) : Ctx := { C28 dd with lp := addLp (C28 dd).lp 28 2 0 (lpOf hdp28 (pre26 dd) fun s => rs28 (chkL 0 (lOf (nthA s.env 0)) (intV (nthA s.env 1)) (intV (nthA s.env 2))).1 (chkL 0 (lOf (nthA s.env 0)) (intV (nthA s.env 1)) (intV (nthA s.env 2))).2 (ctr (lOf (nthA s.env 0)) (intV (nthA s.env 1)) (intV (nthA s.env 2)))) }
theorem goodL28 {dd : Nat} (h : Sx.Good Try.prog (C28 dd)) : Sx.Good Try.prog (L28 dd) :=
  h.loop1 28 2 0 _ _ _ (by kernel_rfl) fun p hp => ⟨p.1.length + 1, by
    have := rchk_loop hp.1 p.2.1 ⟨hp.2.2.2.1, hp.2.2.2.2⟩ p.1.length 0 p.2.2 ⟨hp.2.1, hp.2.2.1⟩ (by omega)
    rw [show hdp28 p = hd28 p.1 p.2.1 p.2.2 ((0 : Nat) : Int) from rfl, this]
    show _ = (rs28 (chkL 0 (lOf (.s (.d (opnI p.1)))) p.2.1 p.2.2).1 (chkL 0 (lOf (.s (.d (opnI p.1)))) p.2.1 p.2.2).2 (ctr (lOf (.s (.d (opnI p.1)))) p.2.1 p.2.2)).run
    rw [lOf_opn]; rfl⟩
theorem rchk_f (dd : Nat) (l : List It) (d n : Int) : (callF (L28 dd) 100 28 [.s (.d (opnI l)), vI d, vI n] []).run =
    bif isHd hdp28 (pre26 dd) (hdp28 (l, d, n)) then bif (chkL 0 (lOf (.s (.d (opnI l)))) d n).1 == 0 then some (two (0, (chkL 0 (lOf (.s (.d (opnI l)))) d n).2), [])
      else some (two ((chkL 0 (lOf (.s (.d (opnI l)))) d n).1, (chkL 0 (lOf (.s (.d (opnI l)))) d n).2), []) else none := by kernel_rfl
noncomputable def G28 : Ctx := { G11 with mprim := addPr G11.mprim 28 fRA }
theorem goodG28 : Sx.Good Try.prog G28 :=
  goodG11.recAll (f := fR) (fun _ _ _ _ h ht => fR_zero h ht) (fun dd hd args t r m h ht => by
    obtain ⟨l, d, n, rfl, h2, h3, rfl, rfl⟩ := fR_some h ht
    refine CallSome.glob_eq (X := L28 dd) (X' := G11) rfl (CallSome.le ?_ (le_hd (enc_opn l)))
    refine (goodL28 hd).call (k := 100) ?_
    rw [← callF_eq, rchk_f, isHd_true (hd := hdp28) (pre := pre26 dd) (a := (l, d, n)) ⟨h2, h3⟩, lOf_opn]
    cases h4 : (chkL 0 l d n).1 == 0
    · rfl
    · have h5 : (chkL 0 l d n).1 = 0 := by simpa using h4
      unfold two
      simp only [h5]; rfl) fRA fun _ _ _ _ h ht => fRA_fR h ht
theorem rcheck_f (x : D) : (callF G28 100 13 [.s (.d x)] []).run = bif okA x && bdN 0 0 then some (vI (errD x), []) else none := by kernel_rfl
noncomputable def G13 : Ctx := { G28 with mprim := addPr G28.mprim 13 fE }
theorem goodG13 : Sx.Good Try.prog G13 := goodG28.prim1 13 fE fun args t r m h ht => by
  unfold fE at h
  split at h
  · rename_i x
    injection h with h; subst h
    obtain ⟨h1, h2⟩ := guard_run ht
    injection h2 with h3 h4; subst h3; subst h4
    refine goodG28.call (k := 100) ?_
    rw [← callF_eq]
    show (callF G28 100 13 [.s (.d x)] []).run = _
    rw [rcheck_f, h1]
    rfl
  · cases h
end Go.Proofs.Ytchgegcndcdleaa
