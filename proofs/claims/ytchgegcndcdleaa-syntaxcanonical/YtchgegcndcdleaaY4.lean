/- The specification's Same; Deep. -/
import Derived.Test.YtchgegcndcdleaaY3
set_option linter.unusedVariables false
set_option linter.unusedSimpArgs false
set_option linter.unusedSectionVars false
namespace Go.Proofs.Ytchgegcndcdleaa
open Go Go.Sx
def intV : AV → Int
  | .c (.s (.d (.c (.int _ n)))) => n
  | _ => 0
noncomputable def C16 (d : Nat) : Ctx := { G9 with mprim := addPr G9.mprim 16 (fS d) }
def hdJ (a b : List It) (i k : Int) : St := ⟨[.s (.d (opnI a)), .s (.d (opnI b)), na, na, na, vI i, vI k] ++ nas 78, []⟩
def rsJ (x y i : AV) (c : Bool) : T (Ex × St) := .ite c (.ret (.ex 2, ⟨[x, y, na, na, na, i] ++ nas 79, []⟩)) (.ret (.rt, ⟨[x, y, na, na, vB false, i] ++ nas 79, []⟩))
theorem rword_i (d f : Nat) (a b : List It) (i k : Int) : (loopF (C16 d) (f + 1) 16 0 9 (hdJ a b i k)).run =
    bif decide (0 ≤ i) && decide (i < a.length) then bif decide (k < (iAt a i.toNat).words.length) then
      bif decide (0 ≤ i) && decide (i < a.length) then bif decide (0 ≤ k) && decide (k < (iAt a i.toNat).words.length) then
      bif decide (0 ≤ i) && decide (i < b.length) then bif decide (0 ≤ k) && decide (k < (iAt b i.toNat).words.length) then
      bif !(strEq (wAt (iAt a i.toNat).words k.toNat).text (wAt (iAt b i.toNat).words k.toNat).text && ((wAt (iAt a i.toNat).words k.toNat).quoted == (wAt (iAt b i.toNat).words k.toNat).quoted && true)) then
        (rsJ (.s (.d (opnI a))) (.s (.d (opnI b))) (vI i) false).run
      else (loopF (C16 d) f 16 0 9 (hdJ a b i (IntKind.i64.wrap (k + 1)))).run
      else none else none else none else none
    else (rsJ (.s (.d (opnI a))) (.s (.d (opnI b))) (vI i) true).run else none := by kernel_rfl
theorem rword_loop {d : Nat} {a b : List It} {i : Nat} (ha : OkA a) (hi : i < a.length) (hi' : i < b.length) (hw : (iAt a i).words.length = (iAt b i).words.length) : ∀ (m k : Nat), k + m = (iAt a i).words.length →
    (loopF (C16 d) (m + 1) 16 0 9 (hdJ a b i k)).run = (rsJ (.s (.d (opnI a))) (.s (.d (opnI b))) (vI i) (eqWs ((iAt a i).words.drop k) ((iAt b i).words.drop k))).run := by
  have hwl := okA_words ha hi
  have e1 : decide ((i : Int) < a.length) = true := by rw [decide_eq_true_eq]; omega
  have e1' : decide ((i : Int) < b.length) = true := by rw [decide_eq_true_eq]; omega
  have e2 : decide ((0 : Int) ≤ i) = true := by rw [decide_eq_true_eq]; omega
  intro m
  induction m with
  | zero =>
    intro k h
    rw [rword_i]
    simp only [e1, e2, Int.toNat_natCast, Bool.and_self, cond_true]
    have : decide ((k : Int) < (iAt a i).words.length) = false := by rw [decide_eq_false_iff_not]; omega
    rw [this, List.drop_of_length_le (l := (iAt a i).words) (by omega), List.drop_of_length_le (l := (iAt b i).words) (by omega)]
    rfl
  | succ m ih =>
    intro k h
    have f1 : decide ((k : Int) < (iAt a i).words.length) = true := by rw [decide_eq_true_eq]; omega
    have f1' : decide ((k : Int) < (iAt b i).words.length) = true := by rw [decide_eq_true_eq]; omega
    have f2 : decide ((0 : Int) ≤ k) = true := by rw [decide_eq_true_eq]; omega
    have e3 : IntKind.i64.wrap ((k : Int) + 1) = ((k + 1 : Nat) : Int) := by rw [wrap_id (by omega) (by omega)]; rfl
    rw [rword_i, e3]
    simp only [e1, e1', e2, f1, f1', f2, Int.toNat_natCast, Bool.and_self, cond_true, Bool.and_true, ih (k + 1) (by omega)]
    rw [drop_wAt (iAt a i).words k (by omega), drop_wAt (iAt b i).words k (by omega)]
    show _ = (rsJ (.s (.d (opnI a))) (.s (.d (opnI b))) (vI i) (eqWd (wAt (iAt a i).words k) (wAt (iAt b i).words k) && eqWs ((iAt a i).words.drop (k + 1)) ((iAt b i).words.drop (k + 1)))).run
    unfold eqWd
    cases (strEq (wAt (iAt a i).words k).text (wAt (iAt b i).words k).text && (wAt (iAt a i).words k).quoted == (wAt (iAt b i).words k).quoted) <;> rfl
abbrev hdpJ (p : List It × List It × Nat) : St := hdJ p.1 p.2.1 p.2.2 0
def preJ (p : List It × List It × Nat) : Prop := OkA p.1 ∧ p.2.2 < p.1.length ∧ p.2.2 < p.2.1.length ∧ (iAt p.1 p.2.2).words.length = (iAt p.2.1 p.2.2).words.length
noncomputable def LJ (d : Nat) : Ctx := { C16 d with lp := addLp (C16 d).lp 16 9 0 (lpOf hdpJ preJ fun s => rsJ (nthA s.env 0) (nthA s.env 1) (nthA s.env 5)
  (eqWs (iAt (lOf (nthA s.env 0)) (intV (nthA s.env 5)).toNat).words (iAt (lOf (nthA s.env 1)) (intV (nthA s.env 5)).toNat).words)) }
theorem goodLJ {d : Nat} (h : Sx.Good Try.prog (C16 d)) : Sx.Good Try.prog (LJ d) :=
  h.loop1 16 9 0 _ _ _ (by kernel_rfl) fun p hp => ⟨(iAt p.1 p.2.2).words.length + 1, by
    have := rword_loop (d := d) hp.1 hp.2.1 hp.2.2.1 hp.2.2.2 (iAt p.1 p.2.2).words.length 0 (by omega)
    rw [show hdpJ p = hdJ p.1 p.2.1 p.2.2 ((0 : Nat) : Int) from rfl, this]
    show _ = (rsJ (.s (.d (opnI p.1))) (.s (.d (opnI p.2.1))) (vI p.2.2) (eqWs (iAt (lOf (.s (.d (opnI p.1)))) ((p.2.2 : Int)).toNat).words (iAt (lOf (.s (.d (opnI p.2.1)))) ((p.2.2 : Int)).toNat).words)).run
    rw [lOf_opn, lOf_opn, Int.toNat_natCast]; rfl⟩
def hd16 (a b : List It) (i : Int) : St := ⟨[.s (.d (opnI a)), .s (.d (opnI b)), na, na, na, vI i] ++ nas 79, []⟩
theorem rsame_i (d f : Nat) (a b : List It) (i : Int) : (loopF (LJ d) (f + 1) 16 0 4 (hd16 a b i)).run =
    bif decide (i < a.length) then bif decide (0 ≤ i) && decide (i < a.length) then bif decide (0 ≤ i) && decide (i < b.length) then
      bif (iAt a i.toNat).block != (iAt b i.toNat).block then some (rsT 4 80) else
      bif decide (0 ≤ i) && decide (i < a.length) then bif decide (0 ≤ i) && decide (i < b.length) then
      bif ((iAt a i.toNat).words.length : Int) != (iAt b i.toNat).words.length then some (rsT 4 80) else
      bif decide (0 ≤ i) && decide (i < a.length) then bif decide (0 ≤ i) && decide (i < b.length) then
      bif okI d (encI (iAt a i.toNat).kids) && okA (encI (iAt b i.toNat).kids) then
        bif !sameL (itsOf (encI (iAt a i.toNat).kids)) (itsOf (encI (iAt b i.toNat).kids)) then some (rsT 4 80) else
        bif isHd hdpJ preJ (hdJ a b i 0) then
          bif eqWs (iAt (lOf (.s (.d (opnI a)))) i.toNat).words (iAt (lOf (.s (.d (opnI b)))) i.toNat).words then (loopF (LJ d) f 16 0 4 (hd16 a b (IntKind.i64.wrap (i + 1)))).run else some (rsT 4 80)
        else none
      else none else none else none else none else none
    else none else none else some (.ex 0, ⟨nas 85, []⟩) := by kernel_rfl
def rs16 (b : Bool) : T (Ex × St) := .ite b (.ret (.ex 0, ⟨nas 85, []⟩)) (.ret (rsT 4 80))
theorem rsame_loop {d : Nat} {a b : List It} (hl : a.length = b.length) (ha : Ok (d + 1) a) (hb : OkA b) : ∀ (m i : Nat), i + m = a.length →
    (loopF (LJ d) (m + 1) 16 0 4 (hd16 a b i)).run = (rs16 (sameL (a.drop i) (b.drop i))).run := by
  have ha0 := ha.1
  intro m
  induction m with
  | zero =>
    intro i h
    rw [rsame_i]
    have : decide ((i : Int) < a.length) = false := by rw [decide_eq_false_iff_not]; omega
    rw [this, List.drop_of_length_le (l := a) (by omega), List.drop_of_length_le (l := b) (by omega)]
    simp only [sameL]
    rfl
  | succ m ih =>
    intro i h
    have hi : i < a.length := by omega
    have hi' : i < b.length := by omega
    have e1 : decide ((i : Int) < a.length) = true := by rw [decide_eq_true_eq]; omega
    have e1' : decide ((i : Int) < b.length) = true := by rw [decide_eq_true_eq]; omega
    have e2 : decide ((0 : Int) ≤ i) = true := by rw [decide_eq_true_eq]; omega
    have e3 : IntKind.i64.wrap ((i : Int) + 1) = ((i + 1 : Nat) : Int) := by rw [wrap_id (by omega) (by omega)]; rfl
    rw [rsame_i, e3]
    simp only [e1, e1', e2, Int.toNat_natCast, Bool.and_self, cond_true, ih (i + 1) (by omega), itsOf_enc, okI_enc (ha.kids hi), okA_enc (okA_kids hb hi'), lOf_opn]
    rw [drop_iAt a i hi, drop_iAt b i hi', sameL, sameI_eq]
    by_cases hw : (iAt a i).words.length = (iAt b i).words.length
    · have e4 : (((iAt a i).words.length : Int) != (iAt b i).words.length) = false := by rw [hw]; simp
      rw [e4, show hdJ a b i 0 = hdpJ (a, b, i) from rfl, isHd_true (hd := hdpJ) (pre := preJ) (a := (a, b, i)) ⟨ha.okA, hi, hi', hw⟩]
      cases (iAt a i).block <;> cases (iAt b i).block <;> cases eqWs (iAt a i).words (iAt b i).words <;> cases sameL (iAt a i).kids (iAt b i).kids <;> rfl
    · have e4 : (((iAt a i).words.length : Int) != (iAt b i).words.length) = true := by simpa using (fun h2 => hw (by omega) : ¬ ((iAt a i).words.length : Int) = (iAt b i).words.length)
      have e5 : eqWs (iAt a i).words (iAt b i).words = false := by
        cases h3 : eqWs (iAt a i).words (iAt b i).words
        · rfl
        · exact absurd (eqWs_len h3) hw
      rw [e4, e5]
      cases (iAt a i).block <;> cases (iAt b i).block <;> rfl
abbrev hdp16 (p : List It × List It) : St := hd16 p.1 p.2 0
noncomputable def L16 (d : Nat) : Ctx := { LJ d with lp := addLp (LJ d).lp 16 4 0 (lpOf hdp16 (pre19 d) fun s => rs16 (sameL (lOf (nthA s.env 0)) (lOf (nthA s.env 1)))) }
theorem goodL16 {d : Nat} (h : Sx.Good Try.prog (C16 d)) : Sx.Good Try.prog (L16 d) :=
  (goodLJ h).loop1 16 4 0 _ _ _ (by kernel_rfl) fun p hp => ⟨p.1.length + 1, by
    have := rsame_loop hp.1 hp.2.1 hp.2.2 p.1.length 0 (by omega)
    rw [show hdp16 p = hd16 p.1 p.2 ((0 : Nat) : Int) from rfl, this]
    show _ = (rs16 (sameL (lOf (.s (.d (opnI p.1)))) (lOf (.s (.d (opnI p.2)))))).run
    rw [lOf_opn, lOf_opn]; rfl⟩
theorem rsame_f (d : Nat) (a b : List It) : (callF (L16 d) 100 16 [.s (.d (opnI a)), .s (.d (opnI b))] []).run =
    bif ((a.length : Int) != b.length) then some (vB false, []) else bif isHd hdp16 (pre19 d) (hdp16 (a, b)) then bif sameL (lOf (.s (.d (opnI a)))) (lOf (.s (.d (opnI b)))) then some (vB true, []) else some (vB false, []) else none := by kernel_rfl
theorem rsame_s {d : Nat} {a b : List It} (ha : Ok (d + 1) a) (hb : OkA b) : (callF (L16 d) 100 16 [.s (.d (opnI a)), .s (.d (opnI b))] []).run = some (vB (sameL a b), []) := by
  rw [rsame_f]
  by_cases h : a.length = b.length
  · have e : ((a.length : Int) != b.length) = false := by rw [h]; simp
    rw [e, isHd_true (hd := hdp16) (pre := pre19 d) (a := (a, b)) ⟨h, ha, hb⟩, lOf_opn, lOf_opn]
    cases sameL a b <;> rfl
  · have e : ((a.length : Int) != b.length) = true := by simpa using (fun h2 => h (by omega) : ¬ (a.length : Int) = b.length)
    have e2 : sameL a b = false := by
      cases h3 : sameL a b
      · rfl
      · exact absurd (sameL_len h3) h
    rw [e, e2]; rfl
noncomputable def G16 : Ctx := { G9 with mprim := addPr G9.mprim 16 fSA }
theorem goodG16 : Sx.Good Try.prog G16 :=
  goodG9.recAll (f := fS) (fun _ _ _ _ h ht => fS_zero h ht) (fun d hd args t r m h ht => by
    obtain ⟨l, k, rfl, h2, h3, rfl, rfl⟩ := fS_some h ht
    refine CallSome.glob_eq (X := L16 d) (X' := G9) rfl (CallSome.le ?_ (le_two (enc_opn l) (enc_opn k)))
    refine (goodL16 hd).call (k := 100) ?_
    rw [← callF_eq]
    exact rsame_s h2 h3) fSA fun _ _ _ _ h ht => fSA_fS h ht

/-! ### Deep -/
mutual
def deepI : It → Int → Bool
  | .mk _ _ _ kids, n => bif decide (n < 0) then true else deepL kids (IntKind.i64.wrap (n - 1))
def deepL : List It → Int → Bool
  | [], _ => false
  | a :: l, n => deepI a n || deepL l n
end
theorem deepI_eq (x : It) (n : Int) : deepI x n = bif decide (n < 0) then true else deepL x.kids (IntKind.i64.wrap (n - 1)) := by cases x; simp only [deepI, It.kids]
noncomputable def fP (d : Nat) : Says
  | [.c (.s (.d x)), .c (.s (.d (.c (.int .i64 n))))] => some (.ite (okI d x) (.ret (vB (deepL (itsOf x) n), [])) .fail)
  | _ => none
noncomputable def fPA : Says
  | [.c (.s (.d x)), .c (.s (.d (.c (.int .i64 n))))] => some (.ite (okA x) (.ret (vB (deepL (itsOf x) n), [])) .fail)
  | _ => none
theorem fP_some {d : Nat} {args : List AV} {t : T (AV × Mem)} {r : AV} {m : Mem} (h : fP d args = some t) (ht : t.run = some (r, m)) : ∃ l n, args = [.s (.d (encI l)), vI n] ∧ Ok d l ∧ r = vB (deepL l n) ∧ m = [] := by
  unfold fP at h
  split at h
  · rename_i x n
    injection h with h; subst h
    obtain ⟨h1, h2⟩ := guard_run ht
    obtain ⟨l, rfl, h3⟩ := okI_some h1
    injection h2 with h2 h4
    exact ⟨l, n, rfl, h3, by rw [← h2, itsOf_enc], h4.symm⟩
  · cases h
theorem fP_zero {args : List AV} {t : T (AV × Mem)} {r : AV} {m : Mem} (h : fP 0 args = some t) (ht : t.run = some (r, m)) : False := by
  obtain ⟨l, n, _, h2, _⟩ := fP_some h ht
  exact Nat.not_lt_zero _ h2.2.2
theorem fPA_fP {args : List AV} {t : T (AV × Mem)} {r : AV} {m : Mem} (h : fPA args = some t) (ht : t.run = some (r, m)) : ∃ d t', fP d args = some t' ∧ t'.run = some (r, m) := by
  unfold fPA at h
  split at h
  · injection h with h; subst h
    obtain ⟨h1, h2⟩ := guard_run ht
    obtain ⟨d, h3⟩ := okA_okI h1
    exact ⟨d, _, rfl, by simp only [T.run, h3, h2, cond_true]⟩
  · cases h
noncomputable def C12 (d : Nat) : Ctx := { G16 with mprim := addPr G16.mprim 12 (fP d) }
def hd12 (l : List It) (n i : Int) : St := ⟨[.s (.d (opnI l)), vI n, na, na, na, vI i] ++ nas 18, []⟩
def rs12 (b : Bool) : T (Ex × St) := .ite b (.ret (.rt, ⟨nas 4 ++ [vB true] ++ nas 19, []⟩)) (.ret (.ex 0, ⟨nas 24, []⟩))
theorem deep_i (d f : Nat) (l : List It) (n i : Int) : (loopF (C12 d) (f + 1) 12 0 2 (hd12 l n i)).run =
    bif decide (i < l.length) then bif decide (n < 0) then (rs12 true).run else bif decide (0 ≤ i) && decide (i < l.length) then bif okI d (encI (iAt l i.toNat).kids) then
      bif deepL (itsOf (encI (iAt l i.toNat).kids)) (IntKind.i64.wrap (n - 1)) then (rs12 true).run else (loopF (C12 d) f 12 0 2 (hd12 l n (IntKind.i64.wrap (i + 1)))).run
    else none else none else (rs12 false).run := by kernel_rfl
theorem deep_loop {d : Nat} {l : List It} (hl : Ok (d + 1) l) (n : Int) : ∀ (m i : Nat), i + m = l.length →
    (loopF (C12 d) (m + 1) 12 0 2 (hd12 l n i)).run = (rs12 (deepL (l.drop i) n)).run := by
  have hl0 := hl.1
  intro m
  induction m with
  | zero =>
    intro i h
    rw [deep_i]
    have : decide ((i : Int) < l.length) = false := by rw [decide_eq_false_iff_not]; omega
    rw [this, List.drop_of_length_le (by omega)]
    simp only [deepL]
    rfl
  | succ m ih =>
    intro i h
    have hi : i < l.length := by omega
    have e1 : decide ((i : Int) < l.length) = true := by rw [decide_eq_true_eq]; omega
    have e2 : decide ((0 : Int) ≤ i) = true := by rw [decide_eq_true_eq]; omega
    have e3 : IntKind.i64.wrap ((i : Int) + 1) = ((i + 1 : Nat) : Int) := by rw [wrap_id (by omega) (by omega)]; rfl
    rw [deep_i, e3]
    simp only [e1, e2, Int.toNat_natCast, okI_enc (hl.kids hi), Bool.and_self, cond_true, ih (i + 1) (by omega), itsOf_enc]
    rw [drop_iAt l i hi, deepL, deepI_eq]
    cases decide (n < 0) <;> cases deepL (iAt l i).kids (IntKind.i64.wrap (n - 1)) <;> rfl
abbrev hdp12 (p : List It × Int) : St := hd12 p.1 p.2 0
noncomputable def L12 (d : Nat) : Ctx := { C12 d with lp := addLp (C12 d).lp 12 2 0 (lpOf hdp12 (fun p => Ok (d + 1) p.1) fun s => rs12 (deepL (lOf (nthA s.env 0)) (intV (nthA s.env 1)))) }
theorem goodL12 {d : Nat} (h : Sx.Good Try.prog (C12 d)) : Sx.Good Try.prog (L12 d) :=
  h.loop1 12 2 0 _ _ _ (by kernel_rfl) fun p hp => ⟨p.1.length + 1, by
    have := deep_loop hp p.2 p.1.length 0 (by omega)
    rw [show hdp12 p = hd12 p.1 p.2 ((0 : Nat) : Int) from rfl, this]
    show _ = (rs12 (deepL (lOf (.s (.d (opnI p.1)))) p.2)).run
    rw [lOf_opn]; rfl⟩
theorem deep_f (d : Nat) (l : List It) (n : Int) : (callF (L12 d) 100 12 [.s (.d (opnI l)), vI n] []).run =
    bif isHd hdp12 (fun p => Ok (d + 1) p.1) (hdp12 (l, n)) then bif deepL (lOf (.s (.d (opnI l)))) n then some (vB true, []) else some (vB false, []) else none := by kernel_rfl
theorem le_fst {x y : D} {a : AV} (h : DLe x y) : ∀ (F : Fr) (w : World) (ρ : Locs) (M : Mut) (vs : List Value), All2 (@AR F w ρ M) [.s (.d x), a] vs → All2 (@AR F w ρ M) [.s (.d y), a] vs := by
  intro F w ρ M vs ha
  cases ha with
  | cons h1 h2 => exact .cons (h F w M _ h1) h2
noncomputable def G12 : Ctx := { G16 with mprim := addPr G16.mprim 12 fPA }
theorem goodG12 : Sx.Good Try.prog G12 :=
  goodG16.recAll (f := fP) (fun _ _ _ _ h ht => fP_zero h ht) (fun d hd args t r m h ht => by
    obtain ⟨l, n, rfl, h2, rfl, rfl⟩ := fP_some h ht
    refine CallSome.glob_eq (X := L12 d) (X' := G16) rfl (CallSome.le ?_ (le_fst (enc_opn l)))
    refine (goodL12 hd).call (k := 100) ?_
    rw [← callF_eq, deep_f, isHd_true (hd := hdp12) (pre := fun p => Ok (d + 1) p.1) (a := (l, n)) h2, lOf_opn]
    cases deepL l n <;> rfl) fPA fun _ _ _ _ h ht => fPA_fP h ht
end Go.Proofs.Ytchgegcndcdleaa
