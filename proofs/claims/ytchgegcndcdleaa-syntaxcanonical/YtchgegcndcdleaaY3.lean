/- Two lists of words or statements that are the same. -/
import Derived.Test.YtchgegcndcdleaaY2
set_option linter.unusedVariables false
set_option linter.unusedSimpArgs false
set_option linter.unusedSectionVars false
namespace Go.Proofs.Ytchgegcndcdleaa
open Go Go.Sx
def eqWd (x y : Wd) : Bool := strEq x.text y.text && x.quoted == y.quoted
def eqWs : List Wd → List Wd → Bool
  | [], [] => true
  | a :: l, b :: m => eqWd a b && eqWs l m
  | _, _ => false
noncomputable def isW (x : D) : Bool := @decide (∃ l, x = encW l ∧ l.length ≤ 9223372036854775807) (Classical.propDecidable _)
open Classical in
noncomputable def wsOf (x : D) : List Wd := if h : ∃ l, x = encW l then h.choose else []
theorem isW_enc {l : List Wd} (h : l.length ≤ 9223372036854775807) : isW (encW l) = true := by
  simp only [isW, decide_eq_true_eq]
  exact ⟨l, rfl, h⟩
theorem isW_some {x : D} (h : isW x = true) : ∃ l, x = encW l ∧ l.length ≤ 9223372036854775807 := by simpa only [isW, decide_eq_true_eq] using h
theorem wsOf_enc (l : List Wd) : wsOf (encW l) = l := by
  have h : ∃ m, encW l = encW m := ⟨l, rfl⟩
  unfold wsOf
  rw [dif_pos h]
  exact (encW_inj h.choose_spec).symm
def hd21 (a b : List Wd) (i : Int) : St := ⟨[.s (.d (encW a)), .s (.d (encW b))] ++ nas 9 ++ [.s (.d (encW a)), vI a.length, vI i] ++ nas 12, []⟩
def rsT (k n : Nat) : Ex × St := (.rt, ⟨nas k ++ [vB false] ++ nas n, []⟩)
theorem equal_i (k : Nat) (a b : List Wd) (i : Int) : (loopF G15 (k + 1) 21 0 4 (hd21 a b i)).run =
    bif decide (i < a.length) then bif decide (0 ≤ i) && decide (i < a.length) then bif decide (0 ≤ i) && decide (i < b.length) then
      bif !(strEq (wAt a i.toNat).text (wAt b i.toNat).text && ((wAt a i.toNat).quoted == (wAt b i.toNat).quoted && true)) then some (rsT 4 21)
      else (loopF G15 k 21 0 4 (hd21 a b (IntKind.i64.wrap (i + 1)))).run else none else none else some (.ex 0, ⟨nas 26, []⟩) := by kernel_rfl
theorem drop_wAt (l : List Wd) (i : Nat) (h : i < l.length) : l.drop i = wAt l i :: l.drop (i + 1) := by
  rw [List.drop_eq_getElem_cons h]
  congr 1
  simp [wAt, List.getD_eq_getElem?_getD, h]
def rs21 (b : Bool) : T (Ex × St) := .ite b (.ret (.ex 0, ⟨nas 26, []⟩)) (.ret (rsT 4 21))
theorem equal_loop {a b : List Wd} (hl : a.length = b.length) (ha : a.length ≤ 9223372036854775807) : ∀ (m i : Nat), i + m = a.length →
    (loopF G15 (m + 1) 21 0 4 (hd21 a b i)).run = (rs21 (eqWs (a.drop i) (b.drop i))).run := by
  intro m
  induction m with
  | zero =>
    intro i h
    rw [equal_i]
    have : decide ((i : Int) < a.length) = false := by rw [decide_eq_false_iff_not]; omega
    rw [this, List.drop_of_length_le (l := a) (by omega), List.drop_of_length_le (l := b) (by omega)]
    rfl
  | succ m ih =>
    intro i h
    have hi : i < a.length := by omega
    have e1 : decide ((i : Int) < a.length) = true := by rw [decide_eq_true_eq]; omega
    have e1' : decide ((i : Int) < b.length) = true := by rw [decide_eq_true_eq]; omega
    have e2 : decide ((0 : Int) ≤ i) = true := by rw [decide_eq_true_eq]; omega
    have e3 : IntKind.i64.wrap ((i : Int) + 1) = ((i + 1 : Nat) : Int) := by rw [wrap_id (by omega) (by omega)]; rfl
    rw [equal_i, e3]
    simp only [e1, e1', e2, Int.toNat_natCast, Bool.and_self, cond_true, ih (i + 1) (by omega), Bool.and_true]
    rw [drop_wAt a i hi, drop_wAt b i (by omega)]
    show _ = (rs21 (eqWd (wAt a i) (wAt b i) && eqWs (a.drop (i + 1)) (b.drop (i + 1)))).run
    unfold eqWd
    cases (strEq (wAt a i).text (wAt b i).text && (wAt a i).quoted == (wAt b i).quoted) <;> rfl
open Classical in
noncomputable def wV (v : AV) : List Wd := if h : ∃ l, v = .s (.d (encW l)) then h.choose else []
theorem wV_enc (l : List Wd) : wV (.s (.d (encW l))) = l := by
  have h : ∃ m, (AV.s (.d (encW l))) = .s (.d (encW m)) := ⟨l, rfl⟩
  unfold wV
  rw [dif_pos h]
  have key : ∀ m, (AV.s (.d (encW l))) = .s (.d (encW m)) → l = m := fun m hm => by
    simp only [AV.s, AV.c.injEq, C.s.injEq, S.d.injEq] at hm
    exact encW_inj hm
  exact (key _ h.choose_spec).symm
abbrev hdp21 (p : List Wd × List Wd) : St := hd21 p.1 p.2 0
def pre21 (p : List Wd × List Wd) : Prop := p.1.length = p.2.length ∧ p.1.length ≤ 9223372036854775807
noncomputable def L21 : Ctx := { G15 with lp := addLp G15.lp 21 4 0 (lpOf hdp21 pre21 fun s => rs21 (eqWs (wV (nthA s.env 0)) (wV (nthA s.env 1)))) }
theorem goodL21 : Sx.Good Try.prog L21 :=
  goodG15.loop1 21 4 0 _ _ _ (by kernel_rfl) fun p hp => ⟨p.1.length + 1, by
    have := equal_loop hp.1 hp.2 p.1.length 0 (by omega)
    rw [show hdp21 p = hd21 p.1 p.2 ((0 : Nat) : Int) from rfl, this]
    show _ = (rs21 (eqWs (wV (.s (.d (encW p.1)))) (wV (.s (.d (encW p.2)))))).run
    rw [wV_enc, wV_enc]; rfl⟩
theorem equal_f (a b : List Wd) : (callF L21 100 21 [.s (.d (encW a)), .s (.d (encW b))] []).run =
    bif ((a.length : Int) != b.length) then some (vB false, []) else bif isHd hdp21 pre21 (hdp21 (a, b)) then bif eqWs (wV (.s (.d (encW a)))) (wV (.s (.d (encW b)))) then some (vB true, []) else some (vB false, []) else none := by kernel_rfl
theorem eqWs_len : ∀ {a b : List Wd}, eqWs a b = true → a.length = b.length
  | [], [], _ => rfl
  | _ :: l, _ :: m, h => by
    simp only [eqWs, Bool.and_eq_true] at h
    simp [eqWs_len h.2]
  | [], _ :: _, h => by cases h
  | _ :: _, [], h => by cases h
theorem equal_s (a b : List Wd) (ha : a.length ≤ 9223372036854775807) : (callF L21 100 21 [.s (.d (encW a)), .s (.d (encW b))] []).run = some (vB (eqWs a b), []) := by
  rw [equal_f]
  by_cases h : a.length = b.length
  · have e : ((a.length : Int) != b.length) = false := by rw [h]; simp
    rw [e, isHd_true (hd := hdp21) (pre := pre21) (a := (a, b)) ⟨h, ha⟩, wV_enc, wV_enc]
    cases eqWs a b <;> rfl
  · have e : ((a.length : Int) != b.length) = true := by simpa using (fun h2 => h (by omega) : ¬ (a.length : Int) = b.length)
    have e2 : eqWs a b = false := by
      cases h3 : eqWs a b
      · rfl
      · exact absurd (eqWs_len h3) h
    rw [e, e2]; rfl
noncomputable def f21 : Says
  | [.c (.s (.d x)), .c (.s (.d y))] => some (.ite (isW x && isW y) (.ret (vB (eqWs (wsOf x) (wsOf y)), [])) .fail)
  | _ => none
noncomputable def G21 : Ctx := { G15 with mprim := addPr G15.mprim 21 f21 }
theorem goodG21 : Sx.Good Try.prog G21 := goodG15.prim1 21 f21 fun args t r m h ht => by
  unfold f21 at h
  split at h
  · injection h with h; subst h
    obtain ⟨h1, h2⟩ := guard_run ht
    simp only [Bool.and_eq_true] at h1
    obtain ⟨a, rfl, h3⟩ := isW_some h1.1
    obtain ⟨b, rfl, h4⟩ := isW_some h1.2
    rw [wsOf_enc, wsOf_enc] at h2
    injection h2 with h2 h5; subst h2; subst h5
    refine CallSome.glob_eq (X := L21) (X' := G15) rfl (goodL21.call (k := 100) ?_)
    rw [← callF_eq]
    exact equal_s a b h3
  · cases h

/-! ### Same -/
mutual
def sameI : It → It → Bool
  | .mk _ w b k, .mk _ w' b' k' => b == b' && eqWs w w' && sameL k k'
def sameL : List It → List It → Bool
  | [], [] => true
  | a :: l, c :: m => sameI a c && sameL l m
  | _, _ => false
end
theorem sameI_eq (x y : It) : sameI x y = (x.block == y.block && eqWs x.words y.words && sameL x.kids y.kids) := by
  cases x; cases y; simp only [sameI, It.block, It.words, It.kids]
theorem sameL_len : ∀ {a b : List It}, sameL a b = true → a.length = b.length
  | [], [], _ => rfl
  | _ :: l, _ :: m, h => by
    simp only [sameL, Bool.and_eq_true] at h
    simp [sameL_len h.2]
  | [], _ :: _, h => by simp [sameL] at h
  | _ :: _, [], h => by simp [sameL] at h
noncomputable def fS (d : Nat) : Says
  | [.c (.s (.d x)), .c (.s (.d y))] => some (.ite (okI d x && okA y) (.ret (vB (sameL (itsOf x) (itsOf y)), [])) .fail)
  | _ => none
noncomputable def fSA : Says
  | [.c (.s (.d x)), .c (.s (.d y))] => some (.ite (okA x && okA y) (.ret (vB (sameL (itsOf x) (itsOf y)), [])) .fail)
  | _ => none
theorem fS_some {d : Nat} {args : List AV} {t : T (AV × Mem)} {r : AV} {m : Mem} (h : fS d args = some t) (ht : t.run = some (r, m)) : ∃ l k, args = [.s (.d (encI l)), .s (.d (encI k))] ∧ Ok d l ∧ OkA k ∧ r = vB (sameL l k) ∧ m = [] := by
  unfold fS at h
  split at h
  · injection h with h; subst h
    obtain ⟨h1, h2⟩ := guard_run ht
    simp only [Bool.and_eq_true] at h1
    obtain ⟨l, rfl, h3⟩ := okI_some h1.1
    obtain ⟨k, rfl, h5⟩ := okA_some h1.2
    injection h2 with h2 h4
    exact ⟨l, k, rfl, h3, h5, by rw [← h2, itsOf_enc, itsOf_enc], h4.symm⟩
  · cases h
theorem fS_zero {args : List AV} {t : T (AV × Mem)} {r : AV} {m : Mem} (h : fS 0 args = some t) (ht : t.run = some (r, m)) : False := by
  obtain ⟨l, k, _, h2, _⟩ := fS_some h ht
  exact Nat.not_lt_zero _ h2.2.2
theorem fSA_fS {args : List AV} {t : T (AV × Mem)} {r : AV} {m : Mem} (h : fSA args = some t) (ht : t.run = some (r, m)) : ∃ d t', fS d args = some t' ∧ t'.run = some (r, m) := by
  unfold fSA at h
  split at h
  · injection h with h; subst h
    obtain ⟨h1, h2⟩ := guard_run ht
    simp only [Bool.and_eq_true] at h1
    obtain ⟨d, h3⟩ := okA_okI h1.1
    exact ⟨d, _, rfl, by simp only [T.run, h3, h1.2, h2, Bool.and_self, cond_true]⟩
  · cases h
noncomputable def C9 (d : Nat) : Ctx := { G21 with mprim := addPr G21.mprim 9 (fS d) }
def hd19 (a b : List It) (i : Int) : St := ⟨[.s (.d (opnI a)), .s (.d (opnI b)), .c (.f (.func 20) [] [])] ++ nas 12 ++ [.s (.d (opnI a)), vI a.length, vI i] ++ nas 14, []⟩
theorem eqf_i (d k : Nat) (a b : List It) (i : Int) : (loopF (C9 d) (k + 2) 19 0 4 (hd19 a b i)).run =
    bif decide (i < a.length) then bif decide (0 ≤ i) && decide (i < a.length) then bif decide (0 ≤ i) && decide (i < b.length) then
      bif (iAt a i.toNat).block == (iAt b i.toNat).block then
        bif isW (encW (iAt a i.toNat).words) && isW (encW (iAt b i.toNat).words) then
          bif eqWs (wsOf (encW (iAt a i.toNat).words)) (wsOf (encW (iAt b i.toNat).words)) then
            bif okI d (encI (iAt a i.toNat).kids) && okA (encI (iAt b i.toNat).kids) then
              bif !sameL (itsOf (encI (iAt a i.toNat).kids)) (itsOf (encI (iAt b i.toNat).kids)) then some (rsT 6 25)
              else (loopF (C9 d) (k + 1) 19 0 4 (hd19 a b (IntKind.i64.wrap (i + 1)))).run
            else none
          else some (rsT 6 25)
        else none
      else some (rsT 6 25)
    else none else none else some (.ex 0, ⟨nas 32, []⟩) := by kernel_rfl
theorem okA_kids {l : List It} (h : OkA l) {i : Nat} (hi : i < l.length) : OkA (iAt l i).kids := by
  have h1 := fitL_at l i h.2 hi
  rw [fitI_eq] at h1
  exact ⟨h1.2.2.1, h1.2.2.2⟩
theorem okA_words {l : List It} (h : OkA l) {i : Nat} (hi : i < l.length) : (iAt l i).words.length ≤ 9223372036854775807 := by
  have h1 := fitL_at l i h.2 hi
  rw [fitI_eq] at h1
  exact h1.2.1.1
theorem Ok.okA {d : Nat} {l : List It} (h : Ok d l) : OkA l := ⟨h.1, h.2.1⟩
def rs19 (b : Bool) : T (Ex × St) := .ite b (.ret (.ex 0, ⟨nas 32, []⟩)) (.ret (rsT 6 25))
theorem eqf_loop {d : Nat} {a b : List It} (hl : a.length = b.length) (ha : Ok (d + 1) a) (hb : OkA b) : ∀ (m i : Nat), i + m = a.length →
    (loopF (C9 d) (m + 2) 19 0 4 (hd19 a b i)).run = (rs19 (sameL (a.drop i) (b.drop i))).run := by
  have ha0 := ha.1
  intro m
  induction m with
  | zero =>
    intro i h
    rw [eqf_i]
    have : decide ((i : Int) < a.length) = false := by rw [decide_eq_false_iff_not]; omega
    rw [this, List.drop_of_length_le (l := a) (by omega), List.drop_of_length_le (l := b) (by omega)]
    simp only [sameL]
    rfl
  | succ m ih =>
    intro i h
    have hi : i < a.length := by omega
    have hi' : i < b.length := by omega
    have e1 : decide ((i : Int) < a.length) = true := by rw [decide_eq_true_eq]; omega
    have e1' : decide ((i : Int) < b.length) = true := by rw [decide_eq_true_eq]; omega
    have e2 : decide ((0 : Int) ≤ i) = true := by rw [decide_eq_true_eq]; omega
    have e3 : IntKind.i64.wrap ((i : Int) + 1) = ((i + 1 : Nat) : Int) := by rw [wrap_id (by omega) (by omega)]; rfl
    rw [eqf_i, e3]
    simp only [e1, e1', e2, Int.toNat_natCast, Bool.and_self, cond_true, ih (i + 1) (by omega), isW_enc (okA_words ha.okA hi), isW_enc (okA_words hb hi'), wsOf_enc, itsOf_enc, okI_enc (ha.kids hi), okA_enc (okA_kids hb hi')]
    rw [drop_iAt a i hi, drop_iAt b i hi', sameL, sameI_eq]
    cases (iAt a i).block == (iAt b i).block <;> cases eqWs (iAt a i).words (iAt b i).words <;> cases sameL (iAt a i).kids (iAt b i).kids <;> rfl
abbrev hdp19 (p : List It × List It) : St := hd19 p.1 p.2 0
def pre19 (d : Nat) (p : List It × List It) : Prop := p.1.length = p.2.length ∧ Ok (d + 1) p.1 ∧ OkA p.2
noncomputable def L19 (d : Nat) : Ctx := { C9 d with lp := addLp (C9 d).lp 19 4 0 (lpOf hdp19 (pre19 d) fun s => rs19 (sameL (lOf (nthA s.env 0)) (lOf (nthA s.env 1)))) }
theorem goodL19 {d : Nat} (h : Sx.Good Try.prog (C9 d)) : Sx.Good Try.prog (L19 d) :=
  h.loop1 19 4 0 _ _ _ (by kernel_rfl) fun p hp => ⟨p.1.length + 2, by
    have := eqf_loop hp.1 hp.2.1 hp.2.2 p.1.length 0 (by omega)
    rw [show hdp19 p = hd19 p.1 p.2 ((0 : Nat) : Int) from rfl, this]
    show _ = (rs19 (sameL (lOf (.s (.d (opnI p.1)))) (lOf (.s (.d (opnI p.2)))))).run
    rw [lOf_opn, lOf_opn]; rfl⟩
theorem same_f (d : Nat) (a b : List It) : (callF (L19 d) 100 9 [.s (.d (opnI a)), .s (.d (opnI b))] []).run =
    bif ((a.length : Int) != b.length) then some (vB false, []) else bif isHd hdp19 (pre19 d) (hdp19 (a, b)) then bif sameL (lOf (.s (.d (opnI a)))) (lOf (.s (.d (opnI b)))) then some (vB true, []) else some (vB false, []) else none := by kernel_rfl
theorem same_s {d : Nat} {a b : List It} (ha : Ok (d + 1) a) (hb : OkA b) : (callF (L19 d) 100 9 [.s (.d (opnI a)), .s (.d (opnI b))] []).run = some (vB (sameL a b), []) := by
  rw [same_f]
  by_cases h : a.length = b.length
  · have e : ((a.length : Int) != b.length) = false := by rw [h]; simp
    rw [e, isHd_true (hd := hdp19) (pre := pre19 d) (a := (a, b)) ⟨h, ha, hb⟩, lOf_opn, lOf_opn]
    cases sameL a b <;> rfl
  · have e : ((a.length : Int) != b.length) = true := by simpa using (fun h2 => h (by omega) : ¬ (a.length : Int) = b.length)
    have e2 : sameL a b = false := by
      cases h3 : sameL a b
      · rfl
      · exact absurd (sameL_len h3) h
    rw [e, e2]; rfl
noncomputable def G9 : Ctx := { G21 with mprim := addPr G21.mprim 9 fSA }
theorem goodG9 : Sx.Good Try.prog G9 :=
  goodG21.recAll (f := fS) (fun _ _ _ _ h ht => fS_zero h ht) (fun d hd args t r m h ht => by
    obtain ⟨l, k, rfl, h2, h3, rfl, rfl⟩ := fS_some h ht
    refine CallSome.glob_eq (X := L19 d) (X' := G21) rfl (CallSome.le ?_ (le_two (enc_opn l) (enc_opn k)))
    refine (goodL19 hd).call (k := 100) ?_
    rw [← callF_eq]
    exact same_s h2 h3) fSA fun _ _ _ _ h ht => fSA_fS h ht
end Go.Proofs.Ytchgegcndcdleaa
