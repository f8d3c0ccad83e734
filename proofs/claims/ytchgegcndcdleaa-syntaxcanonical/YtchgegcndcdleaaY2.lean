/- Count of statements: the program's and the specification's. -/
import Derived.Test.YtchgegcndcdleaaY1
set_option linter.unusedVariables false
set_option linter.unusedSimpArgs false
set_option linter.unusedSectionVars false
namespace Go.Proofs.Ytchgegcndcdleaa
open Go Go.Sx
noncomputable def fC (d : Nat) : Says
  | [.c (.s (.d x))] => some (.ite (okI d x) (.ret (vI (countD x), [])) .fail)
  | _ => none
noncomputable def fCA : Says
  | [.c (.s (.d x))] => some (.ite (okA x) (.ret (vI (countD x), [])) .fail)
  | _ => none
theorem fC_some {d : Nat} {args : List AV} {t : T (AV × Mem)} {r : AV} {m : Mem} (h : fC d args = some t) (ht : t.run = some (r, m)) : ∃ l, args = [.s (.d (encI l))] ∧ Ok d l ∧ r = vI (countI l) ∧ m = [] := by
  unfold fC at h
  split at h
  · injection h with h; subst h
    obtain ⟨h1, h2⟩ := guard_run ht
    obtain ⟨l, rfl, h3⟩ := okI_some h1
    injection h2 with h2 h4
    exact ⟨l, rfl, h3, by rw [← h2, countD, itsOf_enc], h4.symm⟩
  · cases h
theorem fC_zero {args : List AV} {t : T (AV × Mem)} {r : AV} {m : Mem} (h : fC 0 args = some t) (ht : t.run = some (r, m)) : False := by
  obtain ⟨l, _, h2, _⟩ := fC_some h ht
  exact Nat.not_lt_zero _ h2.2.2
theorem fCA_fC {args : List AV} {t : T (AV × Mem)} {r : AV} {m : Mem} (h : fCA args = some t) (ht : t.run = some (r, m)) : ∃ d t', fC d args = some t' ∧ t'.run = some (r, m) := by
  unfold fCA at h
  split at h
  · injection h with h; subst h
    obtain ⟨h1, h2⟩ := guard_run ht
    obtain ⟨d, h3⟩ := okA_okI h1
    exact ⟨d, _, rfl, by simp only [T.run, h3, h2, cond_true]⟩
  · cases h
theorem fC_enc {d : Nat} {l : List It} (h : Ok d l) : fC d [.s (.d (encI l))] = some (.ite (okI d (encI l)) (.ret (vI (countD (encI l)), [])) .fail) := rfl

/-! ### The program's -/
noncomputable def C8 (d : Nat) : Ctx := { XB with mprim := addPr XB.mprim 8 (fC d) }
def hd8 (l : List It) (n i : Int) : St := ⟨nas 3 ++ [vI n] ++ nas 4 ++ [.s (.d (opnI l)), vI l.length, vI i] ++ nas 10, []⟩
theorem count_i (d k : Nat) (l : List It) (n i : Int) : (loopF (C8 d) (k + 1) 8 0 3 (hd8 l n i)).run =
    bif decide (i < l.length) then bif decide (0 ≤ i) && decide (i < l.length) then bif okI d (encI (iAt l i.toNat).kids) then
      (loopF (C8 d) k 8 0 3 (hd8 l (IntKind.i64.wrap (n + countD (encI (iAt l i.toNat).kids))) (IntKind.i64.wrap (i + 1)))).run
    else none else none else some (.ex 0, ⟨nas 3 ++ [vI n] ++ nas 17, []⟩) := by kernel_rfl
theorem count_loop {d : Nat} {l : List It} (hl : Ok (d + 1) l) : ∀ (m i : Nat) (n : Int), i + m = l.length →
    (loopF (C8 d) (m + 1) 8 0 3 (hd8 l n i)).run = some (.ex 0, ⟨nas 3 ++ [vI (cntG (l.drop i) n)] ++ nas 17, []⟩) := by
  have hl0 := hl.1
  intro m
  induction m with
  | zero =>
    intro i n h
    rw [count_i]
    have : decide ((i : Int) < l.length) = false := by rw [decide_eq_false_iff_not]; omega
    rw [this, List.drop_of_length_le (by omega)]
    rfl
  | succ m ih =>
    intro i n h
    have hi : i < l.length := by omega
    have e1 : decide ((i : Int) < l.length) = true := by rw [decide_eq_true_eq]; omega
    have e2 : decide ((0 : Int) ≤ i) = true := by rw [decide_eq_true_eq]; omega
    have e3 : IntKind.i64.wrap ((i : Int) + 1) = ((i + 1 : Nat) : Int) := by rw [wrap_id (by omega) (by omega)]; rfl
    rw [count_i, e3]
    simp only [e1, e2, Int.toNat_natCast, okI_enc (hl.kids hi), Bool.and_self, cond_true, ih (i + 1) _ (by omega)]
    rw [drop_iAt l i hi, cntG, cnt_kids, countD, itsOf_enc]
def rs8 (n : Int) : Ex × St := (.ex 0, ⟨nas 3 ++ [vI n] ++ nas 17, []⟩)
noncomputable def L8 (d : Nat) : Ctx := { C8 d with lp := addLp (C8 d).lp 8 3 0 (lpOf (fun l => hd8 l l.length 0) (Ok (d + 1)) fun s => .ret (rs8 (countI (lOf (nthA s.env 8))))) }
theorem goodL8 {d : Nat} (h : Sx.Good Try.prog (C8 d)) : Sx.Good Try.prog (L8 d) :=
  h.loop1 8 3 0 _ _ _ (by kernel_rfl) fun l hl => ⟨l.length + 1, by
    rw [show (0 : Int) = ((0 : Nat) : Int) from rfl, count_loop hl l.length 0 l.length (by omega)]
    show some _ = some (rs8 (countI (lOf (.s (.d (opnI l))))))
    rw [lOf_opn]; rfl⟩
theorem count_f (d : Nat) (l : List It) : (callF (L8 d) 100 8 [.s (.d (opnI l))] []).run =
    bif isHd (fun l => hd8 l l.length 0) (Ok (d + 1)) (hd8 l l.length 0) then some (vI (countI (lOf (.s (.d (opnI l))))), []) else none := by kernel_rfl
theorem good8 : Sx.Good Try.prog { XB with mprim := addPr XB.mprim 8 fCA } :=
  goodB.recAll (f := fC) (fun _ _ _ _ h ht => fC_zero h ht) (fun d hd args t r m h ht => by
    obtain ⟨l, rfl, h2, rfl, rfl⟩ := fC_some h ht
    refine CallSome.glob_eq (X := L8 d) (X' := XB) rfl (CallSome.le ?_ (le_one (enc_opn l)))
    refine (goodL8 hd).call (k := 100) ?_
    rw [← callF_eq, count_f, isHd_true (hd := fun l => hd8 l l.length 0) h2, lOf_opn]
    rfl) fCA fun _ _ _ _ h ht => fCA_fC h ht

/-! ### The specification's -/
noncomputable def G8 : Ctx := { XB with mprim := addPr XB.mprim 8 fCA }
theorem goodG8 : Sx.Good Try.prog G8 := good8
noncomputable def C15 (d : Nat) : Ctx := { G8 with mprim := addPr G8.mprim 15 (fC d) }
def hd15 (l : List It) (n i : Int) : St := ⟨[.s (.d (opnI l)), na, na, vI n, vI i] ++ nas 17, []⟩
def rs15 (n : Int) : Ex × St := (.ex 0, ⟨nas 3 ++ [vI n] ++ nas 18, []⟩)
theorem rcount_i (d k : Nat) (l : List It) (n i : Int) : (loopF (C15 d) (k + 1) 15 0 3 (hd15 l n i)).run =
    bif decide (i < l.length) then bif decide (0 ≤ i) && decide (i < l.length) then bif okI d (encI (iAt l i.toNat).kids) then
      (loopF (C15 d) k 15 0 3 (hd15 l (IntKind.i64.wrap (n + countD (encI (iAt l i.toNat).kids))) (IntKind.i64.wrap (i + 1)))).run
    else none else none else some (rs15 n) := by kernel_rfl
theorem rcount_loop {d : Nat} {l : List It} (hl : Ok (d + 1) l) : ∀ (m i : Nat) (n : Int), i + m = l.length →
    (loopF (C15 d) (m + 1) 15 0 3 (hd15 l n i)).run = some (rs15 (cntG (l.drop i) n)) := by
  have hl0 := hl.1
  intro m
  induction m with
  | zero =>
    intro i n h
    rw [rcount_i]
    have : decide ((i : Int) < l.length) = false := by rw [decide_eq_false_iff_not]; omega
    rw [this, List.drop_of_length_le (by omega)]
    rfl
  | succ m ih =>
    intro i n h
    have hi : i < l.length := by omega
    have e1 : decide ((i : Int) < l.length) = true := by rw [decide_eq_true_eq]; omega
    have e2 : decide ((0 : Int) ≤ i) = true := by rw [decide_eq_true_eq]; omega
    have e3 : IntKind.i64.wrap ((i : Int) + 1) = ((i + 1 : Nat) : Int) := by rw [wrap_id (by omega) (by omega)]; rfl
    rw [rcount_i, e3]
    simp only [e1, e2, Int.toNat_natCast, okI_enc (hl.kids hi), Bool.and_self, cond_true, ih (i + 1) _ (by omega)]
    rw [drop_iAt l i hi, cntG, cnt_kids, countD, itsOf_enc]
noncomputable def L15 (d : Nat) : Ctx := { C15 d with lp := addLp (C15 d).lp 15 3 0 (lpOf (fun l => hd15 l l.length 0) (Ok (d + 1)) fun s => .ret (rs15 (countI (lOf (nthA s.env 0))))) }
theorem goodL15 {d : Nat} (h : Sx.Good Try.prog (C15 d)) : Sx.Good Try.prog (L15 d) :=
  h.loop1 15 3 0 _ _ _ (by kernel_rfl) fun l hl => ⟨l.length + 1, by
    rw [show (0 : Int) = ((0 : Nat) : Int) from rfl, rcount_loop hl l.length 0 l.length (by omega)]
    show some _ = some (rs15 (countI (lOf (.s (.d (opnI l))))))
    rw [lOf_opn]; rfl⟩
theorem rcount_f (d : Nat) (l : List It) : (callF (L15 d) 100 15 [.s (.d (opnI l))] []).run =
    bif isHd (fun l => hd15 l l.length 0) (Ok (d + 1)) (hd15 l l.length 0) then some (vI (countI (lOf (.s (.d (opnI l))))), []) else none := by kernel_rfl
noncomputable def G15 : Ctx := { G8 with mprim := addPr G8.mprim 15 fCA }
theorem goodG15 : Sx.Good Try.prog G15 :=
  goodG8.recAll (f := fC) (fun _ _ _ _ h ht => fC_zero h ht) (fun d hd args t r m h ht => by
    obtain ⟨l, rfl, h2, rfl, rfl⟩ := fC_some h ht
    refine CallSome.glob_eq (X := L15 d) (X' := G8) rfl (CallSome.le ?_ (le_one (enc_opn l)))
    refine (goodL15 hd).call (k := 100) ?_
    rw [← callF_eq, rcount_f, isHd_true (hd := fun l => hd15 l l.length 0) h2, lOf_opn]
    rfl) fCA fun _ _ _ _ h ht => fCA_fC h ht
end Go.Proofs.Ytchgegcndcdleaa
