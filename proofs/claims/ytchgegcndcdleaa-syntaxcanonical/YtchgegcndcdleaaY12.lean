/- The specification's text of statements: the function. -/
import Derived.Test.YtchgegcndcdleaaY11
set_option linter.unusedVariables false
set_option linter.unusedSimpArgs false
set_option linter.unusedSectionVars false
namespace Go.Proofs.Ytchgegcndcdleaa
open Go Go.Sx
/-- Is the text short enough? -/
def okF (l : List It) (d : Int) : Bool := (decide (0 ≤ d) && decide (d + depthL l ≤ 1000)) && decide ((fL (spL d.toNat) l).length ≤ 4611686018427387904)
theorem okF_true {l : List It} {d : Nat} (h : d + depthL l ≤ 1000) (h2 : (fL (spL d) l).length ≤ 4611686018427387904) : okF l d = true := by
  simp only [okF, Bool.and_eq_true, decide_eq_true_eq, Int.toNat_natCast]
  exact ⟨⟨by omega, by omega⟩, h2⟩
theorem okF_some {l : List It} {d : Int} (h : okF l d = true) : ∃ n : Nat, d = n ∧ n + depthL l ≤ 1000 ∧ (fL (spL n) l).length ≤ 4611686018427387904 := by
  simp only [okF, Bool.and_eq_true, decide_eq_true_eq] at h
  exact ⟨d.toNat, by omega, by omega, h.2⟩
def txt (l : List It) (d : Int) : ByteArray := bs (fL (spL d.toNat) l)
noncomputable def fF (dd : Nat) : Says
  | [.c (.s (.d x)), .c (.s (.d (.c (.int .i64 d))))] => some (.ite (okI dd x && okF (itsOf x) d) (.ret (vS (txt (itsOf x) d), [])) .fail)
  | _ => none
noncomputable def fFA : Says
  | [.c (.s (.d x)), .c (.s (.d (.c (.int .i64 d))))] => some (.ite (okA x && okF (itsOf x) d) (.ret (vS (txt (itsOf x) d), [])) .fail)
  | _ => none
theorem fF_some {dd : Nat} {args : List AV} {t : T (AV × Mem)} {r : AV} {m : Mem} (h : fF dd args = some t) (ht : t.run = some (r, m)) :
    ∃ (l : List It) (d : Nat), args = [.s (.d (encI l)), vI d] ∧ Ok dd l ∧ d + depthL l ≤ 1000 ∧ (fL (spL d) l).length ≤ 4611686018427387904 ∧ r = vS (bs (fL (spL d) l)) ∧ m = [] := by
  unfold fF at h
  split at h
  · rename_i x d
    injection h with h; subst h
    obtain ⟨h1, h2⟩ := guard_run ht
    rw [Bool.and_eq_true] at h1
    obtain ⟨l, rfl, h3⟩ := okI_some h1.1
    injection h2 with h6 h7
    rw [itsOf_enc] at h6 h1
    obtain ⟨n, rfl, h8, h9⟩ := okF_some h1.2
    exact ⟨l, n, rfl, h3, h8, h9, h6.symm, h7.symm⟩
  · cases h
theorem fF_zero {args : List AV} {t : T (AV × Mem)} {r : AV} {m : Mem} (h : fF 0 args = some t) (ht : t.run = some (r, m)) : False := by
  obtain ⟨l, d, _, h2, _⟩ := fF_some h ht
  exact Nat.not_lt_zero _ h2.2.2
theorem fFA_fF {args : List AV} {t : T (AV × Mem)} {r : AV} {m : Mem} (h : fFA args = some t) (ht : t.run = some (r, m)) : ∃ d t', fF d args = some t' ∧ t'.run = some (r, m) := by
  unfold fFA at h
  split at h
  · injection h with h; subst h
    obtain ⟨h1, h2⟩ := guard_run ht
    rw [Bool.and_eq_true] at h1
    obtain ⟨d, h3⟩ := okA_okI h1.1
    exact ⟨d, _, rfl, by simp only [T.run, h3, h1.2, h2, Bool.and_self, cond_true]⟩
  · cases h
noncomputable def C29 (dd : Nat) : Ctx := { Lw29 with mprim := addPr Lw29.mprim 29 (fF dd) }
def hdo29 (l : List It) (d : Int) (bl out : ByteArray) (i : Int) : St := ⟨[.s (.d (opnI l)), vI d, na, na, na, vS bl, na, vS out, vI i] ++ nas 75, []⟩
theorem ro_i (dd k : Nat) (l : List It) (d : Int) (bl out : ByteArray) (i : Int) : (loopF (C29 dd) (k + 1) 29 0 8 (hdo29 l d bl out i)).run =
    bif decide (i < l.length) then bif szOk out.size bl.size then bif isHd hdpw29 prew (hdpw29 ⟨l, d, bl, out ++ bl, i⟩) then
      bif decide (0 ≤ i) && decide (i < l.length) then bif !(iAt l i.toNat).block then
        bif szOk (outW (lOf (.s (.d (opnI l)))) (out ++ bl) i).size 2 then (loopF (C29 dd) k 29 0 8 (hdo29 l d bl (outW (lOf (.s (.d (opnI l)))) (out ++ bl) i ++ bs [59, 10]) (IntKind.i64.wrap (i + 1)))).run else none
      else bif szOk (outW (lOf (.s (.d (opnI l)))) (out ++ bl) i).size 3 then bif decide (0 ≤ i) && decide (i < l.length) then bif okI dd (encI (iAt l i.toNat).kids) && okF (itsOf (encI (iAt l i.toNat).kids)) (IntKind.i64.wrap (d + 1)) then
        bif szOk (outW (lOf (.s (.d (opnI l)))) (out ++ bl) i ++ bs [32, 123, 10]).size (txt (itsOf (encI (iAt l i.toNat).kids)) (IntKind.i64.wrap (d + 1))).size then
        bif szOk (outW (lOf (.s (.d (opnI l)))) (out ++ bl) i ++ bs [32, 123, 10] ++ txt (itsOf (encI (iAt l i.toNat).kids)) (IntKind.i64.wrap (d + 1))).size bl.size then
        bif szOk (outW (lOf (.s (.d (opnI l)))) (out ++ bl) i ++ bs [32, 123, 10] ++ txt (itsOf (encI (iAt l i.toNat).kids)) (IntKind.i64.wrap (d + 1)) ++ bl).size 2 then
          (loopF (C29 dd) k 29 0 8 (hdo29 l d bl (outW (lOf (.s (.d (opnI l)))) (out ++ bl) i ++ bs [32, 123, 10] ++ txt (itsOf (encI (iAt l i.toNat).kids)) (IntKind.i64.wrap (d + 1)) ++ bl ++ bs [125, 10]) (IntKind.i64.wrap (i + 1)))).run
        else none else none else none else none else none else none
      else none else none else none
    else some (.ex 2, ⟨nas 7 ++ [vS out] ++ nas 76, []⟩) := by kernel_rfl
theorem fitW_at {d : Nat} {l : List It} (h : Ok d l) {i : Nat} (hi : i < l.length) : (iAt l i).words.length ≤ 9223372036854775807 := by
  have h1 := fitL_at l i h.2.1 hi
  rw [fitI_eq] at h1
  exact h1.2.1.1
theorem ro_loop {dd : Nat} {l : List It} (hl : Ok (dd + 1) l) (d : Nat) (hd : d + depthL l ≤ 1000) : ∀ (m i : Nat) (out : List UInt8), i + m = l.length →
    out.length + (fL (spL d) (l.drop i)).length ≤ 4611686018427387904 →
    (loopF (C29 dd) (m + 1) 29 0 8 (hdo29 l d (bs (spL d)) (bs out) i)).run = some (.ex 2, ⟨nas 7 ++ [vS (bs (out ++ fL (spL d) (l.drop i)))] ++ nas 76, []⟩) := by
  have hl0 := hl.1
  intro m
  induction m with
  | zero =>
    intro i out h hs
    rw [ro_i]
    have : decide ((i : Int) < l.length) = false := by rw [decide_eq_false_iff_not]; omega
    rw [this, List.drop_of_length_le (by omega)]
    simp only [fL, List.append_nil]
    rfl
  | succ m ih =>
    intro i out h hs
    have hi : i < l.length := by omega
    have hdp := depth_at l i hi
    have e1 : decide ((i : Int) < l.length) = true := by rw [decide_eq_true_eq]; omega
    have e2 : decide ((0 : Int) ≤ i) = true := by rw [decide_eq_true_eq]; omega
    have e3 : IntKind.i64.wrap ((i : Int) + 1) = ((i + 1 : Nat) : Int) := by rw [wrap_id (by omega) (by omega)]; rfl
    have e4 : IntKind.i64.wrap ((d : Int) + 1) = ((d + 1 : Nat) : Int) := by rw [wrap_id (by omega) (by omega)]; rfl
    rw [drop_iAt l i hi] at hs ⊢
    simp only [fL, fI_eq, List.length_append] at hs ⊢
    rw [ro_i, e3, e4]
    have hw : isHd hdpw29 prew (hdpw29 ⟨l, d, bs (spL d), bs out ++ bs (spL d), i⟩) = true := isHd_true ⟨i, rfl, hi, fitW_at hl hi, by
      show (bs out ++ bs (spL d)).size + (wsJ (iAt l i).words false).length ≤ 9223372036854775807
      rw [bs_app, bs_size, List.length_append]
      omega⟩
    have ho : outW (lOf (.s (.d (opnI l)))) (bs out ++ bs (spL d)) i = bs (out ++ spL d ++ wsJ (iAt l i).words false) := by
      rw [lOf_opn, bs_app]; rfl
    simp only [e1, e2, hw, ho, Int.toNat_natCast, Bool.and_self, cond_true, itsOf_enc]
    rw [szOk_true (by simp only [bs_size]; omega)]
    cases hb : (iAt l i).block
    · rw [hb] at hs
      simp only [cond_false, List.length_cons, List.length_nil] at hs
      rw [szOk_true (by simp only [bs_size, List.length_append]; omega), bs_app]
      simp only [Bool.not_false, cond_true, cond_false]
      rw [ih (i + 1) _ (by omega) (by simp only [List.length_append, List.length_cons, List.length_nil]; omega)]
      simp only [List.append_assoc]
    · rw [hb] at hs
      simp only [cond_true, List.length_cons, List.length_nil, List.length_append] at hs
      have hk : okI dd (encI (iAt l i).kids) = true := okI_enc (hl.kids hi)
      have hf : okF (iAt l i).kids ((d + 1 : Nat) : Int) = true := okF_true (by omega) (by simp only [spL]; omega)
      have ht : txt (iAt l i).kids ((d + 1 : Nat) : Int) = bs (fL (spL d ++ [32, 32]) (iAt l i).kids) := rfl
      simp only [hk, hf, ht, Bool.not_true, cond_false, Bool.and_self, cond_true, bs_app, bs_size]
      rw [szOk_true (by simp only [List.length_append]; omega), szOk_true (by simp only [List.length_append, List.length_cons, List.length_nil]; omega),
        szOk_true (by simp only [List.length_append, List.length_cons, List.length_nil]; omega), szOk_true (by simp only [List.length_append, List.length_cons, List.length_nil]; omega)]
      simp only [cond_true]
      rw [ih (i + 1) _ (by omega) (by simp only [List.length_append, List.length_cons, List.length_nil]; omega)]
      simp only [List.append_assoc]
structure FoA where
  l : List It
  d : Nat
abbrev hdpo29 (p : FoA) : St := hdo29 p.l p.d (bs (spL p.d)) ByteArray.empty 0
def preo (dd : Nat) (p : FoA) : Prop := Ok (dd + 1) p.l ∧ p.d + depthL p.l ≤ 1000 ∧ (fL (spL p.d) p.l).length ≤ 4611686018427387904
noncomputable def L29 (dd : Nat) : Ctx := { C29 dd with lp := addLp (C29 dd).lp 29 8 0 (lpOf hdpo29 (preo dd) fun s => .ret (.ex 2, ⟨nas 7 ++ [vS (txt (lOf (nthA s.env 0)) (intV (nthA s.env 1)))] ++ nas 76, []⟩)) }
theorem goodL29 {dd : Nat} (h : Sx.Good Try.prog (C29 dd)) : Sx.Good Try.prog (L29 dd) :=
  h.loop1 29 8 0 _ _ _ (by kernel_rfl) fun p hp => ⟨p.l.length + 1, by
    have := ro_loop hp.1 p.d hp.2.1 p.l.length 0 [] (by omega) (by simpa using hp.2.2)
    rw [show hdpo29 p = hdo29 p.l p.d (bs (spL p.d)) (bs []) ((0 : Nat) : Int) from rfl, this]
    show _ = some ((.ex 2, ⟨nas 7 ++ [vS (txt (lOf (.s (.d (opnI p.l)))) (p.d : Int))] ++ nas 76, []⟩) : Ex × St)
    rw [lOf_opn]
    rfl⟩
theorem rfmt_f (dd : Nat) (l : List It) (d : Nat) : (callF (L29 dd) 100 29 [.s (.d (opnI l)), vI d] []).run =
    bif isHd hdpb29 (fun p => p.2 ≤ 1000) (hdpb29 (l, d)) then bif isHd hdpo29 (preo dd) (hdpo29 ⟨l, d⟩) then some (vS (txt (lOf (.s (.d (opnI l)))) d), []) else none else none := by kernel_rfl
noncomputable def G29 : Ctx := { Lw29 with mprim := addPr Lw29.mprim 29 fFA }
theorem goodG29 : Sx.Good Try.prog G29 :=
  goodLw29.recAll (f := fF) (fun _ _ _ _ h ht => fF_zero h ht) (fun dd hd args t r m h ht => by
    obtain ⟨l, d, rfl, h2, h3, h4, rfl, rfl⟩ := fF_some h ht
    refine CallSome.glob_eq (X := L29 dd) (X' := Lw29) rfl (CallSome.le ?_ (le_hd (enc_opn l)))
    refine (goodL29 hd).call (k := 100) ?_
    rw [← callF_eq, rfmt_f, isHd_true (hd := hdpb29) (pre := fun p => p.2 ≤ 1000) (a := (l, d)) (show d ≤ 1000 by omega), isHd_true (hd := hdpo29) (pre := preo dd) (a := ⟨l, d⟩) ⟨h2, h3, h4⟩, lOf_opn]
    rfl) fFA fun _ _ _ _ h ht => fFA_fF h ht
theorem rformat_f (x : D) : (callF G29 100 14 [.s (.d x)] []).run = bif okA x then bif !(errD x == 0) then some (vS ByteArray.empty, []) else bif okA x && okF (itsOf x) 0 then some (vS (txt (itsOf x) 0), []) else none else none := by kernel_rfl
end Go.Proofs.Ytchgegcndcdleaa
