/- The program's text of statements: the function. -/
import Derived.Test.YtchgegcndcdleaaY16
set_option linter.unusedVariables false
set_option linter.unusedSimpArgs false
set_option linter.unusedSectionVars false
namespace Go.Proofs.Ytchgegcndcdleaa
open Go Go.Sx
abbrev mO (q f : Bool) (r : List (List D)) : Mem := match q, f with
  | false, false => [bldN, cls]
  | false, true => [bldA 2, cls, byR r]
  | true, false => [bldA 2, cls, byR r]
  | true, true => [bldA 3, cls, .dead, byR r]
def wc (q f : Bool) (r : List (List D)) (n : Nat) : Bool := match q, f with
  | false, false => decide (n ≤ big)
  | _, _ => okT r n
def wr (q f : Bool) (r : List (List D)) (t : List UInt8) : List UInt8 := match q, f with
  | false, false => t
  | _, _ => textR r ++ t
noncomputable def fB (dd : Nat) : SaysM := fun args mem => match args, mem with
  | [.c (.s (.d x)), .c (.s (.d (.c (.string ind)))), .c (.s (.ptr 0 0)), .c (.s (.ptr 1 0))], [.cells [.s (.d (.c (.pointer none))), .s (.d (.c (.slice none 0 0)))] (some 57), .cells [.f (.func 22) [] [.ptr 0 0, .ptr 1 0]] (some 58)] =>
    some (.ite (okI dd x && wc false false [] (fL ind.data.toList (itsOf x)).length) (.ite (itsOf x).isEmpty (.ret (.tup [], mO false false [])) (.ret (.tup [], mO false true (rowsT (wr false false [] (fL ind.data.toList (itsOf x))))))) .fail)
  | [.c (.s (.d x)), .c (.s (.d (.c (.string ind)))), .c (.s (.ptr 0 0)), .c (.s (.ptr 1 0))], [.cells [.s (.ptr 0 0), .s (.as 2)] (some 57), .cells [.f (.func 22) [] [.ptr 0 0, .ptr 1 0]] (some 58), .arrD 1 r (some 5)] =>
    some (.ite (okI dd x && wc true false r (fL ind.data.toList (itsOf x)).length) (.ite (itsOf x).isEmpty (.ret (.tup [], mO true false r)) (.ret (.tup [], mO true true (rowsT (wr true false r (fL ind.data.toList (itsOf x))))))) .fail)
  | _, _ => none
noncomputable def C22 (dd : Nat) : Ctx := { Li with mprim := addPrM Li.mprim 22 (fB dd) }
def hdo22 (q f : Bool) (ind : ByteArray) (l : List It) (i : Int) (r : List (List D)) : St :=
  ⟨[na, vS ind, .s (.ptr 0 0), .s (.ptr 1 0)] ++ nas 6 ++ [.s (.d (opnI l)), vI l.length, vI i] ++ nas 42, mO q f r⟩
noncomputable def tailO {α : Type} (dd : Nat) (ind : ByteArray) (x : It) (r : List (List D)) (rec : List (List D) → Option α) : Option α :=
  bif !x.block then bif okT r 2 then rec (rowsT (textR r ++ [59, 10])) else none
  else bif okT r 3 then bif szOk ind.size 2 then bif okI dd (encI x.kids) && okT (rowsT (textR r ++ [32, 123, 10])) (fL (ind ++ bs [32, 32]).data.toList (itsOf (encI x.kids))).length then
    bif (itsOf (encI x.kids)).isEmpty then bif szOk ind.size 2 then bif okT (rowsT (textR r ++ [32, 123, 10])) (ind ++ bs [125, 10]).size then rec (rowsT (textR (rowsT (textR r ++ [32, 123, 10])) ++ (ind ++ bs [125, 10]).data.toList)) else none else none
    else bif szOk ind.size 2 then bif okT (rowsT (textR (rowsT (textR r ++ [32, 123, 10])) ++ fL (ind ++ bs [32, 32]).data.toList (itsOf (encI x.kids)))) (ind ++ bs [125, 10]).size then
      rec (rowsT (textR (rowsT (textR (rowsT (textR r ++ [32, 123, 10])) ++ fL (ind ++ bs [32, 32]).data.toList (itsOf (encI x.kids)))) ++ (ind ++ bs [125, 10]).data.toList)) else none else none
    else none else none else none
theorem out_i (q f : Bool) (dd k : Nat) (ind : ByteArray) (l : List It) (i : Int) (r : List (List D)) : (loopF (C22 dd) (k + 1) 22 (mq q) 1 (hdo22 q f ind l i r)).run =
    bif decide (i < l.length) then bif decide (0 ≤ i) && decide (i < l.length) then bif wc q f r ind.size then
      bif isHd (hdpi q) prei (hdpi q ⟨ind, opnI l, l.length, i, (iAt l i.toNat).line, (iAt l i.toNat).words, (iAt l i.toNat).block, (iAt l i.toNat).kids.length, fun j => rowL (iAt l i.toNat).kids j, rowsT (wr q f r ind.data.toList)⟩) then
        tailO dd ind (iAt l i.toNat) (rowsT (textR (rowsT (wr q f r ind.data.toList)) ++ wsJ (wOf (.s (.d (encW (iAt l i.toNat).words)))) false)) fun r => (loopF (C22 dd) k 22 (mq q) 1 (hdo22 q true ind l (IntKind.i64.wrap (i + 1)) r)).run
      else none else none else none else some (.ex 0, ⟨nas 55, mO q f r⟩) := by
  cases q <;> cases f
  · kernel_rfl
  · kernel_rfl
  · kernel_rfl
  · kernel_rfl
def tlO (il : List UInt8) (x : It) : List UInt8 := bif x.block then [32, 123, 10] ++ fL (il ++ [32, 32]) x.kids ++ il ++ [125, 10] else [59, 10]
theorem fI_tl (il : List UInt8) (x : It) : fI il x = il ++ wsJ x.words false ++ tlO il x := by rw [fI_eq]; rfl
theorem tailO_ok {α : Type} {dd : Nat} (il : List UInt8) (x : It) (t : List UInt8) (rec : List (List D) → Option α) (hk : okI dd (encI x.kids) = true) (hi : il.length ≤ big) (h : t.length + (tlO il x).length ≤ big) :
    tailO dd (bs il) x (rowsT t) rec = rec (rowsT (t ++ tlO il x)) := by
  have hb := big_le
  unfold tailO
  unfold tlO at h ⊢
  cases hx : x.block
  · rw [hx] at h
    simp only [cond_false, List.length_cons, List.length_nil] at h
    rw [okT_true (by omega), textR_rowsT]
    rfl
  · rw [hx] at h
    simp only [cond_true, List.length_append, List.length_cons, List.length_nil] at h
    simp only [textR_rowsT, itsOf_enc, bs_app, hk, Bool.true_and, bs_size]
    have e1 : (bs (il ++ [32, 32])).data.toList = il ++ [32, 32] := rfl
    have e2 : (bs (il ++ [125, 10])).data.toList = il ++ [125, 10] := rfl
    have o1 : okT (rowsT t) 3 = true := okT_true (by omega)
    have o2 : okT (rowsT (t ++ [32, 123, 10])) (fL (il ++ [32, 32]) x.kids).length = true := okT_true (by simp only [List.length_append, List.length_cons, List.length_nil]; omega)
    have o3 : okT (rowsT (t ++ [32, 123, 10])) (il ++ [125, 10]).length = true := okT_true (by simp only [List.length_append, List.length_cons, List.length_nil]; omega)
    have o4 : okT (rowsT (t ++ [32, 123, 10] ++ fL (il ++ [32, 32]) x.kids)) (il ++ [125, 10]).length = true := okT_true (by simp only [List.length_append, List.length_cons, List.length_nil]; omega)
    rw [e1, e2, o1, szOk_true (by omega), o2, o3, o4]
    simp only [Bool.not_true, cond_true, cond_false]
    cases hn : x.kids with
    | nil => simp only [List.isEmpty_nil, cond_true, fL, List.append_nil, List.append_assoc]
    | cons a k =>
      rw [hn] at *
      simp only [List.isEmpty_cons, cond_false, List.append_assoc]
def tx (q f : Bool) (r : List (List D)) : List UInt8 := match q, f with
  | false, false => []
  | _, _ => textR r
theorem wr_eq (q f : Bool) (r : List (List D)) (t : List UInt8) : wr q f r t = tx q f r ++ t := by cases q <;> cases f <;> rfl
theorem wc_true {q f : Bool} {r : List (List D)} {n : Nat} (hr : r.all isByte = true) (h : (tx q f r).length + n ≤ big) : wc q f r n = true := by
  have e : (textR r).length = r.length := by simp [textR]
  cases q <;> cases f <;> simp only [wc, tx, okT, hr, Bool.true_and, decide_eq_true_eq, e, List.length_nil] at h ⊢ <;> omega
def rsO (q f : Bool) (r : List (List D)) (t : List UInt8) (e : Bool) : T (Ex × St) := .ite e (.ret (.ex 0, ⟨nas 55, mO q f r⟩)) (.ret (.ex 0, ⟨nas 55, mO q true (rowsT (wr q f r t))⟩))
theorem out_loop {dd : Nat} (q : Bool) (il : List UInt8) {l : List It} (hl : Ok (dd + 1) l) : ∀ (m i : Nat) (f : Bool) (r : List (List D)), r.all isByte = true → i + m = l.length → (tx q f r).length + (fL il (l.drop i)).length ≤ big →
    (loopF (C22 dd) (m + 1) 22 (mq q) 1 (hdo22 q f (bs il) l i r)).run = (rsO q f r (fL il (l.drop i)) (l.drop i).isEmpty).run := by
  have hl0 := hl.1
  have hb := big_le
  intro m
  induction m with
  | zero =>
    intro i f r hr h hs
    rw [out_i]
    have : decide ((i : Int) < l.length) = false := by rw [decide_eq_false_iff_not]; omega
    rw [this, List.drop_of_length_le (by omega)]
    rfl
  | succ m ih =>
    intro i f r hr h hs
    have hi : i < l.length := by omega
    have e1 : decide ((i : Int) < l.length) = true := by rw [decide_eq_true_eq]; omega
    have e2 : decide ((0 : Int) ≤ i) = true := by rw [decide_eq_true_eq]; omega
    have e3 : IntKind.i64.wrap ((i : Int) + 1) = ((i + 1 : Nat) : Int) := by rw [wrap_id (by omega) (by omega)]; rfl
    have e0 : (bs il).data.toList = il := rfl
    rw [drop_iAt l i hi] at hs ⊢
    simp only [fL, fI_tl, List.length_append] at hs ⊢
    rw [out_i, e3]
    have hw : isHd (hdpi q) prei (hdpi q ⟨bs il, opnI l, l.length, i, (iAt l i).line, (iAt l i).words, (iAt l i).block, (iAt l i).kids.length, fun j => rowL (iAt l i).kids j, rowsT (wr q f r il)⟩) = true := isHd_true ⟨isByte_rowsT _, fitW_at hl hi, by
      show (rowsT (wr q f r il)).length + (wsJ (iAt l i).words false).length ≤ big
      rw [rowsT_len, wr_eq, List.length_append]
      omega⟩
    simp only [e0, e1, e2, hw, Int.toNat_natCast, Bool.and_self, cond_true, wOf_enc, textR_rowsT]
    rw [wc_true hr (by rw [bs_size]; omega), tailO_ok il (iAt l i) _ _ (okI_enc (hl.kids hi)) (by omega) (by rw [wr_eq]; simp only [List.length_append]; omega)]
    simp only [cond_true]
    rw [ih (i + 1) true _ (isByte_rowsT _) (by omega) (by
      rw [show tx q true (rowsT (wr q f r il ++ wsJ (iAt l i).words false ++ tlO il (iAt l i))) = wr q f r il ++ wsJ (iAt l i).words false ++ tlO il (iAt l i) by cases q <;> exact textR_rowsT _, wr_eq]
      simp only [List.length_append]; omega)]
    have key : wr q f r il ++ wsJ (iAt l i).words false ++ tlO il (iAt l i) ++ fL il (l.drop (i + 1)) = wr q f r (il ++ wsJ (iAt l i).words false ++ tlO il (iAt l i) ++ fL il (l.drop (i + 1))) := by
      rw [wr_eq, wr_eq]; simp only [List.append_assoc]
    unfold rsO
    rw [show wr q true (rowsT (wr q f r il ++ wsJ (iAt l i).words false ++ tlO il (iAt l i))) (fL il (l.drop (i + 1))) = wr q f r (il ++ wsJ (iAt l i).words false ++ tlO il (iAt l i) ++ fL il (l.drop (i + 1))) by
      rw [← key]; cases q <;> simp only [wr, textR_rowsT]]
    cases hn : (l.drop (i + 1)) with
    | nil =>
      simp only [List.isEmpty_nil, List.isEmpty_cons, T.run, cond_true, cond_false, fL, List.append_nil]
      rw [hn] at key
      simp only [fL, List.append_nil] at key
      rw [key]
    | cons a b => simp only [List.isEmpty_cons, T.run, cond_false]
structure FoB where
  ind : ByteArray
  l : List It
  r : List (List D)
abbrev hdpo (q : Bool) (p : FoB) : St := hdo22 q false p.ind p.l 0 p.r
def preO (q : Bool) (dd : Nat) (p : FoB) : Prop := Ok (dd + 1) p.l ∧ p.r.all isByte = true ∧ (tx q false p.r).length + (fL p.ind.data.toList p.l).length ≤ big
noncomputable def resO (s : St) : T (Ex × St) := match s.mem with
  | [.cells [.s (.d (.c (.pointer none))), .s (.d (.c (.slice none 0 0)))] (some 57), .cells [.f (.func 22) [] [.ptr 0 0, .ptr 1 0]] (some 58)] => rsO false false [] (fL (strV (nthA s.env 1)).data.toList (lOf (nthA s.env 10))) (lOf (nthA s.env 10)).isEmpty
  | [_, _, .arrD 1 r (some 5)] => rsO true false r (fL (strV (nthA s.env 1)).data.toList (lOf (nthA s.env 10))) (lOf (nthA s.env 10)).isEmpty
  | _ => .fail
theorem resO_eq (q : Bool) (dd : Nat) (p : FoB) (hp : preO q dd p) : (loopF (C22 dd) (p.l.length + 1) 22 (mq q) 1 (hdpo q p)).run = (resO (hdpo q p)).run := by
  have h := out_loop q p.ind.data.toList hp.1 p.l.length 0 false p.r hp.2.1 (by omega) hp.2.2
  rw [show hdpo q p = hdo22 q false (bs p.ind.data.toList) p.l ((0 : Nat) : Int) p.r from rfl, h]
  cases q
  · show _ = (rsO false false [] (fL p.ind.data.toList (lOf (.s (.d (opnI p.l))))) (lOf (.s (.d (opnI p.l)))).isEmpty).run
    rw [lOf_opn]; rfl
  · show _ = (rsO true false p.r (fL p.ind.data.toList (lOf (.s (.d (opnI p.l))))) (lOf (.s (.d (opnI p.l)))).isEmpty).run
    rw [lOf_opn]; rfl
noncomputable def L22 (dd : Nat) : Ctx := { C22 dd with lp := addLp (addLp (C22 dd).lp 22 1 2 (lpOf (hdpo false) (preO false dd) resO)) 22 1 3 (lpOf (hdpo true) (preO true dd) resO) }
theorem goodL22 {dd : Nat} (h : Sx.Good Try.prog (C22 dd)) : Sx.Good Try.prog (L22 dd) := h.loop2 22 1 2 3 _ _ _ _ _ _ (by kernel_rfl) (fun p hp => ⟨_, resO_eq false dd p hp⟩) fun p hp => ⟨_, resO_eq true dd p hp⟩
theorem fmt_f (q : Bool) (dd : Nat) (l : List It) (ind : ByteArray) (r : List (List D)) : (callF (L22 dd) 100 22 [.s (.d (opnI l)), vS ind, .s (.ptr 0 0), .s (.ptr 1 0)] (mO q false r)).run =
    bif isHd (hdpo q) (preO q dd) (hdpo q ⟨ind, l, r⟩) then bif (lOf (.s (.d (opnI l)))).isEmpty then some (.tup [], mO q false r) else some (.tup [], mO q true (rowsT (wr q false r (fL ind.data.toList (lOf (.s (.d (opnI l)))))))) else none := by
  cases q
  · kernel_rfl
  · kernel_rfl
noncomputable def fBA : SaysM := fun args mem => match args, mem with
  | [.c (.s (.d x)), .c (.s (.d (.c (.string ind)))), .c (.s (.ptr 0 0)), .c (.s (.ptr 1 0))], [.cells [.s (.d (.c (.pointer none))), .s (.d (.c (.slice none 0 0)))] (some 57), .cells [.f (.func 22) [] [.ptr 0 0, .ptr 1 0]] (some 58)] =>
    some (.ite (okA x && wc false false [] (fL ind.data.toList (itsOf x)).length) (.ite (itsOf x).isEmpty (.ret (.tup [], mO false false [])) (.ret (.tup [], mO false true (rowsT (wr false false [] (fL ind.data.toList (itsOf x))))))) .fail)
  | _, _ => none
theorem wc_some {q : Bool} {r : List (List D)} {n : Nat} (h : wc q false r n = true) : (q = true → r.all isByte = true) ∧ (tx q false r).length + n ≤ big := by
  have e : (textR r).length = r.length := by simp [textR]
  cases q
  · simp only [wc, tx, decide_eq_true_eq, List.length_nil] at h ⊢
    exact ⟨(fun h => Bool.noConfusion h), (by omega)⟩
  · simp only [wc, tx, okT, Bool.and_eq_true, decide_eq_true_eq, e] at h ⊢
    exact ⟨fun _ => h.1, h.2⟩
theorem fB_some {dd : Nat} {args : List AV} {mem : Mem} {t : T (AV × Mem)} {r : AV} {m : Mem} (h : fB dd args mem = some t) (ht : t.run = some (r, m)) :
    ∃ q l ind rr, args = [.s (.d (encI l)), vS ind, .s (.ptr 0 0), .s (.ptr 1 0)] ∧ mem = mO q false rr ∧ preO q (dd - 1) ⟨ind, l, rr⟩ ∧ Ok dd l ∧ r = .tup [] ∧ m = bif l.isEmpty then mO q false rr else mO q true (rowsT (wr q false rr (fL ind.data.toList l))) := by
  have key : ∀ q rr x ind, (T.ite (okI dd x && wc q false rr (fL ind.data.toList (itsOf x)).length) (.ite (itsOf x).isEmpty (.ret (.tup [], mO q false rr)) (.ret (.tup [], mO q true (rowsT (wr q false rr (fL ind.data.toList (itsOf x))))))) .fail : T (AV × Mem)).run = some (r, m) → (q = false → rr = []) →
      ∃ l, x = encI l ∧ preO q (dd - 1) ⟨ind, l, rr⟩ ∧ Ok dd l ∧ r = .tup [] ∧ m = bif l.isEmpty then mO q false rr else mO q true (rowsT (wr q false rr (fL ind.data.toList l))) := fun q rr x ind ht hq => by
    cases hc : (okI dd x && wc q false rr (fL ind.data.toList (itsOf x)).length)
    · rw [hc] at ht; cases ht
    · rw [hc] at ht
      rw [Bool.and_eq_true] at hc
      obtain ⟨l, rfl, h3⟩ := okI_some hc.1
      simp only [T.run, cond_true, itsOf_enc] at ht
      have hc2 := wc_some hc.2
      rw [itsOf_enc] at hc2
      refine ⟨l, rfl, ⟨?_, ?_, hc2.2⟩, h3, ?_⟩
      · exact ⟨h3.1, h3.2.1, by have := h3.2.2; show depthL l < dd - 1 + 1; omega⟩
      · cases q
        · rw [hq rfl]; rfl
        · exact hc2.1 rfl
      · cases hl : l.isEmpty <;> rw [hl] at ht <;> injection ht with ht <;> injection ht with h5 h6 <;> exact ⟨h5.symm, h6.symm⟩
  unfold fB at h
  split at h
  · rename_i x ind
    injection h with h; subst h
    obtain ⟨l, rfl, h1, h2, h3, h4⟩ := key false [] x ind ht fun _ => rfl
    exact ⟨false, l, ind, [], rfl, rfl, h1, h2, h3, h4⟩
  · rename_i x ind rr
    injection h with h; subst h
    obtain ⟨l, rfl, h1, h2, h3, h4⟩ := key true rr x ind ht fun h => by cases h
    exact ⟨true, l, ind, rr, rfl, rfl, h1, h2, h3, h4⟩
  · cases h
theorem fB_zero {args : List AV} {mem : Mem} {t : T (AV × Mem)} {r : AV} {m : Mem} (h : fB 0 args mem = some t) (ht : t.run = some (r, m)) : False := by
  obtain ⟨q, l, ind, rr, _, _, _, h2, _⟩ := fB_some h ht
  exact Nat.not_lt_zero _ h2.2.2
theorem fBA_fB {args : List AV} {mem : Mem} {t : T (AV × Mem)} {r : AV} {m : Mem} (h : fBA args mem = some t) (ht : t.run = some (r, m)) : ∃ d t', fB d args mem = some t' ∧ t'.run = some (r, m) := by
  unfold fBA at h
  split at h
  · rename_i x ind
    injection h with h; subst h
    cases hc : (okA x && wc false false [] (fL ind.data.toList (itsOf x)).length)
    · rw [hc] at ht; cases ht
    · rw [hc] at ht
      rw [Bool.and_eq_true] at hc
      obtain ⟨d, h3⟩ := okA_okI hc.1
      refine ⟨d, _, rfl, ?_⟩
      rw [show (okI d x && wc false false [] (fL ind.data.toList (itsOf x)).length) = true by rw [h3, hc.2]; rfl]
      exact ht
  · cases h
noncomputable def G22 : Ctx := { Li with mprim := addPrM Li.mprim 22 fBA }
theorem goodG22 : Sx.Good Try.prog G22 :=
  goodLi.recAllM (f := fB) (fun _ _ _ _ _ h ht => fB_zero h ht) (fun dd hd args mem t r m h ht => by
    obtain ⟨q, l, ind, rr, rfl, rfl, h1, h2, rfl, rfl⟩ := fB_some h ht
    refine CallSome.glob_eq (X := L22 dd) (X' := Li) rfl (CallSome.le ?_ (le_hd (enc_opn l)))
    refine (goodL22 hd).call (k := 100) ?_
    rw [← callF_eq, fmt_f, isHd_true (hd := hdpo q) (pre := preO q dd) (a := ⟨ind, l, rr⟩) h1, lOf_opn]
    cases l.isEmpty <;> rfl) fBA fun _ _ _ _ _ h ht => fBA_fB h ht
theorem format_f (x : D) : (callF G22 100 10 [.s (.d x)] []).run = bif okA x then bif !(errD x == 0) then some (vS ByteArray.empty, []) else
    bif okA x && wc false false [] (fL [] (itsOf x)).length then bif (itsOf x).isEmpty then some (vS ByteArray.empty, []) else
      bif okT (rowsT (fL [] (itsOf x))) 0 && !(rowsT (fL [] (itsOf x))).isEmpty then some (vS (bs (textR (rowsT (fL [] (itsOf x))))), []) else none else none else none := by kernel_rfl
noncomputable def G10 : Ctx := { G22 with mprim := addPr G22.mprim 10 fT }
theorem fI_ne (il : List UInt8) (x : It) : fI il x ≠ [] := by
  rw [fI_tl]
  unfold tlO
  cases x.block <;> simp
theorem goodG10 : Sx.Good Try.prog G10 := goodG22.prim1 10 fT fun args t r m h ht => by
  unfold fT at h
  split at h
  · rename_i x
    injection h with h; subst h
    obtain ⟨h1, h2⟩ := guard_run ht
    injection h2 with h3 h4; subst h3; subst h4
    refine goodG22.call (k := 100) ?_
    rw [← callF_eq]
    show (callF G22 100 10 [.s (.d x)] []).run = _
    rw [format_f, h1]
    unfold fmtD
    cases h5 : errD x == 0
    · rfl
    · have h6 : errD x = 0 := by simpa using h5
      have k0 : (chkL 0 (itsOf x) 0 0).1 = 0 := by simpa [errD] using h6
      have k1 := chkL_sz 0 (itsOf x) 0 0 (by omega) k0
      have k2 := chkL_bd 0 (itsOf x) 0 0 (by omega) k0
      have k3 : chkL 0 (itsOf x) ((0 : Nat) : Int) 0 = chkL 0 (itsOf x) 0 0 := rfl
      rw [k3] at k1
      have hlen : (fL [] (itsOf x)).length ≤ 5000 * 600 := by
        have := k1.1
        have e : spL 0 = [] := rfl
        rw [e] at this
        omega
      have hb : (5000 * 600 : Nat) ≤ big := by decide
      rw [wc_true (q := false) (f := false) (r := []) rfl (by show 0 + _ ≤ big; omega), okT_true (by omega), textR_rowsT]
      show (bif (itsOf x).isEmpty then _ else bif true && !(rowsT (fL [] (itsOf x))).isEmpty then _ else _) = some (vS (bs (fL (spL 0) (itsOf x))), [])
      generalize itsOf x = l
      cases l with
      | nil => rfl
      | cons a l =>
        have : (rowsT (fL [] (a :: l))).isEmpty = false := by
          cases hf : fL [] (a :: l) with
          | nil =>
            simp only [fL, List.append_eq_nil_iff] at hf
            exact absurd hf.1 (fI_ne [] a)
          | cons b c => rfl
        rw [this]; rfl
  · cases h
end Go.Proofs.Ytchgegcndcdleaa
