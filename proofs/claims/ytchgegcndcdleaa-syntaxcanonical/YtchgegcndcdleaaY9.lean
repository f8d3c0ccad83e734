/- The check of statements: the program's and the specification's. -/
import Derived.Test.YtchgegcndcdleaaY8
set_option linter.unusedVariables false
set_option linter.unusedSimpArgs false
set_option linter.unusedSectionVars false
namespace Go.Sx
variable {P : Program} {X : Ctx}
abbrev SaysM := List AV → Mem → Option (T (AV × Mem))
def addPrM (pr : FuncId → List AV → Mem → Option (T (AV × Mem))) (g : FuncId) (f : SaysM) : FuncId → List AV → Mem → Option (T (AV × Mem)) :=
  fun g' args mem => bif Nat.beq g' g then f args mem else pr g' args mem
theorem Good.primM (h : Sx.Good P X) (g : FuncId) (f : SaysM) (hf : ∀ args mem t r mem', f args mem = some t → t.run = some (r, mem') → CallSome P X g args mem r mem') : Sx.Good P { X with mprim := addPrM X.mprim g f } :=
  h.prim _ fun g' args mem t r mem' h1 h2 => by
    unfold addPrM at h1
    cases hg : Nat.beq g' g
    · rw [hg] at h1; exact .inl h1
    · rw [hg] at h1
      have := Nat.eq_of_beq_eq_true hg
      subst this
      exact .inr (hf args mem t r mem' h1 h2)
section recur
variable {g : FuncId} {f : Nat → SaysM} (h : Sx.Good P X) (h0 : ∀ args mem t r m, f 0 args mem = some t → t.run = some (r, m) → False)
  (hs : ∀ d, Sx.Good P { X with mprim := addPrM X.mprim g (f d) } → ∀ args mem t r m, f (d + 1) args mem = some t → t.run = some (r, m) → CallSome P X g args mem r m)
include h h0 hs
theorem Good.rec1M : ∀ d, Sx.Good P { X with mprim := addPrM X.mprim g (f d) }
  | 0 => h.primM g (f 0) fun args mem t r m h1 h2 => (h0 args mem t r m h1 h2).elim
  | d + 1 => h.primM g (f (d + 1)) (hs d (Good.rec1M d))
theorem Good.recAllM (f' : SaysM) (hf : ∀ args mem t r m, f' args mem = some t → t.run = some (r, m) → ∃ d t', f d args mem = some t' ∧ t'.run = some (r, m)) : Sx.Good P { X with mprim := addPrM X.mprim g f' } :=
  h.primM g f' fun args mem t r m h1 h2 => by
    obtain ⟨d, t', h3, h4⟩ := hf args mem t r m h1 h2
    cases d with
    | zero => exact (h0 args mem t' r m h3 h4).elim
    | succ d => exact hs d (Good.rec1M h h0 hs d) args mem t' r m h3 h4
end recur
end Go.Sx
namespace Go.Proofs.Ytchgegcndcdleaa
open Go Go.Sx
/-! ### What it computes -/
mutual
def chkI (b : Int) : It → Int → Int → Int × Int
  | .mk _ words block kids, d, n => bif stE words block kids.length == 0 then chkL b kids (d + 1) n else (stE words block kids.length, n)
def chkL (b : Int) : List It → Int → Int → Int × Int
  | [], _, n => (0, n)
  | x :: l, d, n => bif decide (n + 1 > 600) then (3, n + b) else bif decide (d > 4) then (17, n + b) else bif (chkI b x d (n + 1)).1 == 0 then chkL b l d (chkI b x d (n + 1)).2 else chkI b x d (n + 1)
end
theorem chkI_eq (b : Int) (x : It) (d n : Int) : chkI b x d n = bif stE x.words x.block x.kids.length == 0 then chkL b x.kids (d + 1) n else (stE x.words x.block x.kids.length, n) := by cases x; simp only [chkI, It.words, It.block, It.kids]
theorem chkL_cons (b : Int) (x : It) (l : List It) (d n : Int) : chkL b (x :: l) d n = bif decide (n + 1 > 600) then (3, n + b) else bif decide (d > 4) then (17, n + b) else bif (chkI b x d (n + 1)).1 == 0 then chkL b l d (chkI b x d (n + 1)).2 else chkI b x d (n + 1) := by simp only [chkL]
mutual
theorem chkI_bd (b : Int) : ∀ (x : It) (d n : Int), n ≤ 600 → (chkI b x d n).1 = 0 → n ≤ (chkI b x d n).2 ∧ (chkI b x d n).2 ≤ 600
  | .mk ln words block kids, d, n, h, h0 => by
    simp only [chkI] at h0 ⊢
    cases h1 : stE words block kids.length == 0
    · rw [h1] at h0
      simp only [cond_false] at h0 ⊢
      exact ⟨Int.le_refl _, h⟩
    · rw [h1] at h0
      simp only [cond_true] at h0 ⊢
      exact chkL_bd b kids (d + 1) n h h0
theorem chkL_bd (b : Int) : ∀ (l : List It) (d n : Int), n ≤ 600 → (chkL b l d n).1 = 0 → n ≤ (chkL b l d n).2 ∧ (chkL b l d n).2 ≤ 600
  | [], d, n, h, h0 => by simp only [chkL]; exact ⟨Int.le_refl _, h⟩
  | x :: l, d, n, h, h0 => by
    rw [chkL_cons] at h0 ⊢
    cases h1 : decide (n + 1 > 600)
    · cases h2 : decide (d > 4)
      · rw [decide_eq_false_iff_not] at h1
        simp only [decide_eq_false h1, h2, cond_false] at h0 ⊢
        cases h3 : (chkI b x d (n + 1)).1 == 0
        · simp only [h3, cond_false] at h0 ⊢
          rw [h0] at h3; cases h3
        · simp only [h3, cond_true] at h0 ⊢
          have k1 := chkI_bd b x d (n + 1) (by omega) (by simpa using h3)
          have k2 := chkL_bd b l d (chkI b x d (n + 1)).2 k1.2 h0
          omega
      · simp only [h1, h2, cond_false, cond_true] at h0; exact absurd h0 (by decide)
    · simp only [h1, cond_true] at h0; exact absurd h0 (by decide)
end
mutual
theorem chkI_same (b : Int) : ∀ (x : It) (d n : Int), (chkI b x d n).1 = (chkI 0 x d n).1 ∧ ((chkI 0 x d n).1 = 0 → (chkI b x d n).2 = (chkI 0 x d n).2)
  | .mk ln words block kids, d, n => by
    simp only [chkI]
    cases stE words block kids.length == 0
    · exact ⟨rfl, fun _ => rfl⟩
    · exact chkL_same b kids (d + 1) n
theorem chkL_same (b : Int) : ∀ (l : List It) (d n : Int), (chkL b l d n).1 = (chkL 0 l d n).1 ∧ ((chkL 0 l d n).1 = 0 → (chkL b l d n).2 = (chkL 0 l d n).2)
  | [], d, n => ⟨rfl, fun _ => rfl⟩
  | x :: l, d, n => by
    rw [chkL_cons, chkL_cons]
    cases decide (n + 1 > 600)
    · cases decide (d > 4)
      · simp only [cond_false]
        have k := chkI_same b x d (n + 1)
        rw [k.1]
        cases h3 : (chkI 0 x d (n + 1)).1 == 0
        · simp only [cond_false]; exact k
        · simp only [cond_true]
          rw [k.2 (by simpa using h3)]
          exact chkL_same b l d _
      · exact ⟨rfl, fun h => by cases h⟩
    · exact ⟨rfl, fun h => by cases h⟩
end
/-! ### The program's -/
abbrev memC (n : Int) : Mem := [.cells [cI n] (some 3), .cells [.f (.func 26) [] [.ptr 0 0, .ptr 1 0]] (some 65)]
def cntOf : Mem → Int
  | .cells [.s (.d (.c (.int .i64 n)))] _ :: _ => n
  | _ => 0
noncomputable def okM (mem : Mem) (d : Int) : Bool := @decide (∃ n, mem = memC n ∧ 0 ≤ n ∧ n ≤ 600 ∧ 0 ≤ d ∧ d ≤ 5) (Classical.propDecidable _)
theorem okM_mem {n d : Int} (h : 0 ≤ n ∧ n ≤ 600 ∧ 0 ≤ d ∧ d ≤ 5) : okM (memC n) d = true := by
  simp only [okM, decide_eq_true_eq]
  exact ⟨n, rfl, h⟩
noncomputable def fK (dd : Nat) : SaysM := fun args mem => match args with
  | [.c (.s (.d x)), .c (.s (.d (.c (.int .i64 d)))), .c (.s (.ptr 0 0)), .c (.s (.ptr 1 0))] =>
    some (.ite (okI dd x && okM mem d) (.ret (vI (chkL 1 (itsOf x) d (cntOf mem)).1, memC (chkL 1 (itsOf x) d (cntOf mem)).2)) .fail)
  | _ => none
noncomputable def fKA : SaysM := fun args mem => match args with
  | [.c (.s (.d x)), .c (.s (.d (.c (.int .i64 d)))), .c (.s (.ptr 0 0)), .c (.s (.ptr 1 0))] =>
    some (.ite (okA x && okM mem d) (.ret (vI (chkL 1 (itsOf x) d (cntOf mem)).1, memC (chkL 1 (itsOf x) d (cntOf mem)).2)) .fail)
  | _ => none
theorem fK_some {dd : Nat} {args : List AV} {mem : Mem} {t : T (AV × Mem)} {r : AV} {m : Mem} (h : fK dd args mem = some t) (ht : t.run = some (r, m)) :
    ∃ l d n, args = [.s (.d (encI l)), vI d, .s (.ptr 0 0), .s (.ptr 1 0)] ∧ mem = memC n ∧ Ok dd l ∧ (0 ≤ n ∧ n ≤ 600 ∧ 0 ≤ d ∧ d ≤ 5) ∧ r = vI (chkL 1 l d n).1 ∧ m = memC (chkL 1 l d n).2 := by
  unfold fK at h
  split at h
  · rename_i x d
    injection h with h; subst h
    obtain ⟨h1, h2⟩ := guard_run ht
    rw [Bool.and_eq_true] at h1
    obtain ⟨l, rfl, h3⟩ := okI_some h1.1
    have h4 := h1.2
    simp only [okM, decide_eq_true_eq] at h4
    obtain ⟨n, rfl, h5⟩ := h4
    injection h2 with h6 h7
    rw [itsOf_enc] at h6 h7
    exact ⟨l, d, n, rfl, rfl, h3, h5, h6.symm, h7.symm⟩
  · cases h
theorem fK_zero {args : List AV} {mem : Mem} {t : T (AV × Mem)} {r : AV} {m : Mem} (h : fK 0 args mem = some t) (ht : t.run = some (r, m)) : False := by
  obtain ⟨l, d, n, _, _, h2, _⟩ := fK_some h ht
  exact Nat.not_lt_zero _ h2.2.2
theorem fKA_fK {args : List AV} {mem : Mem} {t : T (AV × Mem)} {r : AV} {m : Mem} (h : fKA args mem = some t) (ht : t.run = some (r, m)) : ∃ d t', fK d args mem = some t' ∧ t'.run = some (r, m) := by
  unfold fKA at h
  split at h
  · injection h with h; subst h
    obtain ⟨h1, h2⟩ := guard_run ht
    rw [Bool.and_eq_true] at h1
    obtain ⟨d, h3⟩ := okA_okI h1.1
    exact ⟨d, _, rfl, by simp only [T.run, h3, h1.2, h2, Bool.and_self, cond_true]⟩
  · cases h
noncomputable def C26 (dd : Nat) : Ctx := { G40 with mprim := addPrM G40.mprim 26 (fK dd) }
def hd26 (l : List It) (d n i : Int) : St := ⟨[na, vI d, .s (.ptr 0 0), .s (.ptr 1 0)] ++ nas 6 ++ [.s (.d (opnI l)), vI l.length, vI i] ++ nas 25, memC n⟩
def rs26 (p : Int × Int) : T (Ex × St) := .ite (p.1 == 0) (.ret (.ex 0, ⟨nas 38, memC p.2⟩)) (.ret (.rt, ⟨nas 6 ++ [vI p.1] ++ nas 31, memC p.2⟩))
theorem chk_i (dd k : Nat) (l : List It) (d n i : Int) : (loopF (C26 dd) (k + 1) 26 2 2 (hd26 l d n i)).run =
    bif decide (i < l.length) then bif decide (0 ≤ i) && decide (i < l.length) then
      bif decide (IntKind.i64.wrap (n + 1) > 600) then (rs26 (3, IntKind.i64.wrap (n + 1))).run else bif decide (d > 4) then (rs26 (17, IntKind.i64.wrap (n + 1))).run else
      bif isWd (encW (iAt l i.toNat).words) then
        bif stE (wOf (.s (.d (encW (iAt l i.toNat).words)))) (iAt l i.toNat).block (iAt l i.toNat).kids.length == 0 then
          bif okI dd (encI (iAt l i.toNat).kids) && okM (memC (IntKind.i64.wrap (n + 1))) (IntKind.i64.wrap (d + 1)) then
            bif !((chkL 1 (itsOf (encI (iAt l i.toNat).kids)) (IntKind.i64.wrap (d + 1)) (IntKind.i64.wrap (n + 1))).1 == 0) then
              some (.rt, ⟨nas 6 ++ [vI (chkL 1 (itsOf (encI (iAt l i.toNat).kids)) (IntKind.i64.wrap (d + 1)) (IntKind.i64.wrap (n + 1))).1] ++ nas 31, memC (chkL 1 (itsOf (encI (iAt l i.toNat).kids)) (IntKind.i64.wrap (d + 1)) (IntKind.i64.wrap (n + 1))).2⟩)
            else (loopF (C26 dd) k 26 2 2 (hd26 l d (chkL 1 (itsOf (encI (iAt l i.toNat).kids)) (IntKind.i64.wrap (d + 1)) (IntKind.i64.wrap (n + 1))).2 (IntKind.i64.wrap (i + 1)))).run
          else none
        else bif !(stE (wOf (.s (.d (encW (iAt l i.toNat).words)))) (iAt l i.toNat).block (iAt l i.toNat).kids.length == 0) then
          some (.rt, ⟨nas 6 ++ [vI (stE (wOf (.s (.d (encW (iAt l i.toNat).words)))) (iAt l i.toNat).block (iAt l i.toNat).kids.length)] ++ nas 31, memC (IntKind.i64.wrap (n + 1))⟩)
        else (loopF (C26 dd) k 26 2 2 (hd26 l d (IntKind.i64.wrap (n + 1)) (IntKind.i64.wrap (i + 1)))).run
      else none
    else none else (rs26 (0, n)).run := by kernel_rfl
theorem chk_loop {dd : Nat} {l : List It} (hl : Ok (dd + 1) l) (d : Int) (hd : 0 ≤ d ∧ d ≤ 5) : ∀ (m i : Nat) (n : Int), 0 ≤ n ∧ n ≤ 600 → i + m = l.length →
    (loopF (C26 dd) (m + 1) 26 2 2 (hd26 l d n i)).run = (rs26 (chkL 1 (l.drop i) d n)).run := by
  have hl0 := hl.1
  intro m
  induction m with
  | zero =>
    intro i n hn h
    rw [chk_i]
    have : decide ((i : Int) < l.length) = false := by rw [decide_eq_false_iff_not]; omega
    rw [this, List.drop_of_length_le (by omega)]
    simp only [chkL]
    rfl
  | succ m ih =>
    intro i n hn h
    have hi : i < l.length := by omega
    have e1 : decide ((i : Int) < l.length) = true := by rw [decide_eq_true_eq]; omega
    have e2 : decide ((0 : Int) ≤ i) = true := by rw [decide_eq_true_eq]; omega
    have e3 : IntKind.i64.wrap ((i : Int) + 1) = ((i + 1 : Nat) : Int) := by rw [wrap_id (by omega) (by omega)]; rfl
    have e4 : IntKind.i64.wrap (n + 1) = n + 1 := wrap_id (by omega) (by omega)
    have e5 : IntKind.i64.wrap (d + 1) = d + 1 := wrap_id (by omega) (by omega)
    rw [chk_i, e3, e4, e5, drop_iAt l i hi, chkL_cons, chkI_eq]
    simp only [e1, e2, Int.toNat_natCast, Bool.and_self, cond_true, isWd_enc, wOf_enc, itsOf_enc]
    cases h1 : decide (n + 1 > 600)
    · cases h2 : decide (d > 4)
      · rw [decide_eq_false_iff_not] at h1 h2
        simp only [cond_false]
        cases h3 : stE (iAt l i).words (iAt l i).block (iAt l i).kids.length == 0
        · simp only [cond_false, Bool.not_false, cond_true, h3]
          unfold rs26
          simp only [h3, T.run, cond_false]
        · have hk : okI dd (encI (iAt l i).kids) = true := okI_enc (hl.kids hi)
          simp only [cond_true, hk, okM_mem (n := n + 1) (d := d + 1) ⟨by omega, by omega, by omega, by omega⟩, Bool.and_self]
          cases h4 : (chkL 1 (iAt l i).kids (d + 1) (n + 1)).1 == 0
          · simp only [cond_false, Bool.not_false, cond_true]
            unfold rs26
            simp only [h4, T.run, cond_false]
          · simp only [cond_true, Bool.not_true, cond_false]
            have k1 := chkL_bd 1 (iAt l i).kids (d + 1) (n + 1) (by omega) (by simpa using h4)
            exact ih (i + 1) _ ⟨by omega, k1.2⟩ (by omega)
      · rfl
    · rfl
abbrev hdp26 (p : List It × Int × Int) : St := hd26 p.1 p.2.1 p.2.2 0
def pre26 (dd : Nat) (p : List It × Int × Int) : Prop := Ok (dd + 1) p.1 ∧ (0 ≤ p.2.2 ∧ p.2.2 ≤ 600 ∧ 0 ≤ p.2.1 ∧ p.2.1 ≤ 5)
noncomputable def L26 (dd : Nat) : Ctx := { C26 dd with lp := addLp (C26 dd).lp 26 2 2 (lpOf hdp26 (pre26 dd) fun s => rs26 (chkL 1 (lOf (nthA s.env 10)) (intV (nthA s.env 1)) (cntOf s.mem))) }
theorem goodL26 {dd : Nat} (h : Sx.Good Try.prog (C26 dd)) : Sx.Good Try.prog (L26 dd) :=
  h.loop1 26 2 2 _ _ _ (by kernel_rfl) fun p hp => ⟨p.1.length + 1, by
    have := chk_loop hp.1 p.2.1 ⟨hp.2.2.2.1, hp.2.2.2.2⟩ p.1.length 0 p.2.2 ⟨hp.2.1, hp.2.2.1⟩ (by omega)
    rw [show hdp26 p = hd26 p.1 p.2.1 p.2.2 ((0 : Nat) : Int) from rfl, this]
    show _ = (rs26 (chkL 1 (lOf (.s (.d (opnI p.1)))) p.2.1 p.2.2)).run
    rw [lOf_opn]; rfl⟩
theorem chk_f (dd : Nat) (l : List It) (d n : Int) : (callF (L26 dd) 100 26 [.s (.d (opnI l)), vI d, .s (.ptr 0 0), .s (.ptr 1 0)] (memC n)).run =
    bif isHd hdp26 (pre26 dd) (hdp26 (l, d, n)) then bif (chkL 1 (lOf (.s (.d (opnI l)))) d n).1 == 0 then some (vI 0, memC (chkL 1 (lOf (.s (.d (opnI l)))) d n).2)
      else some (vI (chkL 1 (lOf (.s (.d (opnI l)))) d n).1, memC (chkL 1 (lOf (.s (.d (opnI l)))) d n).2) else none := by kernel_rfl
theorem le_hd {x y : D} {rest : List AV} (h : DLe x y) : ∀ (F : Fr) (w : World) (ρ : Locs) (M : Mut) (vs : List Value), All2 (@AR F w ρ M) (.s (.d x) :: rest) vs → All2 (@AR F w ρ M) (.s (.d y) :: rest) vs := by
  intro F w ρ M vs ha
  cases ha with
  | cons h1 h2 => exact .cons (h F w M _ h1) h2
noncomputable def G26 : Ctx := { G40 with mprim := addPrM G40.mprim 26 fKA }
theorem goodG26 : Sx.Good Try.prog G26 :=
  goodG40.recAllM (f := fK) (fun _ _ _ _ _ h ht => fK_zero h ht) (fun dd hd args mem t r m h ht => by
    obtain ⟨l, d, n, rfl, rfl, h2, h3, rfl, rfl⟩ := fK_some h ht
    refine CallSome.glob_eq (X := L26 dd) (X' := G40) rfl (CallSome.le ?_ (le_hd (enc_opn l)))
    refine (goodL26 hd).call (k := 100) ?_
    rw [← callF_eq, chk_f, isHd_true (hd := hdp26) (pre := pre26 dd) (a := (l, d, n)) ⟨h2, h3⟩, lOf_opn]
    cases h4 : (chkL 1 l d n).1 == 0
    · rfl
    · rw [show (chkL 1 l d n).1 = 0 by simpa using h4]; rfl) fKA fun _ _ _ _ _ h ht => fKA_fK h ht
theorem check_f (x : D) : (callF G26 100 11 [.s (.d x)] []).run = bif okA x && okM (memC 0) 0 then some (vI (chkL 1 (itsOf x) 0 0).1, []) else none := by kernel_rfl
/-- The error of statements. -/
noncomputable def errD (x : D) : Int := (chkL 0 (itsOf x) 0 0).1
noncomputable def fE : Says
  | [.c (.s (.d x))] => some (.ite (okA x) (.ret (vI (errD x), [])) .fail)
  | _ => none
noncomputable def G11 : Ctx := { G26 with mprim := addPr G26.mprim 11 fE }
theorem goodG11 : Sx.Good Try.prog G11 := goodG26.prim1 11 fE fun args t r m h ht => by
  unfold fE at h
  split at h
  · rename_i x
    injection h with h; subst h
    obtain ⟨h1, h2⟩ := guard_run ht
    injection h2 with h3 h4; subst h3; subst h4
    refine goodG26.call (k := 100) ?_
    rw [← callF_eq]
    show (callF G26 100 11 [.s (.d x)] []).run = _
    rw [check_f, h1, okM_mem (n := 0) (d := 0) (by omega)]
    show some (vI (chkL 1 (itsOf x) 0 0).1, []) = some (vI (errD x), [])
    rw [(chkL_same 1 (itsOf x) 0 0).1]
    rfl
  · cases h
end Go.Proofs.Ytchgegcndcdleaa
