/- Words and statements: their errors. -/
import Derived.Test.YtchgegcndcdleaaY7
set_option linter.unusedVariables false
set_option linter.unusedSimpArgs false
set_option linter.unusedSectionVars false
namespace Go.Proofs.Ytchgegcndcdleaa
open Go Go.Sx
/-! ### A word, by the specification -/
def wE (s : ByteArray) (q : Bool) : Int := bif decide ((s.size : Int) > 120) then 4 else bif q then (bif allB evU s 0 then 0 else 5) else (bif plainS s then 0 else 6)
def hd47 (s : ByteArray) (q : Bool) (i : Int) : St := ⟨[na, .s (.ptr 0 0), na, vI i] ++ nas 37, [.cells [cS s, cB q]]⟩
def rs47 (b : Bool) : T (Ex × St) := .ite b (.ret (.ex 0, ⟨nas 41, []⟩)) (.ret (.rt, ⟨[na, na, vI 5] ++ nas 38, []⟩))
theorem chkw_t (k : Nat) (s : ByteArray) (q : Bool) (i : Int) : (loopF G38 (k + 1) 47 0 8 (hd47 s q i)).run =
    bif decide (i < s.size) then bif decide (0 ≤ i) && decide (i < s.size) then bif decide (((bAt s i.toNat).toNat : Int) < 32) then (rs47 false).run
        else bif decide (0 ≤ i) && decide (i < s.size) then bif decide (((bAt s i.toNat).toNat : Int) > 126) then (rs47 false).run
          else bif decide (0 ≤ i) && decide (i < s.size) then bif (((bAt s i.toNat).toNat : Int) == 34) then (rs47 false).run
            else (loopF G38 k 47 0 8 (hd47 s q (IntKind.i64.wrap (i + 1)))).run
          else none
        else none
      else none
    else (rs47 true).run := by kernel_rfl
theorem chkw_loop (s : ByteArray) (q : Bool) (hs : s.size ≤ 9223372036854775807) : ∀ (m i : Nat), i + m = s.size → (loopF G38 (m + 1) 47 0 8 (hd47 s q i)).run = (rs47 (allB evU s i)).run := by
  intro m
  induction m with
  | zero =>
    intro i h
    rw [chkw_t, allB_end (by omega)]
    have : decide ((i : Int) < s.size) = false := by rw [decide_eq_false_iff_not]; omega
    rw [this]; rfl
  | succ m ih =>
    intro i h
    have hi : i < s.size := by omega
    have e1 : decide ((i : Int) < s.size) = true := by rw [decide_eq_true_eq]; omega
    have e2 : decide ((0 : Int) ≤ i) = true := by rw [decide_eq_true_eq]; omega
    have e3 : IntKind.i64.wrap ((i : Int) + 1) = ((i + 1 : Nat) : Int) := by rw [wrap_id (by omega) (by omega)]; rfl
    rw [chkw_t, e3]
    simp only [e1, e2, Int.toNat_natCast, Bool.and_self, cond_true, ih (i + 1) (by omega)]
    rw [allB_step hi]
    unfold evU odB
    cases decide (((bAt s i).toNat : Int) < 32) <;> cases decide (((bAt s i).toNat : Int) > 126) <;> cases (((bAt s i).toNat : Int) == 34) <;> rfl
abbrev hdp47 (p : ByteArray × Bool) : St := hd47 p.1 p.2 0
def strM : Mem → ByteArray
  | [.cells (.s (.d (.c (.string s))) :: _) _] => s
  | _ => ByteArray.empty
noncomputable def L47 : Ctx := { G38 with lp := addLp G38.lp 47 8 0 (lpOf hdp47 (fun p => p.1.size ≤ 9223372036854775807) fun s => rs47 (allB evU (strM s.mem) 0)) }
theorem goodL47 : Sx.Good Try.prog L47 :=
  goodG38.loop1 47 8 0 _ _ _ (by kernel_rfl) fun p hp => ⟨p.1.size + 1, chkw_loop p.1 p.2 hp p.1.size 0 (by omega)⟩
theorem chkw_f (s : ByteArray) (q : Bool) : (callF L47 100 47 [.agg [cS s, cB q]] []).run =
    bif decide ((s.size : Int) > 120) then some (vI 4, []) else bif !q then bif decide (s.size ≤ 9223372036854775807) then bif !plainS s then some (vI 6, []) else some (vI 0, []) else none
    else bif isHd hdp47 (fun p => p.1.size ≤ 9223372036854775807) (hdp47 (s, q)) then bif allB evU s 0 then some (vI 0, []) else some (vI 5, []) else none := by kernel_rfl
theorem chkw_s (s : ByteArray) (q : Bool) : (callF L47 100 47 [.agg [cS s, cB q]] []).run = some (vI (wE s q), []) := by
  rw [chkw_f]
  unfold wE
  cases h : decide ((s.size : Int) > 120)
  · have h1 : s.size ≤ 9223372036854775807 := by rw [decide_eq_false_iff_not] at h; omega
    rw [decide_eq_true h1, isHd_true (hd := hdp47) (pre := fun p => p.1.size ≤ 9223372036854775807) (a := (s, q)) h1]
    cases q <;> cases plainS s <;> cases allB evU s 0 <;> rfl
  · rfl
def f47 : Says
  | [.agg [.s (.d (.c (.string s))), .s (.d (.c (.bool q)))]] => some (.ret (vI (wE s q), []))
  | _ => none
noncomputable def G47 : Ctx := { G38 with mprim := addPr G38.mprim 47 f47 }
theorem goodG47 : Sx.Good Try.prog G47 := goodG38.prim1 47 f47 fun args t r m h ht => by
  unfold f47 at h
  split at h
  · rename_i s q
    injection h with h; subst h
    exact CallSome.glob_eq (X := L47) (X' := G38) rfl (goodL47.told (chkw_s s q) ht)
  · cases h
/-! ### A statement -/
def hd27 (ln : Int) (ws : List Wd) (bk : Bool) (n : Nat) (row : Nat → List D) (i : Int) : St := ⟨[na, .s (.ptr 0 0), na, .c (.f (.func 37) [] [])] ++ nas 21 ++ [.s (.d (encW ws)), vI ws.length, vI i] ++ nas 37, [.cells [cI ln, .d (encW ws), cB bk, .d (.fs 4 n row)]]⟩
def rs27 (mem : Mem) (e : Int) : T (Ex × St) := .ite (e == 0) (.ret (.ex 1, ⟨[na, .s (.ptr 0 0)] ++ nas 63, mem⟩)) (.ret (.rt, ⟨[na, .s (.ptr 0 0), vI e] ++ nas 62, mem⟩))
theorem st_t (k : Nat) (ln : Int) (ws : List Wd) (bk : Bool) (n : Nat) (row : Nat → List D) (i : Int) : (loopF G47 (k + 1) 27 0 7 (hd27 ln ws bk n row i)).run =
  bif decide (i < ws.length) then bif decide (0 ≤ i) && decide (i < ws.length) then bif decide (((wAt ws i.toNat).text.size : Int) > 120) then (rs27 (hd27 ln ws bk n row i).mem 4).run
      else bif (wAt ws i.toNat).quoted then bif !allB evU (wAt ws i.toNat).text 0 then (rs27 (hd27 ln ws bk n row i).mem 5).run
        else bif !(wAt ws i.toNat).quoted then bif !plainS (wAt ws i.toNat).text then (rs27 (hd27 ln ws bk n row i).mem 6).run
          else (loopF G47 k 27 0 7 (hd27 ln ws bk n row (IntKind.i64.wrap (i + 1)))).run
        else (loopF G47 k 27 0 7 (hd27 ln ws bk n row (IntKind.i64.wrap (i + 1)))).run
      else bif !(wAt ws i.toNat).quoted then bif !plainS (wAt ws i.toNat).text then (rs27 (hd27 ln ws bk n row i).mem 6).run
        else (loopF G47 k 27 0 7 (hd27 ln ws bk n row (IntKind.i64.wrap (i + 1)))).run
      else (loopF G47 k 27 0 7 (hd27 ln ws bk n row (IntKind.i64.wrap (i + 1)))).run
    else none
  else (rs27 (hd27 ln ws bk n row i).mem 0).run := by kernel_rfl
def wsE : List Wd → Int
  | [] => 0
  | w :: l => bif wE w.text w.quoted == 0 then wsE l else wE w.text w.quoted
theorem st_loop (ln : Int) (ws : List Wd) (bk : Bool) (n : Nat) (row : Nat → List D) (hw : ws.length ≤ 9223372036854775807) : ∀ (m i : Nat), i + m = ws.length →
    (loopF G47 (m + 1) 27 0 7 (hd27 ln ws bk n row i)).run = (rs27 (hd27 ln ws bk n row 0).mem (wsE (ws.drop i))).run := by
  intro m
  induction m with
  | zero =>
    intro i h
    rw [st_t, List.drop_of_length_le (by omega)]
    have : decide ((i : Int) < ws.length) = false := by rw [decide_eq_false_iff_not]; omega
    rw [this]; rfl
  | succ m ih =>
    intro i h
    have hi : i < ws.length := by omega
    have e1 : decide ((i : Int) < ws.length) = true := by rw [decide_eq_true_eq]; omega
    have e2 : decide ((0 : Int) ≤ i) = true := by rw [decide_eq_true_eq]; omega
    have e3 : IntKind.i64.wrap ((i : Int) + 1) = ((i + 1 : Nat) : Int) := by rw [wrap_id (by omega) (by omega)]; rfl
    rw [st_t, e3]
    simp only [e1, e2, Int.toNat_natCast, Bool.and_self, cond_true, ih (i + 1) (by omega)]
    rw [drop_wAt ws i hi]
    show _ = (rs27 _ (bif wE (wAt ws i).text (wAt ws i).quoted == 0 then wsE (ws.drop (i + 1)) else wE (wAt ws i).text (wAt ws i).quoted)).run
    unfold wE
    show _ = (rs27 (hd27 ln ws bk n row i).mem _).run
    cases decide (((wAt ws i).text.size : Int) > 120) <;> cases (wAt ws i).quoted <;> cases allB evU (wAt ws i).text 0 <;> cases plainS (wAt ws i).text <;> rfl
open Classical in
noncomputable def wOf (v : AV) : List Wd := if h : ∃ l, v = .s (.d (encW l)) then h.choose else []
theorem wOf_enc (l : List Wd) : wOf (.s (.d (encW l))) = l := by
  have h : ∃ m, (AV.s (.d (encW l))) = .s (.d (encW m)) := ⟨l, rfl⟩
  unfold wOf
  rw [dif_pos h]
  have key : ∀ m, (AV.s (.d (encW l))) = .s (.d (encW m)) → l = m := fun m hm => by
    simp only [AV.s, AV.c.injEq, C.s.injEq, S.d.injEq] at hm
    exact encW_inj hm
  exact (key _ h.choose_spec).symm
structure StA where
  ln : Int
  ws : List Wd
  bk : Bool
  n : Nat
  row : Nat → List D
abbrev hdp27 (p : StA) : St := hd27 p.ln p.ws p.bk p.n p.row 0
noncomputable def L27 : Ctx := { G47 with lp := addLp G47.lp 27 7 0 (lpOf hdp27 (fun p => p.ws.length ≤ 9223372036854775807) fun s => rs27 s.mem (wsE (wOf (nthA s.env 25)))) }
theorem goodL27 : Sx.Good Try.prog L27 :=
  goodG47.loop1 27 7 0 _ _ _ (by kernel_rfl) fun p hp => ⟨p.ws.length + 1, by
    have := st_loop p.ln p.ws p.bk p.n p.row hp p.ws.length 0 (by omega)
    rw [show hdp27 p = hd27 p.ln p.ws p.bk p.n p.row ((0 : Nat) : Int) from rfl, this]
    show _ = (rs27 _ (wsE (wOf (.s (.d (encW p.ws)))))).run
    rw [wOf_enc]; rfl⟩
theorem st_f (ln : Int) (ws : List Wd) (bk : Bool) (n : Nat) (row : Nat → List D) : (callF L27 100 27 [.agg [cI ln, .d (encW ws), cB bk, .d (.fs 4 n row)]] []).run =
    bif ((ws.length : Int) == 0) then some (vI 6, []) else bif true && decide ((0 : Int) < ws.length) then bif !opB (wAt ws 0).text (wAt ws 0).quoted then some (vI 6, [])
      else bif decide ((ws.length : Int) > 40) then some (vI 3, []) else bif isHd hdp27 (fun p => p.ws.length ≤ 9223372036854775807) (hdp27 ⟨ln, ws, bk, n, row⟩) then
        bif wsE (wOf (.s (.d (encW ws)))) == 0 then bif !bk then bif decide ((n : Int) > 0) then some (vI 12, []) else some (vI 0, []) else some (vI 0, []) else some (vI (wsE (wOf (.s (.d (encW ws))))), [])
      else none else none := by kernel_rfl
/-- A statement's error. -/
def stE (ws : List Wd) (bk : Bool) (n : Nat) : Int :=
  bif ((ws.length : Int) == 0) then 6 else bif !opB (wAt ws 0).text (wAt ws 0).quoted then 6 else bif decide ((ws.length : Int) > 40) then 3
  else bif wsE ws == 0 then (bif !bk then (bif decide ((n : Int) > 0) then 12 else 0) else 0) else wsE ws
theorem st_s (ln : Int) (ws : List Wd) (bk : Bool) (n : Nat) (row : Nat → List D) : (callF L27 100 27 [.agg [cI ln, .d (encW ws), cB bk, .d (.fs 4 n row)]] []).run = some (vI (stE ws bk n), []) := by
  rw [st_f, wOf_enc]
  unfold stE
  cases h : ((ws.length : Int) == 0)
  · have h0 : decide ((0 : Int) < ws.length) = true := by rw [beq_eq_false_iff_ne] at h; rw [decide_eq_true_eq]; omega
    rw [h0]
    cases h1 : decide ((ws.length : Int) > 40)
    · have h2 : ws.length ≤ 9223372036854775807 := by rw [decide_eq_false_iff_not] at h1; omega
      rw [isHd_true (hd := hdp27) (pre := fun p => p.ws.length ≤ 9223372036854775807) (a := ⟨ln, ws, bk, n, row⟩) h2]
      cases opB (wAt ws 0).text (wAt ws 0).quoted <;> cases wsE ws == 0 <;> cases bk <;> cases decide ((n : Int) > 0) <;> rfl
    · cases opB (wAt ws 0).text (wAt ws 0).quoted <;> rfl
  · rfl
noncomputable def isWd (x : D) : Bool := @decide (∃ l, x = encW l) (Classical.propDecidable _)
theorem isWd_enc (l : List Wd) : isWd (encW l) = true := by
  simp only [isWd, decide_eq_true_eq]
  exact ⟨l, rfl⟩
theorem isWd_some {x : D} (h : isWd x = true) : ∃ l, x = encW l := by simpa only [isWd, decide_eq_true_eq] using h
noncomputable def f27 : Says
  | [.agg [.s (.d (.c (.int .i64 ln))), .s (.d w), .s (.d (.c (.bool bk))), .s (.d (.fs 4 n row))]] => some (.ite (isWd w) (.ret (vI (stE (wOf (.s (.d w))) bk n), [])) .fail)
  | _ => none
noncomputable def G27 : Ctx := { G47 with mprim := addPr G47.mprim 27 f27 }
theorem goodG27 : Sx.Good Try.prog G27 := goodG47.prim1 27 f27 fun args t r m h ht => by
  unfold f27 at h
  split at h
  · rename_i ln w bk n row
    injection h with h; subst h
    obtain ⟨h1, h2⟩ := guard_run ht
    obtain ⟨ws, rfl⟩ := isWd_some h1
    injection h2 with h3 h4; subst h3; subst h4
    rw [wOf_enc]
    refine CallSome.glob_eq (X := L27) (X' := G47) rfl (goodL27.call (k := 100) ?_)
    rw [← callF_eq]
    exact st_s ln ws bk n row
  · cases h
/-! ### By the specification -/
def hd40 (ln : Int) (ws : List Wd) (bk : Bool) (n : Nat) (row : Nat → List D) (i : Int) : St := ⟨[na, .s (.ptr 0 0), na, vI i] ++ nas 42, [.cells [cI ln, .d (encW ws), cB bk, .d (.fs 4 n row)]]⟩
def rs40 (mem : Mem) (e : Int) : T (Ex × St) := .ite (e == 0) (.ret (.ex 0, ⟨[na, .s (.ptr 0 0)] ++ nas 44, mem⟩)) (.ret (.rt, ⟨[na, .s (.ptr 0 0), vI e] ++ nas 43, mem⟩))
theorem rst_t (k : Nat) (ln : Int) (ws : List Wd) (bk : Bool) (n : Nat) (row : Nat → List D) (i : Int) : (loopF G27 (k + 1) 40 0 6 (hd40 ln ws bk n row i)).run =
  bif decide (i < ws.length) then bif decide (0 ≤ i) && decide (i < ws.length) then
    bif !(wE (wAt ws i.toNat).text (wAt ws i.toNat).quoted == 0) then some (.rt, ⟨[na, .s (.ptr 0 0), vI (wE (wAt ws i.toNat).text (wAt ws i.toNat).quoted)] ++ nas 43, (hd40 ln ws bk n row i).mem⟩)
    else (loopF G27 k 40 0 6 (hd40 ln ws bk n row (IntKind.i64.wrap (i + 1)))).run
    else none
  else (rs40 (hd40 ln ws bk n row i).mem 0).run := by kernel_rfl
theorem rst_loop (ln : Int) (ws : List Wd) (bk : Bool) (n : Nat) (row : Nat → List D) (hw : ws.length ≤ 9223372036854775807) : ∀ (m i : Nat), i + m = ws.length →
    (loopF G27 (m + 1) 40 0 6 (hd40 ln ws bk n row i)).run = (rs40 (hd40 ln ws bk n row 0).mem (wsE (ws.drop i))).run := by
  intro m
  induction m with
  | zero =>
    intro i h
    rw [rst_t, List.drop_of_length_le (by omega)]
    have : decide ((i : Int) < ws.length) = false := by rw [decide_eq_false_iff_not]; omega
    rw [this]; rfl
  | succ m ih =>
    intro i h
    have hi : i < ws.length := by omega
    have e1 : decide ((i : Int) < ws.length) = true := by rw [decide_eq_true_eq]; omega
    have e2 : decide ((0 : Int) ≤ i) = true := by rw [decide_eq_true_eq]; omega
    have e3 : IntKind.i64.wrap ((i : Int) + 1) = ((i + 1 : Nat) : Int) := by rw [wrap_id (by omega) (by omega)]; rfl
    rw [rst_t, e3]
    simp only [e1, e2, Int.toNat_natCast, Bool.and_self, cond_true, ih (i + 1) (by omega)]
    rw [drop_wAt ws i hi]
    show _ = (rs40 _ (bif wE (wAt ws i).text (wAt ws i).quoted == 0 then wsE (ws.drop (i + 1)) else wE (wAt ws i).text (wAt ws i).quoted)).run
    cases h1 : (wE (wAt ws i).text (wAt ws i).quoted == 0)
    · unfold rs40
      simp only [T.run, cond_false, Bool.not_false, cond_true, h1]
      rfl
    · rfl
abbrev hdp40 (p : StA) : St := hd40 p.ln p.ws p.bk p.n p.row 0
def wM : Mem → AV
  | [.cells (_ :: .s x :: _) _] => .s x
  | _ => na
noncomputable def L40 : Ctx := { G27 with lp := addLp G27.lp 40 6 0 (lpOf hdp40 (fun p => p.ws.length ≤ 9223372036854775807) fun s => rs40 s.mem (wsE (wOf (wM s.mem)))) }
theorem goodL40 : Sx.Good Try.prog L40 :=
  goodG27.loop1 40 6 0 _ _ _ (by kernel_rfl) fun p hp => ⟨p.ws.length + 1, by
    have := rst_loop p.ln p.ws p.bk p.n p.row hp p.ws.length 0 (by omega)
    rw [show hdp40 p = hd40 p.ln p.ws p.bk p.n p.row ((0 : Nat) : Int) from rfl, this]
    show _ = (rs40 _ (wsE (wOf (.s (.d (encW p.ws)))))).run
    rw [wOf_enc]; rfl⟩
theorem rst_f (ln : Int) (ws : List Wd) (bk : Bool) (n : Nat) (row : Nat → List D) : (callF L40 100 40 [.agg [cI ln, .d (encW ws), cB bk, .d (.fs 4 n row)]] []).run =
    bif ((ws.length : Int) == 0) then some (vI 6, []) else bif true && decide ((0 : Int) < ws.length) then bif !opB (wAt ws 0).text (wAt ws 0).quoted then some (vI 6, [])
      else bif decide ((ws.length : Int) > 40) then some (vI 3, []) else bif isHd hdp40 (fun p => p.ws.length ≤ 9223372036854775807) (hdp40 ⟨ln, ws, bk, n, row⟩) then
        bif wsE (wOf (.s (.d (encW ws)))) == 0 then bif !bk then bif decide ((n : Int) > 0) then some (vI 12, []) else some (vI 0, []) else some (vI 0, []) else some (vI (wsE (wOf (.s (.d (encW ws))))), [])
      else none else none := by kernel_rfl
theorem rst_s (ln : Int) (ws : List Wd) (bk : Bool) (n : Nat) (row : Nat → List D) : (callF L40 100 40 [.agg [cI ln, .d (encW ws), cB bk, .d (.fs 4 n row)]] []).run = some (vI (stE ws bk n), []) := by
  rw [rst_f, wOf_enc]
  unfold stE
  cases h : ((ws.length : Int) == 0)
  · have h0 : decide ((0 : Int) < ws.length) = true := by rw [beq_eq_false_iff_ne] at h; rw [decide_eq_true_eq]; omega
    rw [h0]
    cases h1 : decide ((ws.length : Int) > 40)
    · have h2 : ws.length ≤ 9223372036854775807 := by rw [decide_eq_false_iff_not] at h1; omega
      rw [isHd_true (hd := hdp40) (pre := fun p => p.ws.length ≤ 9223372036854775807) (a := ⟨ln, ws, bk, n, row⟩) h2]
      cases opB (wAt ws 0).text (wAt ws 0).quoted <;> cases wsE ws == 0 <;> cases bk <;> cases decide ((n : Int) > 0) <;> rfl
    · cases opB (wAt ws 0).text (wAt ws 0).quoted <;> rfl
  · rfl
noncomputable def G40 : Ctx := { G27 with mprim := addPr G27.mprim 40 f27 }
theorem goodG40 : Sx.Good Try.prog G40 := goodG27.prim1 40 f27 fun args t r m h ht => by
  unfold f27 at h
  split at h
  · rename_i ln w bk n row
    injection h with h; subst h
    obtain ⟨h1, h2⟩ := guard_run ht
    obtain ⟨ws, rfl⟩ := isWd_some h1
    injection h2 with h3 h4; subst h3; subst h4
    rw [wOf_enc]
    refine CallSome.glob_eq (X := L40) (X' := G27) rfl (goodL40.call (k := 100) ?_)
    rw [← callF_eq]
    exact rst_s ln ws bk n row
  · cases h
end Go.Proofs.Ytchgegcndcdleaa
