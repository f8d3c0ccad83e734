/- The program's text of statements: the words' loop. -/
import Derived.Test.YtchgegcndcdleaaY15
set_option linter.unusedVariables false
set_option linter.unusedSimpArgs false
set_option linter.unusedSectionVars false
namespace Go.Sx
variable {P : Program} {X : Ctx}
/-- One loop, told over two numbers of blocks. -/
theorem Good.loop2 (h : Sx.Good P X) (g key m1 m2 : Nat) {α β : Type} (hd1 : α → St) (pre1 : α → Prop) (hd2 : β → St) (pre2 : β → Prop) (res1 res2 : St → T (Ex × St)) (hk : keysApart ((loopsOf (bodyAt X g)).map firstRegion) = true)
    (hr1 : ∀ a, pre1 a → ∃ k, (loopF X k g m1 key (hd1 a)).run = (res1 (hd1 a)).run) (hr2 : ∀ a, pre2 a → ∃ k, (loopF X k g m2 key (hd2 a)).run = (res2 (hd2 a)).run) :
    Sx.Good P { X with lp := addLp (addLp X.lp g key m1 (lpOf hd1 pre1 res1)) g key m2 (lpOf hd2 pre2 res2) } :=
  h.loop _ fun g' o m' f hf => by
    have one : ∀ {γ : Type} (hd : γ → St) (pre : γ → Prop) (res : St → T (Ex × St)) (m : Nat), (∀ a, pre a → ∃ k, (loopF X k g m key (hd a)).run = (res (hd a)).run) → f = lpOf hd pre res → g' = g → o = some key → m' = m →
        ∃ key', o = some key' ∧ keysApart ((loopsOf (bodyAt X g')).map firstRegion) = true ∧ ∀ s r, (f s).run = some r → ∃ k, (loopR X k g' m' key' s).run = some r := by
      rintro γ hd pre res m hr rfl rfl rfl rfl
      refine ⟨key, rfl, hk, fun s r hs => ?_⟩
      unfold lpOf at hs
      simp only [T.run] at hs
      cases hi : isHd hd pre s
      · rw [hi] at hs; cases hs
      · rw [hi] at hs
        simp only [isHd, decide_eq_true_eq] at hi
        obtain ⟨a, ha, rfl⟩ := hi
        obtain ⟨j, hj⟩ := hr a ha
        exact ⟨j, by rw [← loopF_eq]; exact hj.trans hs⟩
    unfold addLp at hf
    cases o with
    | none => exact .inl hf
    | some k =>
      simp only at hf
      cases hg : Nat.beq g' g && (Nat.beq k key && Nat.beq m' m2)
      · rw [hg] at hf
        simp only [cond_false] at hf
        cases hg1 : Nat.beq g' g && (Nat.beq k key && Nat.beq m' m1)
        · rw [hg1] at hf; exact .inl hf
        · rw [hg1] at hf
          simp only [Bool.and_eq_true] at hg1
          injection hf with hf
          exact .inr (one hd1 pre1 res1 m1 hr1 hf.symm (Nat.eq_of_beq_eq_true hg1.1) (by rw [Nat.eq_of_beq_eq_true hg1.2.1]) (Nat.eq_of_beq_eq_true hg1.2.2))
      · rw [hg] at hf
        simp only [Bool.and_eq_true] at hg
        injection hf with hf
        exact .inr (one hd2 pre2 res2 m2 hr2 hf.symm (Nat.eq_of_beq_eq_true hg.1) (by rw [Nat.eq_of_beq_eq_true hg.2.1]) (Nat.eq_of_beq_eq_true hg.2.2))
end Go.Sx
namespace Go.Proofs.Ytchgegcndcdleaa
open Go Go.Sx
def kp4 (f : FuncId) (k : Nat) : Option (List Nat) :=
  if f = 22 then (if k = 1 then some [1, 2, 3, 10, 11, 12] else if k = 3000001 then some [] else if k = 5 then some [1, 2, 3, 7, 10, 11, 12, 19, 20, 21] else if k = 3000005 then some [1, 2, 3, 7, 10, 11, 12] else none)
  else kp3 f k
noncomputable def B22 : Ctx := { G25 with keep := kp4 }
theorem goodB22 : Sx.Good Try.prog B22 := goodG25.keep kp4
abbrev cls : Blk := .cells [.f (.func 22) [] [.ptr 0 0, .ptr 1 0]] (some 58)
abbrev xB (ln : Int) (ws : List Wd) (bk : Bool) (kn : Nat) (kr : Nat → List D) : Blk := .cells [cI ln, .s (.d (encW ws)), cB bk, .s (.d (.fs 4 kn kr))] (some 36)
/-- Called over two blocks, or over three. -/
abbrev mq (q : Bool) : Nat := match q with
  | false => 2
  | true => 3
abbrev mI (q : Bool) (x : Blk) (r : List (List D)) : Mem := match q with
  | false => [bldA 3, cls, x, byR r]
  | true => [bldA 4, cls, .dead, x, byR r]
def hdi22 (q : Bool) (ind : ByteArray) (l : D) (n i : Int) (ws : List Wd) (j : Int) (mem : Mem) : St :=
  ⟨[na, vS ind, .s (.ptr 0 0), .s (.ptr 1 0)] ++ nas 3 ++ [.s (.ptr (mq q) 0)] ++ nas 2 ++ [.s (.d l), vI n, vI i] ++ nas 6 ++ [.s (.d (encW ws)), vI ws.length, vI j] ++ nas 33, mem⟩
def rsi22 (q : Bool) (ind : ByteArray) (l : D) (n i : Int) (mem : Mem) : Ex × St := (.ex 2, ⟨[na, vS ind, .s (.ptr 0 0), .s (.ptr 1 0)] ++ nas 3 ++ [.s (.ptr (mq q) 0)] ++ nas 2 ++ [.s (.d l), vI n, vI i] ++ nas 42, mem⟩)
def addP {α : Type} (W : Wd) (r : List (List D)) (rec : List (List D) → Option α) : Option α :=
  bif W.quoted then bif szOk 1 W.text.size then bif szOk (bs [34] ++ W.text).size 1 then bif okT r (bs [34] ++ W.text ++ bs [34]).size then rec (rowsT (textR r ++ (bs [34] ++ W.text ++ bs [34]).data.toList)) else none else none else none
  else bif okT r W.text.size then rec (rowsT (textR r ++ W.text.data.toList)) else none
theorem in_i (q : Bool) (k : Nat) (ind : ByteArray) (l : D) (n i : Int) (ln : Int) (ws : List Wd) (bk : Bool) (kn : Nat) (kr : Nat → List D) (j : Int) (r : List (List D)) : (loopF B22 (k + 1) 22 (mq q) 5 (hdi22 q ind l n i ws j (mI q (xB ln ws bk kn kr) r))).run =
    bif decide (j < ws.length) then bif decide (0 ≤ j) && decide (j < ws.length) then bif decide (j > 0) then
      bif okT r 1 then addP (wAt ws j.toNat) (rowsT (textR r ++ [32])) fun r => (loopF B22 k 22 (mq q) 5 (hdi22 q ind l n i ws (IntKind.i64.wrap (j + 1)) (mI q (xB ln ws bk kn kr) r))).run else none
      else addP (wAt ws j.toNat) r fun r => (loopF B22 k 22 (mq q) 5 (hdi22 q ind l n i ws (IntKind.i64.wrap (j + 1)) (mI q (xB ln ws bk kn kr) r))).run
    else none else some (rsi22 q ind l n i (mI q (xB ln ws bk kn kr) r)) := by
  cases q
  · kernel_rfl
  · kernel_rfl
theorem okT_true {t : List UInt8} {n : Nat} (h : t.length + n ≤ big) : okT (rowsT t) n = true := by
  simp only [okT, isByte_rowsT, Bool.true_and, decide_eq_true_eq, rowsT_len]; exact h
theorem big_le : big ≤ 35184372088832 := Nat.le_refl _
theorem addP_ok {α : Type} (W : Wd) (t : List UInt8) (rec : List (List D) → Option α) (h : t.length + (wL W).length ≤ big) : addP W (rowsT t) rec = rec (rowsT (t ++ wL W)) := by
  unfold addP
  have e0 : W.text = bs W.text.data.toList := rfl
  have e1 : W.text.size = W.text.data.toList.length := rfl
  have hb := big_le
  unfold wL at h ⊢
  cases hq : W.quoted
  · rw [hq] at h
    simp only [cond_false] at h ⊢
    rw [okT_true (by rw [e1]; exact h), textR_rowsT]
    rfl
  · rw [hq] at h
    simp only [cond_true] at h ⊢
    simp only [List.length_append, List.length_cons, List.length_nil] at h
    generalize hx : W.text.data.toList = x at h ⊢
    have e2 : W.text = bs x := by rw [← hx]; rfl
    rw [e2, bs_app, bs_app, textR_rowsT, szOk_true (by simp only [bs_size]; omega), szOk_true (by simp only [bs_size, List.length_append, List.length_cons, List.length_nil]; omega), okT_true (by simp only [bs_size, List.length_append, List.length_cons, List.length_nil]; omega)]
    rfl
theorem in_loop (q : Bool) (ind : ByteArray) (l : D) (n i : Int) (ln : Int) (ws : List Wd) (bk : Bool) (kn : Nat) (kr : Nat → List D) (hw : ws.length ≤ 9223372036854775807) : ∀ (m j : Nat) (t : List UInt8), j + m = ws.length →
    t.length + (wsJ (ws.drop j) (decide (j > 0))).length ≤ big →
    (loopF B22 (m + 1) 22 (mq q) 5 (hdi22 q ind l n i ws j (mI q (xB ln ws bk kn kr) (rowsT t)))).run = some (rsi22 q ind l n i (mI q (xB ln ws bk kn kr) (rowsT (t ++ wsJ (ws.drop j) (decide (j > 0)))))) := by
  intro m
  induction m with
  | zero =>
    intro j t h hs
    rw [in_i]
    have : decide ((j : Int) < ws.length) = false := by rw [decide_eq_false_iff_not]; omega
    rw [this, List.drop_of_length_le (by omega)]
    simp only [wsJ, List.append_nil]
    rfl
  | succ m ih =>
    intro j t h hs
    have hj : j < ws.length := by omega
    have e1 : decide ((j : Int) < ws.length) = true := by rw [decide_eq_true_eq]; omega
    have e2 : decide ((0 : Int) ≤ j) = true := by rw [decide_eq_true_eq]; omega
    have e3 : IntKind.i64.wrap ((j : Int) + 1) = ((j + 1 : Nat) : Int) := by rw [wrap_id (by omega) (by omega)]; rfl
    have e4 : decide ((j : Int) > 0) = decide (j > 0) := by rw [decide_eq_decide]; omega
    have e5 : decide (j + 1 > 0) = true := by rw [decide_eq_true_eq]; omega
    rw [drop_wAt _ _ hj] at hs ⊢
    rw [in_i, e3, e4]
    simp only [e1, e2, Int.toNat_natCast, Bool.and_self, cond_true]
    have ih' := ih (j + 1)
    rw [e5] at ih'
    cases h0 : decide (j > 0)
    · rw [h0] at hs
      simp only [wsJ, cond_false, List.nil_append, List.length_append] at hs ⊢
      rw [addP_ok _ _ _ (by omega), ih' _ (by omega) (by rw [List.length_append]; omega), List.append_assoc]
    · rw [h0] at hs
      simp only [wsJ, cond_true, List.length_append, List.length_cons, List.length_nil] at hs ⊢
      rw [okT_true (by omega), textR_rowsT, addP_ok _ _ _ (by rw [List.length_append, List.length_cons, List.length_nil]; omega), ih' _ (by omega) (by simp only [List.length_append, List.length_cons, List.length_nil]; omega)]
      simp only [cond_true, List.append_assoc]
structure FwA where
  ind : ByteArray
  l : D
  n : Int
  i : Int
  ln : Int
  ws : List Wd
  bk : Bool
  kn : Nat
  kr : Nat → List D
  r : List (List D)
abbrev hdpi (q : Bool) (p : FwA) : St := hdi22 q p.ind p.l p.n p.i p.ws 0 (mI q (xB p.ln p.ws p.bk p.kn p.kr) p.r)
def prei (p : FwA) : Prop := p.r.all isByte = true ∧ p.ws.length ≤ 9223372036854775807 ∧ p.r.length + (wsJ p.ws false).length ≤ big
noncomputable def resI (s : St) : T (Ex × St) := match s.mem with
  | [_, _, x, .arrD 1 r (some 5)] => .ret (.ex 2, ⟨[na, nthA s.env 1, .s (.ptr 0 0), .s (.ptr 1 0)] ++ nas 3 ++ [nthA s.env 7] ++ nas 2 ++ [nthA s.env 10, nthA s.env 11, nthA s.env 12] ++ nas 42, [bldA 3, cls, x, byB (textR r ++ wsJ (wOf (nthA s.env 19)) false)]⟩)
  | [_, _, _, x, .arrD 1 r (some 5)] => .ret (.ex 2, ⟨[na, nthA s.env 1, .s (.ptr 0 0), .s (.ptr 1 0)] ++ nas 3 ++ [nthA s.env 7] ++ nas 2 ++ [nthA s.env 10, nthA s.env 11, nthA s.env 12] ++ nas 42, [bldA 4, cls, .dead, x, byB (textR r ++ wsJ (wOf (nthA s.env 19)) false)]⟩)
  | _ => .fail
theorem resI_eq (q : Bool) (p : FwA) (hp : prei p) : (loopF B22 (p.ws.length + 1) 22 (mq q) 5 (hdpi q p)).run = (resI (hdpi q p)).run := by
  have h := in_loop q p.ind p.l p.n p.i p.ln p.ws p.bk p.kn p.kr hp.2.1 p.ws.length 0 (textR p.r) (by omega) (by
    have := hp.2.2
    rw [show (textR p.r).length = p.r.length from by simp [textR]]
    simpa using this)
  rw [← rowsT_textR hp.1] at h
  rw [show hdpi q p = hdi22 q p.ind p.l p.n p.i p.ws ((0 : Nat) : Int) (mI q (xB p.ln p.ws p.bk p.kn p.kr) p.r) from rfl, h]
  cases q
  · show _ = some (rsi22 false p.ind p.l p.n p.i (mI false (xB p.ln p.ws p.bk p.kn p.kr) (rowsT (textR p.r ++ wsJ (wOf (.s (.d (encW p.ws)))) false))))
    rw [wOf_enc]; rfl
  · show _ = some (rsi22 true p.ind p.l p.n p.i (mI true (xB p.ln p.ws p.bk p.kn p.kr) (rowsT (textR p.r ++ wsJ (wOf (.s (.d (encW p.ws)))) false))))
    rw [wOf_enc]; rfl
noncomputable def Li : Ctx := { B22 with lp := addLp (addLp B22.lp 22 5 2 (lpOf (hdpi false) prei resI)) 22 5 3 (lpOf (hdpi true) prei resI) }
theorem goodLi : Sx.Good Try.prog Li := goodB22.loop2 22 5 2 3 _ _ _ _ _ _ (by kernel_rfl) (fun p hp => ⟨_, resI_eq false p hp⟩) fun p hp => ⟨_, resI_eq true p hp⟩
end Go.Proofs.Ytchgegcndcdleaa
