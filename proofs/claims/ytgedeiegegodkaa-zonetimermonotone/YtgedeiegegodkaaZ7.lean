/- The law of a zone's delay: its loop. -/
import Derived.Test.YtgedeiegegodkaaZ6
set_option linter.unusedVariables false
set_option linter.unusedSimpArgs false
set_option linter.unusedSectionVars false
namespace Go.Proofs.Ytgedeiegegodkaa
open Go Go.Sx
abbrev bs (n : Nat) (p : Nat → Bool) : AV := .s (.d (.fs 1 n fun i => [.c (.bool (p i))]))
noncomputable def XD : Ctx := { X5 with keep := fun f k => if f = 3 ∧ k = 7 then some [1,2,3,7,8,9,30,31] else if f = 3 ∧ k = 3000007 then some [] else none }
theorem goodD : Sx.Good Try.prog XD := good5.keep _
def hd3 (n m : Nat) (p q : Nat → Bool) (z : Zn) (run i c0 c c2 : Int) : St :=
  ⟨[na, bs n p, bs m q, .s (.ptr 0 0), na, na, na, .s (.ptr 1 0), .s (.ptr 2 0), vI run] ++ nas 20 ++ [vI n, vI i] ++ nas 59,
    [.cells (zc z), .cells (zc ⟨false, false, 0, 0, 0, 0⟩ ++ zc z ++ zc ⟨false, false, 0, 0, 0, 0⟩), .cells [cI c0, cI c, cI c2]]⟩
theorem delays_i (k n m : Nat) (p q : Nat → Bool) (z : Zn) (run i c : Int) : (loopF XD (k + 1) 3 0 7 (hd3 n m p q z run i 0 c 0)).run =
  bif (decide (i < ↑n)) then bif (decide (0 ≤ i) && decide (i < ↑n)) then bif (decide (0 ≤ i) && decide (i < ↑m)) then bif (decide (0 ≤ i) && decide (i < ↑n)) then bif (!p i.toNat) then bif z.on then bif z.fwd then bif (decide (z.d ≥ 0)) then bif (decide (z.d ≤ 500)) then bif (!((true && ok1 z.on z.fwd z.d c && true && false) == false && ((true && ok1 z.on z.fwd z.d c && true && tr z.on z.fwd z.d c (p i.toNat) (q i.toNat)) == decide (0 > z.d) && ((true && ok1 z.on z.fwd z.d c && true && false) == false && true)))) then some (.rt, ⟨(nas 91), []⟩)
                    else (loopF XD k 3 0 7 (hd3 n m p q z 0 (IntKind.i64.wrap (i + 1)) (sel (true && ok1 z.on z.fwd z.d c && true) 0) (sel (true && ok1 z.on z.fwd z.d c && true) (nx z.on z.fwd z.d c (p i.toNat) (q i.toNat))) (sel (true && ok1 z.on z.fwd z.d c && true) 0))).run
                  else bif (!((true && ok1 z.on z.fwd z.d c && true && false) == false && ((true && ok1 z.on z.fwd z.d c && true && tr z.on z.fwd z.d c (p i.toNat) (q i.toNat)) == false && ((true && ok1 z.on z.fwd z.d c && true && false) == false && true)))) then some (.rt, ⟨(nas 91), []⟩)
                  else (loopF XD k 3 0 7 (hd3 n m p q z 0 (IntKind.i64.wrap (i + 1)) (sel (true && ok1 z.on z.fwd z.d c && true) 0) (sel (true && ok1 z.on z.fwd z.d c && true) (nx z.on z.fwd z.d c (p i.toNat) (q i.toNat))) (sel (true && ok1 z.on z.fwd z.d c && true) 0))).run
                else bif (!((true && ok1 z.on z.fwd z.d c && true && false) == false && ((true && ok1 z.on z.fwd z.d c && true && tr z.on z.fwd z.d c (p i.toNat) (q i.toNat)) == false && ((true && ok1 z.on z.fwd z.d c && true && false) == false && true)))) then some (.rt, ⟨(nas 91), []⟩)
                else (loopF XD k 3 0 7 (hd3 n m p q z 0 (IntKind.i64.wrap (i + 1)) (sel (true && ok1 z.on z.fwd z.d c && true) 0) (sel (true && ok1 z.on z.fwd z.d c && true) (nx z.on z.fwd z.d c (p i.toNat) (q i.toNat))) (sel (true && ok1 z.on z.fwd z.d c && true) 0))).run
              else bif (!((true && ok1 z.on z.fwd z.d c && true && false) == false && ((true && ok1 z.on z.fwd z.d c && true && tr z.on z.fwd z.d c (p i.toNat) (q i.toNat)) == false && ((true && ok1 z.on z.fwd z.d c && true && false) == false && true)))) then some (.rt, ⟨(nas 91), []⟩)
              else (loopF XD k 3 0 7 (hd3 n m p q z 0 (IntKind.i64.wrap (i + 1)) (sel (true && ok1 z.on z.fwd z.d c && true) 0) (sel (true && ok1 z.on z.fwd z.d c && true) (nx z.on z.fwd z.d c (p i.toNat) (q i.toNat))) (sel (true && ok1 z.on z.fwd z.d c && true) 0))).run
            else bif (!((true && ok1 z.on z.fwd z.d c && true && false) == false && ((true && ok1 z.on z.fwd z.d c && true && tr z.on z.fwd z.d c (p i.toNat) (q i.toNat)) == false && ((true && ok1 z.on z.fwd z.d c && true && false) == false && true)))) then some (.rt, ⟨(nas 91), []⟩)
            else (loopF XD k 3 0 7 (hd3 n m p q z 0 (IntKind.i64.wrap (i + 1)) (sel (true && ok1 z.on z.fwd z.d c && true) 0) (sel (true && ok1 z.on z.fwd z.d c && true) (nx z.on z.fwd z.d c (p i.toNat) (q i.toNat))) (sel (true && ok1 z.on z.fwd z.d c && true) 0))).run
          else bif (decide (0 ≤ i) && decide (i < ↑m)) then bif (q i.toNat) then bif z.on then bif z.fwd then bif (decide (z.d ≥ 0)) then bif (decide (z.d ≤ 500)) then bif (!((true && ok1 z.on z.fwd z.d c && true && false) == false && ((true && ok1 z.on z.fwd z.d c && true && tr z.on z.fwd z.d c (p i.toNat) (q i.toNat)) == decide (0 > z.d) && ((true && ok1 z.on z.fwd z.d c && true && false) == false && true)))) then some (.rt, ⟨(nas 91), []⟩)
                      else (loopF XD k 3 0 7 (hd3 n m p q z 0 (IntKind.i64.wrap (i + 1)) (sel (true && ok1 z.on z.fwd z.d c && true) 0) (sel (true && ok1 z.on z.fwd z.d c && true) (nx z.on z.fwd z.d c (p i.toNat) (q i.toNat))) (sel (true && ok1 z.on z.fwd z.d c && true) 0))).run
                    else bif (!((true && ok1 z.on z.fwd z.d c && true && false) == false && ((true && ok1 z.on z.fwd z.d c && true && tr z.on z.fwd z.d c (p i.toNat) (q i.toNat)) == false && ((true && ok1 z.on z.fwd z.d c && true && false) == false && true)))) then some (.rt, ⟨(nas 91), []⟩)
                    else (loopF XD k 3 0 7 (hd3 n m p q z 0 (IntKind.i64.wrap (i + 1)) (sel (true && ok1 z.on z.fwd z.d c && true) 0) (sel (true && ok1 z.on z.fwd z.d c && true) (nx z.on z.fwd z.d c (p i.toNat) (q i.toNat))) (sel (true && ok1 z.on z.fwd z.d c && true) 0))).run
                  else bif (!((true && ok1 z.on z.fwd z.d c && true && false) == false && ((true && ok1 z.on z.fwd z.d c && true && tr z.on z.fwd z.d c (p i.toNat) (q i.toNat)) == false && ((true && ok1 z.on z.fwd z.d c && true && false) == false && true)))) then some (.rt, ⟨(nas 91), []⟩)
                  else (loopF XD k 3 0 7 (hd3 n m p q z 0 (IntKind.i64.wrap (i + 1)) (sel (true && ok1 z.on z.fwd z.d c && true) 0) (sel (true && ok1 z.on z.fwd z.d c && true) (nx z.on z.fwd z.d c (p i.toNat) (q i.toNat))) (sel (true && ok1 z.on z.fwd z.d c && true) 0))).run
                else bif (!((true && ok1 z.on z.fwd z.d c && true && false) == false && ((true && ok1 z.on z.fwd z.d c && true && tr z.on z.fwd z.d c (p i.toNat) (q i.toNat)) == false && ((true && ok1 z.on z.fwd z.d c && true && false) == false && true)))) then some (.rt, ⟨(nas 91), []⟩)
                else (loopF XD k 3 0 7 (hd3 n m p q z 0 (IntKind.i64.wrap (i + 1)) (sel (true && ok1 z.on z.fwd z.d c && true) 0) (sel (true && ok1 z.on z.fwd z.d c && true) (nx z.on z.fwd z.d c (p i.toNat) (q i.toNat))) (sel (true && ok1 z.on z.fwd z.d c && true) 0))).run
              else bif (!((true && ok1 z.on z.fwd z.d c && true && false) == false && ((true && ok1 z.on z.fwd z.d c && true && tr z.on z.fwd z.d c (p i.toNat) (q i.toNat)) == false && ((true && ok1 z.on z.fwd z.d c && true && false) == false && true)))) then some (.rt, ⟨(nas 91), []⟩)
              else (loopF XD k 3 0 7 (hd3 n m p q z 0 (IntKind.i64.wrap (i + 1)) (sel (true && ok1 z.on z.fwd z.d c && true) 0) (sel (true && ok1 z.on z.fwd z.d c && true) (nx z.on z.fwd z.d c (p i.toNat) (q i.toNat))) (sel (true && ok1 z.on z.fwd z.d c && true) 0))).run
            else bif z.on then bif z.fwd then bif (decide (z.d ≥ 0)) then bif (decide (z.d ≤ 500)) then bif (!((true && ok1 z.on z.fwd z.d c && true && false) == false && ((true && ok1 z.on z.fwd z.d c && true && tr z.on z.fwd z.d c (p i.toNat) (q i.toNat)) == decide (IntKind.i64.wrap (run + 1) > z.d) && ((true && ok1 z.on z.fwd z.d c && true && false) == false && true)))) then some (.rt, ⟨(nas 91), []⟩)
                    else (loopF XD k 3 0 7 (hd3 n m p q z (IntKind.i64.wrap (run + 1)) (IntKind.i64.wrap (i + 1)) (sel (true && ok1 z.on z.fwd z.d c && true) 0) (sel (true && ok1 z.on z.fwd z.d c && true) (nx z.on z.fwd z.d c (p i.toNat) (q i.toNat))) (sel (true && ok1 z.on z.fwd z.d c && true) 0))).run
                  else bif (!((true && ok1 z.on z.fwd z.d c && true && false) == false && ((true && ok1 z.on z.fwd z.d c && true && tr z.on z.fwd z.d c (p i.toNat) (q i.toNat)) == false && ((true && ok1 z.on z.fwd z.d c && true && false) == false && true)))) then some (.rt, ⟨(nas 91), []⟩)
                  else (loopF XD k 3 0 7 (hd3 n m p q z (IntKind.i64.wrap (run + 1)) (IntKind.i64.wrap (i + 1)) (sel (true && ok1 z.on z.fwd z.d c && true) 0) (sel (true && ok1 z.on z.fwd z.d c && true) (nx z.on z.fwd z.d c (p i.toNat) (q i.toNat))) (sel (true && ok1 z.on z.fwd z.d c && true) 0))).run
                else bif (!((true && ok1 z.on z.fwd z.d c && true && false) == false && ((true && ok1 z.on z.fwd z.d c && true && tr z.on z.fwd z.d c (p i.toNat) (q i.toNat)) == false && ((true && ok1 z.on z.fwd z.d c && true && false) == false && true)))) then some (.rt, ⟨(nas 91), []⟩)
                else (loopF XD k 3 0 7 (hd3 n m p q z (IntKind.i64.wrap (run + 1)) (IntKind.i64.wrap (i + 1)) (sel (true && ok1 z.on z.fwd z.d c && true) 0) (sel (true && ok1 z.on z.fwd z.d c && true) (nx z.on z.fwd z.d c (p i.toNat) (q i.toNat))) (sel (true && ok1 z.on z.fwd z.d c && true) 0))).run
              else bif (!((true && ok1 z.on z.fwd z.d c && true && false) == false && ((true && ok1 z.on z.fwd z.d c && true && tr z.on z.fwd z.d c (p i.toNat) (q i.toNat)) == false && ((true && ok1 z.on z.fwd z.d c && true && false) == false && true)))) then some (.rt, ⟨(nas 91), []⟩)
              else (loopF XD k 3 0 7 (hd3 n m p q z (IntKind.i64.wrap (run + 1)) (IntKind.i64.wrap (i + 1)) (sel (true && ok1 z.on z.fwd z.d c && true) 0) (sel (true && ok1 z.on z.fwd z.d c && true) (nx z.on z.fwd z.d c (p i.toNat) (q i.toNat))) (sel (true && ok1 z.on z.fwd z.d c && true) 0))).run
            else bif (!((true && ok1 z.on z.fwd z.d c && true && false) == false && ((true && ok1 z.on z.fwd z.d c && true && tr z.on z.fwd z.d c (p i.toNat) (q i.toNat)) == false && ((true && ok1 z.on z.fwd z.d c && true && false) == false && true)))) then some (.rt, ⟨(nas 91), []⟩)
            else (loopF XD k 3 0 7 (hd3 n m p q z (IntKind.i64.wrap (run + 1)) (IntKind.i64.wrap (i + 1)) (sel (true && ok1 z.on z.fwd z.d c && true) 0) (sel (true && ok1 z.on z.fwd z.d c && true) (nx z.on z.fwd z.d c (p i.toNat) (q i.toNat))) (sel (true && ok1 z.on z.fwd z.d c && true) 0))).run
          else none
        else none
      else none
    else none
  else some ((.ex 0), ⟨(nas 91), []⟩) := by kernel_rfl
/-- The count of a zone that has been picked up for so many steps. -/
def cOf (z : Zn) (run : Int) : Int := if us z.on z.fwd z.d = true then (if run ≤ z.d then run else z.d + 1) else 0
theorem cOf_zero (z : Zn) : cOf z 0 = 0 := by
  unfold cOf
  split
  · rename_i h; have := us_range h; rw [if_pos this.1]
  · rfl
theorem cOf_ok {z : Zn} {run : Int} (h : 0 ≤ run) : ok1 z.on z.fwd z.d (cOf z run) = true := by
  unfold ok1 within cOf lim
  cases h1 : us z.on z.fwd z.d
  · simp
  · have := us_range h1
    by_cases h2 : run ≤ z.d
    · simp [h2]; omega
    · simp [h2]; omega
theorem nx_cOf (z : Zn) (run : Int) (P Q : Bool) : nx z.on z.fwd z.d (cOf z run) P Q = cOf z (if P && !Q then run + 1 else 0) := by
  unfold nx act
  cases h : us z.on z.fwd z.d
  · simp [cOf, h]
  · have hr := us_range h
    cases P <;> cases Q <;> (try simp [cOf_zero]; done)
    simp only [cOf, h, if_true, Bool.and_true, Bool.not_false]
    split <;> split <;> (try split) <;> omega
theorem tr_cOf (z : Zn) {run : Int} (P Q : Bool) (hr : 0 ≤ run) : tr z.on z.fwd z.d (cOf z run) P Q = (us z.on z.fwd z.d && decide ((if P && !Q then run + 1 else 0) > z.d)) := by
  unfold tr act
  cases h : us z.on z.fwd z.d
  · simp
  · have h2 := us_range h
    cases P <;> cases Q <;> (try (simp; omega)) <;> (try (simp; done))
    simp only [cOf, h, if_true, Bool.and_true, Bool.not_false, Bool.true_and, decide_eq_decide]
    split <;> omega
theorem on_us {z : Zn} : us z.on z.fwd z.d = (bif z.on then bif z.fwd then bif decide (z.d ≥ 0) then decide (z.d ≤ 500) else false else false else false) := by
  unfold us
  cases z.on <;> cases z.fwd <;> (try rfl)
  by_cases h : z.d ≥ 0
  · have h' : 0 ≤ z.d := h
    simp [h']
  · have h' : ¬ 0 ≤ z.d := h
    simp [h']
theorem sel_true (n : Int) : sel true n = n := rfl
set_option maxHeartbeats 2000000 in
theorem delays_loop (n : Nat) (p q : Nat → Bool) (z : Zn) (hn : n ≤ 80) : ∀ (d : Nat) (run i : Int), 0 ≤ run → run ≤ i → i + d = n →
    (loopF XD (d + 1) 3 0 7 (hd3 n n p q z run i 0 (cOf z run) 0)).run = some (.ex 0, ⟨nas 91, []⟩) := by
  intro d
  induction d with
  | zero =>
    intro run i h1 h2 h3
    rw [delays_i]
    have : decide (i < (n : Int)) = false := by rw [decide_eq_false_iff_not]; omega
    rw [this]; rfl
  | succ d ih =>
    intro run i h1 h2 h3
    rw [delays_i]
    have e1 : decide (i < (n : Int)) = true := by rw [decide_eq_true_eq]; omega
    have e2 : decide (0 ≤ i) = true := by rw [decide_eq_true_eq]; omega
    have k1 := ih (run + 1) (i + 1) (by omega) (by omega) (by omega)
    have k0 := ih 0 (i + 1) (by omega) (by omega) (by omega)
    rw [wrap_id (n := i + 1) (by omega) (by omega), wrap_id (n := run + 1) (by omega) (by omega)]
    simp only [e1, e2, cOf_ok h1, nx_cOf, tr_cOf z _ _ h1, Bool.and_true, Bool.true_and, Bool.and_false, cond_true, sel_true, beq_self_eq_true]
    generalize p i.toNat = P
    generalize q i.toNat = Q
    rw [cOf_zero] at k0
    simp only [on_us]
    cases hd0 : decide (z.d ≥ 0) <;> cases hd5 : decide (z.d ≤ 500) <;> cases hon : z.on <;> cases hfw : z.fwd <;> cases P <;> cases Q <;>
      simp [cOf_zero, k0, k1] <;> (try (simp only [decide_eq_true_eq, decide_eq_false_iff_not] at hd0; omega))
/-- The loop's states at its beginning. -/
noncomputable def inv3 (s : St) : Bool := @decide (∃ (n : Nat) (p q : Nat → Bool) (z : Zn), n ≤ 80 ∧ s = hd3 n n p q z 0 0 0 0 0) (Classical.propDecidable _)
noncomputable def lpD (g : FuncId) (o : Option Nat) (m : Nat) : Option (St → T (Ex × St)) :=
  if g = 3 ∧ o = some 7 ∧ m = 0 then some fun s => .ite (inv3 s) (.ret (.ex 0, ⟨nas 91, []⟩)) .fail else none
noncomputable def XL : Ctx := { XD with lp := lpD }
theorem goodL : Sx.Good Try.prog XL := goodD.loop lpD fun g o m f h => by
  right
  unfold lpD at h
  split at h
  · rename_i hg
    obtain ⟨rfl, rfl, rfl⟩ := hg
    injection h with h; subst h
    refine ⟨7, rfl, by kernel_rfl, fun s r hr => ?_⟩
    simp only [T.run] at hr
    cases hi : inv3 s
    · rw [hi] at hr; cases hr
    · rw [hi] at hr
      simp only [inv3, decide_eq_true_eq] at hi
      obtain ⟨n, p, q, z, hn, rfl⟩ := hi
      injection hr with hr; subst hr
      refine ⟨n + 1, ?_⟩
      rw [← loopF_eq]
      have := delays_loop n p q z hn n 0 0 (by omega) (by omega) (by omega)
      rw [cOf_zero] at this
      exact this
  · cases h
theorem delays_f (n m : Nat) (p q : Nat → Bool) (z : Zn) : (callF XL 100 3 [.agg (zc z), bs n p, bs m q] []).run =
    bif ((n : Int) != m) then some (vB true, []) else bif decide ((n : Int) > 80) then some (vB true, []) else bif inv3 (hd3 n m p q z 0 0 0 0 0) then some (vB true, []) else none := by kernel_rfl
theorem delays_s (n m : Nat) (p q : Nat → Bool) (z : Zn) : (callF XL 100 3 [.agg (zc z), bs n p, bs m q] []).run = some (vB true, []) := by
  rw [delays_f]
  by_cases h : (n : Int) = m
  · have hm : n = m := by omega
    subst hm
    by_cases h2 : (n : Int) > 80
    · simp [h2]
    · have : inv3 (hd3 n n p q z 0 0 0 0 0) = true := by
        simp only [inv3, decide_eq_true_eq]
        exact ⟨n, p, q, z, by omega, rfl⟩
      simp [h2, this]
  · have : ((n : Int) != m) = true := by simpa using h
    rw [this]; rfl
end Go.Proofs.Ytgedeiegegodkaa
