/- The law of shorter delays: its loop. -/
import Derived.Test.YtgedeiegegodkaaZ7
set_option linter.unusedVariables false
set_option linter.unusedSimpArgs false
set_option linter.unusedSectionVars false
namespace Go.Proofs.Ytgedeiegegodkaa
open Go Go.Sx
noncomputable def XM : Ctx := { X5 with keep := fun f k => if f = 4 ∧ k = 8 then some [8, 9, 38, 39, 40] else if f = 4 ∧ k = 3000008 then some [] else none }
theorem goodM : Sx.Good Try.prog XM := good5.keep _
def hd4 (n : Nat) (p : Nat → Bool) (z s : Zn) (i c0 c1 c2 : Int) : St :=
  ⟨nas 8 ++ [.s (.ptr 0 0), .s (.ptr 1 0)] ++ nas 28 ++ [bs n p, vI n, vI i] ++ nas 27, [.cells (zc z ++ zc s ++ zc ⟨false, false, 0, 0, 0, 0⟩), .cells [cI c0, cI c1, cI c2]]⟩
theorem mono_i (k n : Nat) (p : Nat → Bool) (z s : Zn) (i c0 c1 : Int) : (loopF XM (k + 1) 4 0 8 (hd4 n p z s i c0 c1 0)).run =
  bif (decide (i < ↑n)) then bif (decide (0 ≤ i) && decide (i < ↑n)) then bif (ok1 z.on z.fwd z.d c0 && ok1 s.on s.fwd s.d c1 && true && tr z.on z.fwd z.d c0 (p i.toNat) false) then bif (!(ok1 z.on z.fwd z.d c0 && ok1 s.on s.fwd s.d c1 && true && tr s.on s.fwd s.d c1 (p i.toNat) false)) then some (.rt, ⟨(nas 68), []⟩)
        else bif (ok1 z.on z.fwd z.d c0 && ok1 s.on s.fwd s.d c1 && true && false) then some (.rt, ⟨(nas 68), []⟩)
        else (loopF XM k 4 0 8 (hd4 n p z s (IntKind.i64.wrap (i + 1)) (sel (ok1 z.on z.fwd z.d c0 && ok1 s.on s.fwd s.d c1 && true) (nx z.on z.fwd z.d c0 (p i.toNat) false)) (sel (ok1 z.on z.fwd z.d c0 && ok1 s.on s.fwd s.d c1 && true) (nx s.on s.fwd s.d c1 (p i.toNat) false)) (sel (ok1 z.on z.fwd z.d c0 && ok1 s.on s.fwd s.d c1 && true) 0))).run
      else bif (ok1 z.on z.fwd z.d c0 && ok1 s.on s.fwd s.d c1 && true && false) then some (.rt, ⟨(nas 68), []⟩)
      else (loopF XM k 4 0 8 (hd4 n p z s (IntKind.i64.wrap (i + 1)) (sel (ok1 z.on z.fwd z.d c0 && ok1 s.on s.fwd s.d c1 && true) (nx z.on z.fwd z.d c0 (p i.toNat) false)) (sel (ok1 z.on z.fwd z.d c0 && ok1 s.on s.fwd s.d c1 && true) (nx s.on s.fwd s.d c1 (p i.toNat) false)) (sel (ok1 z.on z.fwd z.d c0 && ok1 s.on s.fwd s.d c1 && true) 0))).run
    else none
  else some ((.ex 0), ⟨(nas 68), []⟩) := by kernel_rfl
theorem trs {z s : Zn} (h : us z.on z.fwd z.d = true → us s.on s.fwd s.d = true ∧ s.d ≤ z.d) {R : Int} (ht : (us z.on z.fwd z.d && decide (R > z.d)) = true) : (us s.on s.fwd s.d && decide (R > s.d)) = true := by
  simp only [Bool.and_eq_true, decide_eq_true_eq] at ht ⊢
  obtain ⟨h1, h2⟩ := h ht.1
  exact ⟨h1, by omega⟩
theorem mono_loop (n : Nat) (hn : n ≤ 60) (p : Nat → Bool) (z s : Zn) (h : us z.on z.fwd z.d = true → us s.on s.fwd s.d = true ∧ s.d ≤ z.d) : ∀ (d : Nat) (run i : Int), 0 ≤ run → 0 ≤ i → i + d = n →
    (loopF XM (d + 1) 4 0 8 (hd4 n p z s i (cOf z run) (cOf s run) 0)).run = some (.ex 0, ⟨nas 68, []⟩) := by
  intro d
  induction d with
  | zero =>
    intro run i h1 h2 h3
    rw [mono_i]
    have : decide (i < (n : Int)) = false := by rw [decide_eq_false_iff_not]; omega
    rw [this]; rfl
  | succ d ih =>
    intro run i h1 h2 h3
    rw [mono_i]
    have e1 : decide (i < (n : Int)) = true := by rw [decide_eq_true_eq]; omega
    have e2 : decide (0 ≤ i) = true := by rw [decide_eq_true_eq]; omega
    have k := ih (if p i.toNat && !false then run + 1 else 0) (i + 1) (by split <;> omega) (by omega) (by omega)
    rw [wrap_id (n := i + 1) (by omega) (by omega)]
    simp only [e1, e2, cOf_ok h1, nx_cOf, tr_cOf _ _ _ h1, Bool.and_true, Bool.true_and, Bool.and_false, cond_true, cond_false, sel_true, k]
    cases ht : (us z.on z.fwd z.d && decide ((if (p i.toNat && !false) = true then run + 1 else 0) > z.d))
    · rfl
    · rw [trs h ht]; rfl
noncomputable def inv4 (s : St) : Bool := @decide (∃ (n : Nat) (p : Nat → Bool) (z s' : Zn), n ≤ 60 ∧ (us z.on z.fwd z.d = true → us s'.on s'.fwd s'.d = true ∧ s'.d ≤ z.d) ∧ s = hd4 n p z s' 0 0 0 0) (Classical.propDecidable _)
noncomputable def lpM (g : FuncId) (o : Option Nat) (m : Nat) : Option (St → T (Ex × St)) :=
  if g = 4 ∧ o = some 8 ∧ m = 0 then some fun s => .ite (inv4 s) (.ret (.ex 0, ⟨nas 68, []⟩)) .fail else none
noncomputable def XN : Ctx := { XM with lp := lpM }
theorem goodN : Sx.Good Try.prog XN := goodM.loop lpM fun g o m f h => by
  right
  unfold lpM at h
  split at h
  · rename_i hg
    obtain ⟨rfl, rfl, rfl⟩ := hg
    injection h with h; subst h
    refine ⟨8, rfl, by kernel_rfl, fun s r hr => ?_⟩
    simp only [T.run] at hr
    cases hi : inv4 s
    · rw [hi] at hr; cases hr
    · rw [hi] at hr
      simp only [inv4, decide_eq_true_eq] at hi
      obtain ⟨n, p, z, s', hn, hz, rfl⟩ := hi
      injection hr with hr; subst hr
      refine ⟨n + 1, ?_⟩
      rw [← loopF_eq]
      have := mono_loop n hn p z s' hz n 0 0 (by omega) (by omega) (by omega)
      rw [cOf_zero, cOf_zero] at this
      exact this
  · cases h
def shorter (z : Zn) (less : Int) : Zn := ⟨z.on, z.fwd, z.x, z.r, z.l, IntKind.i64.wrap (z.d - less)⟩
theorem mono_f (n : Nat) (p : Nat → Bool) (z : Zn) (less : Int) : (callF XN 100 4 [.agg (zc z), vI less, bs n p] []).run =
    bif decide (less < 0) then some (vB true, []) else bif decide (less > z.d) then some (vB true, []) else bif decide ((n : Int) > 60) then some (vB true, []) else
      bif inv4 (hd4 n p z (shorter z less) 0 0 0 0) then some (vB true, []) else none := by kernel_rfl
theorem mono_s (n : Nat) (p : Nat → Bool) (z : Zn) (less : Int) (hz : z.d ≤ 9223372036854775807) : (callF XN 100 4 [.agg (zc z), vI less, bs n p] []).run = some (vB true, []) := by
  rw [mono_f]
  by_cases h1 : less < 0
  · simp [h1]
  by_cases h2 : less > z.d
  · simp [h2]
  by_cases h3 : (n : Int) > 60
  · simp [h3]
  have : inv4 (hd4 n p z (shorter z less) 0 0 0 0) = true := by
    simp only [inv4, decide_eq_true_eq]
    refine ⟨n, p, z, shorter z less, by omega, fun hu => ?_, rfl⟩
    have hr := us_range hu
    have hw : (shorter z less).d = z.d - less := wrap_id (by omega) (by omega)
    refine ⟨?_, by rw [hw]; omega⟩
    rw [hw]
    simp only [us, Bool.and_eq_true, decide_eq_true_eq] at hu ⊢
    exact ⟨⟨hu.1.1, by omega⟩, by omega⟩
  simp [h1, h2, h3, this]
end Go.Proofs.Ytgedeiegegodkaa
