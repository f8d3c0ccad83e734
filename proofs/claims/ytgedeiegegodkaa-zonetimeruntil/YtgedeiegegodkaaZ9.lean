/- The law of successive equal steps: its loop. -/
import Derived.Test.YtgedeiegegodkaaZ7
set_option linter.unusedVariables false
set_option linter.unusedSimpArgs false
set_option linter.unusedSectionVars false
namespace Go.Proofs.Ytgedeiegegodkaa
open Go Go.Sx
noncomputable def XU : Ctx := { X5 with keep := fun f k => if f = 7 ∧ k = 6 then some [3, 4, 7, 8, 9, 10, 11] else if f = 7 ∧ k = 3000006 then some [9, 10] else none }
theorem goodU : Sx.Good Try.prog XU := good5.keep _
def hd7 (z0 z1 z2 : Zn) (p0 p1 p2 b0 b1 b2 : Bool) (n : Int) (ok : Bool) (i c0 c1 c2 : Int) : St :=
  ⟨[na, na, na, .s (.ptr 0 0), .s (.ptr 1 0), na, na, .s (.ptr 2 0), .s (.ptr 3 0), vI n, vB ok, vI i] ++ nas 66,
    [.cells (zc z0 ++ zc z1 ++ zc z2), .cells [cI c0, cI c1, cI c2], .cells [cB p0, cB p1, cB p2], .cells [cB b0, cB b1, cB b2]]⟩
theorem until_i (k : Nat) (z0 z1 z2 : Zn) (p0 p1 p2 b0 b1 b2 : Bool) (n : Int) (ok : Bool) (i c0 c1 c2 : Int) : (loopF XU (k + 1) 7 0 6 (hd7 z0 z1 z2 p0 p1 p2 b0 b1 b2 n ok i c0 c1 c2)).run =
  bif (decide (i ≤ IntKind.i64.wrap (n + 1))) then bif ok then bif (!(!((ok1 z0.on z0.fwd z0.d c0 && ok1 z1.on z1.fwd z1.d c1 && ok1 z2.on z2.fwd z2.d c2 && tr z0.on z0.fwd z0.d c0 p0 b0) == false && ((ok1 z0.on z0.fwd z0.d c0 && ok1 z1.on z1.fwd z1.d c1 && ok1 z2.on z2.fwd z2.d c2 && tr z1.on z1.fwd z1.d c1 p1 b1) == false && ((ok1 z0.on z0.fwd z0.d c0 && ok1 z1.on z1.fwd z1.d c1 && ok1 z2.on z2.fwd z2.d c2 && tr z2.on z2.fwd z2.d c2 p2 b2) == false && true)))) == decide (i ≥ n)) then some (.rt, ⟨(nas 9 ++ [(vI n), (vB ok)] ++ nas 67), []⟩)
      else (loopF XU k 7 0 6 (hd7 z0 z1 z2 p0 p1 p2 b0 b1 b2 n ok (IntKind.i64.wrap (i + 1)) (sel (ok1 z0.on z0.fwd z0.d c0 && ok1 z1.on z1.fwd z1.d c1 && ok1 z2.on z2.fwd z2.d c2) (nx z0.on z0.fwd z0.d c0 p0 b0)) (sel (ok1 z0.on z0.fwd z0.d c0 && ok1 z1.on z1.fwd z1.d c1 && ok1 z2.on z2.fwd z2.d c2) (nx z1.on z1.fwd z1.d c1 p1 b1)) (sel (ok1 z0.on z0.fwd z0.d c0 && ok1 z1.on z1.fwd z1.d c1 && ok1 z2.on z2.fwd z2.d c2) (nx z2.on z2.fwd z2.d c2 p2 b2)))).run
    else bif (!(!((ok1 z0.on z0.fwd z0.d c0 && ok1 z1.on z1.fwd z1.d c1 && ok1 z2.on z2.fwd z2.d c2 && tr z0.on z0.fwd z0.d c0 p0 b0) == false && ((ok1 z0.on z0.fwd z0.d c0 && ok1 z1.on z1.fwd z1.d c1 && ok1 z2.on z2.fwd z2.d c2 && tr z1.on z1.fwd z1.d c1 p1 b1) == false && ((ok1 z0.on z0.fwd z0.d c0 && ok1 z1.on z1.fwd z1.d c1 && ok1 z2.on z2.fwd z2.d c2 && tr z2.on z2.fwd z2.d c2 p2 b2) == false && true)))) == false) then some (.rt, ⟨(nas 9 ++ [(vI n), (vB ok)] ++ nas 67), []⟩)
    else (loopF XU k 7 0 6 (hd7 z0 z1 z2 p0 p1 p2 b0 b1 b2 n ok (IntKind.i64.wrap (i + 1)) (sel (ok1 z0.on z0.fwd z0.d c0 && ok1 z1.on z1.fwd z1.d c1 && ok1 z2.on z2.fwd z2.d c2) (nx z0.on z0.fwd z0.d c0 p0 b0)) (sel (ok1 z0.on z0.fwd z0.d c0 && ok1 z1.on z1.fwd z1.d c1 && ok1 z2.on z2.fwd z2.d c2) (nx z1.on z1.fwd z1.d c1 p1 b1)) (sel (ok1 z0.on z0.fwd z0.d c0 && ok1 z1.on z1.fwd z1.d c1 && ok1 z2.on z2.fwd z2.d c2) (nx z2.on z2.fwd z2.d c2 p2 b2)))).run
  else some ((.ex 0), ⟨(nas 9 ++ [(vI n), (vB ok)] ++ nas 67), []⟩) := by kernel_rfl
/-- A zone's count after so many steps. -/
def cA (a : Bool) (d c j : Int) : Int := if a then (if c + j ≤ d + 1 then c + j else d + 1) else (if j = 0 then c else 0)
section
variable {on fwd p b : Bool} {d c j : Int}
theorem cA_ok (hc : ok1 on fwd d c = true) (hj : 0 ≤ j) : ok1 on fwd d (cA (act on fwd d p b) d c j) = true := by
  unfold cA
  cases ha : act on fwd d p b
  · simp only [Bool.false_eq_true, if_false]
    split
    · exact hc
    · exact ok1_zero on fwd d
  · have h1 := us_range (act_us ha)
    have h2 := ok1_range hc
    simp only [ok1, within, Bool.and_eq_true, decide_eq_true_eq, if_true]
    rw [lim, if_pos (act_us ha)] at *
    split <;> omega
theorem cA_nx (hc : ok1 on fwd d c = true) (hj : 0 ≤ j) : nx on fwd d (cA (act on fwd d p b) d c j) p b = cA (act on fwd d p b) d c (j + 1) := by
  unfold nx cA
  cases ha : act on fwd d p b
  · simp only [Bool.false_eq_true, if_false]
    rw [if_neg (by omega)]
  · have h1 := us_range (act_us ha)
    have h2 := ok1_range hc
    rw [lim, if_pos (act_us ha)] at h2
    simp only [if_true]
    split <;> split <;> split <;> omega
theorem cA_tr (hc : ok1 on fwd d c = true) (hj : 0 ≤ j) : tr on fwd d (cA (act on fwd d p b) d c j) p b = (act on fwd d p b && decide (um d c ≤ j + 1)) := by
  unfold tr cA um
  cases ha : act on fwd d p b
  · rfl
  · have h1 := us_range (act_us ha)
    have h2 := ok1_range hc
    rw [lim, if_pos (act_us ha)] at h2
    simp only [if_true, Bool.true_and, decide_eq_decide]
    split <;> split <;> omega
theorem cA_begin (hc : ok1 on fwd d c = true) : cA (act on fwd d p b) d c 0 = c := by
  unfold cA
  cases ha : act on fwd d p b
  · rfl
  · have h2 := ok1_range hc
    rw [lim, if_pos (act_us ha)] at h2
    simp only [if_true]
    split <;> omega
end
theorem unt_le {a0 a1 a2 : Bool} {n0 n1 n2 i : Int} (h0 : 1 ≤ n0) (h1 : 1 ≤ n1) (h2 : 1 ≤ n2) :
    ((a0 && decide (n0 ≤ i)) || (a1 && decide (n1 ≤ i)) || (a2 && decide (n2 ≤ i))) = ((a0 || a1 || a2) && decide (unt a0 n0 a1 n1 a2 n2 ≤ i)) := by
  have e : ∀ n : Int, 1 ≤ n → (n == 0) = false := fun n hn => by rw [beq_eq_false_iff_ne]; omega
  unfold unt
  cases a0 <;> cases a1 <;> cases a2 <;> simp only [least, cond_true, cond_false, Bool.false_and, Bool.true_and, Bool.false_or, Bool.or_false, Bool.true_or, Bool.or_true, beq_self_eq_true, e n0 h0, e n1 h1, e n2 h2]
  · by_cases q : n2 < n1
    · simp only [q, decide_true, cond_true]; rw [Bool.eq_iff_iff]; simp; omega
    · simp only [q, decide_false, cond_false, e n1 h1]; rw [Bool.eq_iff_iff]; simp; omega
  · by_cases q : n2 < n0
    · simp only [q, decide_true, cond_true]; rw [Bool.eq_iff_iff]; simp; omega
    · simp only [q, decide_false, cond_false, e n0 h0]; rw [Bool.eq_iff_iff]; simp; omega
  · by_cases q : n1 < n0
    · simp only [q, decide_true, cond_true]; rw [Bool.eq_iff_iff]; simp; omega
    · simp only [q, decide_false, cond_false, e n0 h0]; rw [Bool.eq_iff_iff]; simp; omega
  · by_cases q : n1 < n0
    · simp only [q, decide_true, cond_true, e n1 h1, Bool.false_or]
      by_cases q2 : n2 < n1
      · simp only [q2, decide_true, cond_true]; rw [Bool.eq_iff_iff]; simp; omega
      · simp only [q2, decide_false, cond_false]; rw [Bool.eq_iff_iff]; simp; omega
    · simp only [q, decide_false, cond_false, e n0 h0, Bool.false_or]
      by_cases q2 : n2 < n0
      · simp only [q2, decide_true, cond_true]; rw [Bool.eq_iff_iff]; simp; omega
      · simp only [q2, decide_false, cond_false]; rw [Bool.eq_iff_iff]; simp; omega
theorem unt_pos {a0 a1 a2 : Bool} {n0 n1 n2 : Int} (h0 : 1 ≤ n0) (h1 : 1 ≤ n1) (h2 : 1 ≤ n2) : 0 ≤ unt a0 n0 a1 n1 a2 n2 ∧ decide (unt a0 n0 a1 n1 a2 n2 > 0) = (a0 || a1 || a2) := by
  have hle := unt_le (a0 := a0) (a1 := a1) (a2 := a2) (i := 0) h0 h1 h2
  have f0 : decide (n0 ≤ 0) = false := by rw [decide_eq_false_iff_not]; omega
  have f1 : decide (n1 ≤ 0) = false := by rw [decide_eq_false_iff_not]; omega
  have f2 : decide (n2 ≤ 0) = false := by rw [decide_eq_false_iff_not]; omega
  rw [f0, f1, f2] at hle
  cases ha : (a0 || a1 || a2)
  · simp only [Bool.or_eq_false_iff] at ha
    obtain ⟨⟨rfl, rfl⟩, rfl⟩ := ha
    simp [unt, least]
  · rw [ha] at hle
    simp only [Bool.and_false, Bool.or_false, Bool.true_and] at hle
    have := of_decide_eq_false hle.symm
    refine ⟨by omega, ?_⟩
    rw [decide_eq_true_eq]; omega
theorem not_not_eq (a b c : Bool) : (!(a == false && (b == false && (c == false && true)))) = (a || b || c) := by cases a <;> cases b <;> cases c <;> rfl
def V3 (z0 z1 z2 : Zn) (c0 c1 c2 : Int) : Prop := ok1 z0.on z0.fwd z0.d c0 = true ∧ ok1 z1.on z1.fwd z1.d c1 = true ∧ ok1 z2.on z2.fwd z2.d c2 = true
abbrev a3 (z : Zn) (p b : Bool) : Bool := act z.on z.fwd z.d p b
abbrev okOf (z0 z1 z2 : Zn) (p0 p1 p2 b0 b1 b2 : Bool) : Bool := a3 z0 p0 b0 || a3 z1 p1 b1 || a3 z2 p2 b2
abbrev nOf (z0 z1 z2 : Zn) (p0 p1 p2 b0 b1 b2 : Bool) (c0 c1 c2 : Int) : Int := unt (a3 z0 p0 b0) (um z0.d c0) (a3 z1 p1 b1) (um z1.d c1) (a3 z2 p2 b2) (um z2.d c2)
def out7 (n : Int) (ok : Bool) : Ex × St := (.ex 0, ⟨nas 9 ++ [vI n, vB ok] ++ nas 67, []⟩)
theorem until_loop (z0 z1 z2 : Zn) (p0 p1 p2 b0 b1 b2 : Bool) (c0 c1 c2 : Int) (hV : V3 z0 z1 z2 c0 c1 c2) (hn : nOf z0 z1 z2 p0 p1 p2 b0 b1 b2 c0 c1 c2 ≤ 60) : ∀ (d : Nat) (j : Int), 0 ≤ j → j + d = nOf z0 z1 z2 p0 p1 p2 b0 b1 b2 c0 c1 c2 + 1 →
    (loopF XU (d + 1) 7 0 6 (hd7 z0 z1 z2 p0 p1 p2 b0 b1 b2 (nOf z0 z1 z2 p0 p1 p2 b0 b1 b2 c0 c1 c2) (okOf z0 z1 z2 p0 p1 p2 b0 b1 b2) (j + 1) (cA (a3 z0 p0 b0) z0.d c0 j) (cA (a3 z1 p1 b1) z1.d c1 j) (cA (a3 z2 p2 b2) z2.d c2 j))).run
      = some (out7 (nOf z0 z1 z2 p0 p1 p2 b0 b1 b2 c0 c1 c2) (okOf z0 z1 z2 p0 p1 p2 b0 b1 b2)) := by
  obtain ⟨v0, v1, v2⟩ := hV
  have hle := fun i => unt_le (a0 := a3 z0 p0 b0) (a1 := a3 z1 p1 b1) (a2 := a3 z2 p2 b2) (i := i) (um_pos z0.d c0) (um_pos z1.d c1) (um_pos z2.d c2)
  have hpos := (unt_pos (a0 := a3 z0 p0 b0) (a1 := a3 z1 p1 b1) (a2 := a3 z2 p2 b2) (um_pos z0.d c0) (um_pos z1.d c1) (um_pos z2.d c2)).1
  intro d
  induction d with
  | zero =>
    intro j h1 h2
    rw [until_i, wrap_id (n := nOf z0 z1 z2 p0 p1 p2 b0 b1 b2 c0 c1 c2 + 1) (by omega) (by omega)]
    have : decide (j + 1 ≤ nOf z0 z1 z2 p0 p1 p2 b0 b1 b2 c0 c1 c2 + 1) = false := by rw [decide_eq_false_iff_not]; omega
    rw [this]; rfl
  | succ d ih =>
    intro j h1 h2
    have k := ih (j + 1) (by omega) (by omega)
    rw [until_i, wrap_id (n := nOf z0 z1 z2 p0 p1 p2 b0 b1 b2 c0 c1 c2 + 1) (by omega) (by omega), wrap_id (n := j + 1 + 1) (by omega) (by omega)]
    have e1 : decide (j + 1 ≤ nOf z0 z1 z2 p0 p1 p2 b0 b1 b2 c0 c1 c2 + 1) = true := by rw [decide_eq_true_eq]; omega
    simp only [e1, cA_ok v0 h1, cA_ok v1 h1, cA_ok v2 h1, cA_nx v0 h1, cA_nx v1 h1, cA_nx v2 h1, cA_tr v0 h1, cA_tr v1 h1, cA_tr v2 h1, Bool.true_and, Bool.and_self, cond_true, sel_true, k, not_not_eq, hle (j + 1)]
    cases ho : okOf z0 z1 z2 p0 p1 p2 b0 b1 b2
    · rw [show ((a3 z0 p0 b0 || a3 z1 p1 b1 || a3 z2 p2 b2)) = false from ho]; rfl
    · rw [show ((a3 z0 p0 b0 || a3 z1 p1 b1 || a3 z2 p2 b2)) = true from ho]
      simp [ge_iff_le]
noncomputable def inv7 (s : St) : Bool := @decide (∃ (z0 z1 z2 : Zn) (p0 p1 p2 b0 b1 b2 : Bool) (c0 c1 c2 : Int), V3 z0 z1 z2 c0 c1 c2 ∧ nOf z0 z1 z2 p0 p1 p2 b0 b1 b2 c0 c1 c2 ≤ 60 ∧
  s = hd7 z0 z1 z2 p0 p1 p2 b0 b1 b2 (nOf z0 z1 z2 p0 p1 p2 b0 b1 b2 c0 c1 c2) (okOf z0 z1 z2 p0 p1 p2 b0 b1 b2) 1 c0 c1 c2) (Classical.propDecidable _)
def intV : AV → Int
  | .c (.s (.d (.c (.int _ n)))) => n
  | _ => 0
def boolV : AV → Bool
  | .c (.s (.d (.c (.bool b)))) => b
  | _ => false
noncomputable def lpU (g : FuncId) (o : Option Nat) (m : Nat) : Option (St → T (Ex × St)) :=
  if g = 7 ∧ o = some 6 ∧ m = 0 then some fun s => .ite (inv7 s) (.ret (out7 (intV (nthA s.env 9)) (boolV (nthA s.env 10)))) .fail else none
noncomputable def XV : Ctx := { XU with lp := lpU }
theorem goodV : Sx.Good Try.prog XV := goodU.loop lpU fun g o m f h => by
  right
  unfold lpU at h
  split at h
  · rename_i hg
    obtain ⟨rfl, rfl, rfl⟩ := hg
    injection h with h; subst h
    refine ⟨6, rfl, by kernel_rfl, fun s r hr => ?_⟩
    simp only [T.run] at hr
    cases hi : inv7 s
    · rw [hi] at hr; cases hr
    · rw [hi] at hr
      simp only [inv7, decide_eq_true_eq] at hi
      obtain ⟨z0, z1, z2, p0, p1, p2, b0, b1, b2, c0, c1, c2, hV, hn, rfl⟩ := hi
      injection hr with hr; subst hr
      have hpos : 0 ≤ nOf z0 z1 z2 p0 p1 p2 b0 b1 b2 c0 c1 c2 := (unt_pos (a0 := a3 z0 p0 b0) (a1 := a3 z1 p1 b1) (a2 := a3 z2 p2 b2) (um_pos z0.d c0) (um_pos z1.d c1) (um_pos z2.d c2)).1
      refine ⟨(nOf z0 z1 z2 p0 p1 p2 b0 b1 b2 c0 c1 c2 + 1).toNat + 1, ?_⟩
      rw [← loopF_eq]
      have := until_loop z0 z1 z2 p0 p1 p2 b0 b1 b2 c0 c1 c2 hV hn (nOf z0 z1 z2 p0 p1 p2 b0 b1 b2 c0 c1 c2 + 1).toNat 0 (by omega) (by rw [Int.toNat_of_nonneg (by omega)]; omega)
      rw [cA_begin hV.1, cA_begin hV.2.1, cA_begin hV.2.2] at this
      exact this
  · cases h
abbrev okV (z0 z1 z2 : Zn) (c0 c1 c2 : Int) : Bool := ok1 z0.on z0.fwd z0.d c0 && ok1 z1.on z1.fwd z1.d c1 && ok1 z2.on z2.fwd z2.d c2
theorem until_f (z0 z1 z2 : Zn) (c0 c1 c2 : Int) (p0 p1 p2 b0 b1 b2 : Bool) : (callF XV 100 7 [.agg (zc z0 ++ zc z1 ++ zc z2), .agg [cI c0, cI c1, cI c2], .agg [cB p0, cB p1, cB p2, cB b0, cB b1, cB b2]] []).run =
    bif decide (sel (okV z0 z1 z2 c0 c1 c2) (nOf z0 z1 z2 p0 p1 p2 b0 b1 b2 c0 c1 c2) > 60) then bif okV z0 z1 z2 c0 c1 c2 then some (vB true, []) else bif sel (okV z0 z1 z2 c0 c1 c2) (nOf z0 z1 z2 p0 p1 p2 b0 b1 b2 c0 c1 c2) == 0 then some (vB !(okV z0 z1 z2 c0 c1 c2 && okOf z0 z1 z2 p0 p1 p2 b0 b1 b2), []) else some (vB false, [])
    else bif !okV z0 z1 z2 c0 c1 c2 then bif okV z0 z1 z2 c0 c1 c2 then some (vB true, []) else bif sel (okV z0 z1 z2 c0 c1 c2) (nOf z0 z1 z2 p0 p1 p2 b0 b1 b2 c0 c1 c2) == 0 then some (vB !(okV z0 z1 z2 c0 c1 c2 && okOf z0 z1 z2 p0 p1 p2 b0 b1 b2), []) else some (vB false, [])
    else bif inv7 (hd7 z0 z1 z2 p0 p1 p2 b0 b1 b2 (sel (okV z0 z1 z2 c0 c1 c2) (nOf z0 z1 z2 p0 p1 p2 b0 b1 b2 c0 c1 c2)) (okV z0 z1 z2 c0 c1 c2 && okOf z0 z1 z2 p0 p1 p2 b0 b1 b2) 1 c0 c1 c2) then
      some (vB ((okV z0 z1 z2 c0 c1 c2 && okOf z0 z1 z2 p0 p1 p2 b0 b1 b2) == decide (sel (okV z0 z1 z2 c0 c1 c2) (nOf z0 z1 z2 p0 p1 p2 b0 b1 b2 c0 c1 c2) > 0)), []) else none := by kernel_rfl
theorem untils_s (z0 z1 z2 : Zn) (c0 c1 c2 : Int) (p0 p1 p2 b0 b1 b2 : Bool) : (callF XV 100 7 [.agg (zc z0 ++ zc z1 ++ zc z2), .agg [cI c0, cI c1, cI c2], .agg [cB p0, cB p1, cB p2, cB b0, cB b1, cB b2]] []).run = some (vB true, []) := by
  rw [until_f]
  have hpos := (unt_pos (a0 := a3 z0 p0 b0) (a1 := a3 z1 p1 b1) (a2 := a3 z2 p2 b2) (um_pos z0.d c0) (um_pos z1.d c1) (um_pos z2.d c2)).2
  cases hv : okV z0 z1 z2 c0 c1 c2
  · rfl
  · show (bif decide (nOf z0 z1 z2 p0 p1 p2 b0 b1 b2 c0 c1 c2 > 60) then some (vB true, []) else bif inv7 (hd7 z0 z1 z2 p0 p1 p2 b0 b1 b2 (nOf z0 z1 z2 p0 p1 p2 b0 b1 b2 c0 c1 c2) (okOf z0 z1 z2 p0 p1 p2 b0 b1 b2) 1 c0 c1 c2) then
      some (vB (okOf z0 z1 z2 p0 p1 p2 b0 b1 b2 == decide (nOf z0 z1 z2 p0 p1 p2 b0 b1 b2 c0 c1 c2 > 0)), []) else none) = some (vB true, [])
    by_cases h60 : nOf z0 z1 z2 p0 p1 p2 b0 b1 b2 c0 c1 c2 > 60
    · rw [decide_eq_true h60]; rfl
    · rw [decide_eq_false h60, hpos]
      have : inv7 (hd7 z0 z1 z2 p0 p1 p2 b0 b1 b2 (nOf z0 z1 z2 p0 p1 p2 b0 b1 b2 c0 c1 c2) (okOf z0 z1 z2 p0 p1 p2 b0 b1 b2) 1 c0 c1 c2) = true := by
        simp only [inv7, decide_eq_true_eq]
        simp only [Bool.and_eq_true] at hv
        exact ⟨z0, z1, z2, p0, p1, p2, b0, b1, b2, c0, c1, c2, ⟨hv.1.1, hv.1.2, hv.2⟩, by omega, rfl⟩
      rw [this, cond_false, cond_true, beq_self_eq_true]
end Go.Proofs.Ytgedeiegegodkaa
