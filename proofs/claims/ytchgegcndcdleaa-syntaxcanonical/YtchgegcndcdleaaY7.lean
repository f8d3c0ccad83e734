/- What begins a statement; odd bytes. -/
import Derived.Test.YtchgegcndcdleaaY6
set_option linter.unusedVariables false
set_option linter.unusedSimpArgs false
set_option linter.unusedSectionVars false
namespace Go.Proofs.Ytchgegcndcdleaa
open Go Go.Sx
def kp2 (f : FuncId) (k : Nat) : Option (List Nat) :=
  if f = 49 then (if k = 2 then some [1, 2, 10] else if k = 3000002 then some [6] else none)
  else if f = 27 then (if k = 7 then some [1, 3, 25, 26, 27] else if k = 3000007 then some [1, 2] else none)
  else if f = 40 then (if k = 6 then some [1, 3] else if k = 3000006 then some [1, 2] else none)
  else if f = 47 then (if k = 8 then some [1, 3] else if k = 3000008 then some [2] else none)
  else if f = 26 then (if k = 2 then some [1, 2, 3, 10, 11, 12] else if k = 3000002 then some [6] else none)
  else if f = 28 then (if k = 2 then some [0, 1, 2, 8] else if k = 3000002 then some [2, 6, 7] else none)
  else kp f k
noncomputable def B7 : Ctx := { G51 with keep := kp2 }
theorem goodB7 : Sx.Good Try.prog B7 := goodG51.keep kp2
theorem opens_t (s : ByteArray) (q : Bool) : (callF B7 100 36 [.agg [cS s, cB q]] []).run =
    bif !q then bif !strEq s ByteArray.empty then bif true && decide ((0 : Int) < (s.size : Int)) then
      bif decide (IntKind.i32.wrap ((bAt s 0).toNat : Int) ≥ 97) then bif decide (IntKind.i32.wrap ((bAt s 0).toNat : Int) ≤ 122) then some (vB true, []) else bif decide (IntKind.i32.wrap ((bAt s 0).toNat : Int) ≥ 65) then some (vB (decide (IntKind.i32.wrap ((bAt s 0).toNat : Int) ≤ 90)), []) else some (vB false, [])
      else bif decide (IntKind.i32.wrap ((bAt s 0).toNat : Int) ≥ 65) then some (vB (decide (IntKind.i32.wrap ((bAt s 0).toNat : Int) ≤ 90)), []) else some (vB false, [])
      else none else some (vB false, []) else some (vB false, []) := by kernel_rfl
theorem head_t (s : ByteArray) (q : Bool) : (callF B7 100 46 [.agg [cS s, cB q]] []).run =
    bif !q then bif !strEq s ByteArray.empty then bif true && decide ((0 : Int) < (s.size : Int)) then
      bif decide (((bAt s 0).toNat : Int) ≥ 97) then bif decide (((bAt s 0).toNat : Int) ≤ 122) then some (vB true, []) else bif decide (((bAt s 0).toNat : Int) ≥ 65) then some (vB (decide (((bAt s 0).toNat : Int) ≤ 90)), []) else some (vB false, [])
      else bif decide (((bAt s 0).toNat : Int) ≥ 65) then some (vB (decide (((bAt s 0).toNat : Int) ≤ 90)), []) else some (vB false, [])
      else none else some (vB false, []) else some (vB false, []) := by kernel_rfl
def hd49 (s : ByteArray) (pos : Nat) : St := ⟨[na, .c (.f (.func 37) [] []), vB true] ++ nas 7 ++ [.s (.it 0)] ++ nas 10, [.sit s pos]⟩
def letB (c : Int) : Bool := (decide (97 ≤ c) && decide (c ≤ 122)) || (decide (65 ≤ c) && decide (c ≤ 90))
def opB (s : ByteArray) (q : Bool) : Bool := !q && (!strEq s ByteArray.empty && letB ((bAt s 0).toNat : Int))
theorem emp_size {s : ByteArray} (h : strEq s ByteArray.empty = false) : decide ((0 : Int) < (s.size : Int)) = true := by
  rw [decide_eq_true_eq]
  rcases Nat.eq_zero_or_pos s.size with h0 | h0
  · have : s = ByteArray.empty := by
      apply ByteArray.ext
      apply Array.eq_empty_of_size_eq_zero
      exact h0
    subst this
    cases h
  · omega
theorem wrap_u8 (b : UInt8) : IntKind.i32.wrap (b.toNat : Int) = (b.toNat : Int) := by
  have := b.toNat_lt
  simp only [IntKind.wrap, IntKind.bits, IntKind.signed, Bool.true_and, ge_iff_le, decide_eq_true_eq]
  split <;> omega
theorem opens_s (s : ByteArray) (q : Bool) : (callF B7 100 36 [.agg [cS s, cB q]] []).run = some (vB (opB s q), []) := by
  rw [opens_t, wrap_u8]
  unfold opB letB
  cases q
  · cases h : strEq s ByteArray.empty
    · generalize ((bAt s 0).toNat : Int) = c
      simp only [ge_iff_le, emp_size h, Bool.not_false, cond_true, Bool.true_and]
      cases decide (97 ≤ c) <;> cases decide (c ≤ 122) <;> cases decide (65 ≤ c) <;> cases decide (c ≤ 90) <;> rfl
    · rfl
  · rfl
theorem head_s (s : ByteArray) (q : Bool) : (callF B7 100 46 [.agg [cS s, cB q]] []).run = some (vB (opB s q), []) := by
  rw [head_t]
  unfold opB letB
  cases q
  · cases h : strEq s ByteArray.empty
    · generalize ((bAt s 0).toNat : Int) = c
      simp only [ge_iff_le, emp_size h, Bool.not_false, cond_true, Bool.true_and]
      cases decide (97 ≤ c) <;> cases decide (c ≤ 122) <;> cases decide (65 ≤ c) <;> cases decide (c ≤ 90) <;> rfl
    · rfl
  · rfl
def fOp : Says
  | [.agg [.s (.d (.c (.string s))), .s (.d (.c (.bool q)))]] => some (.ret (vB (opB s q), []))
  | _ => none
noncomputable def G36 : Ctx := { B7 with mprim := addPr B7.mprim 36 fOp }
theorem goodG36 : Sx.Good Try.prog G36 := goodB7.prim1 36 fOp fun args t r m h ht => by
  unfold fOp at h
  split at h
  · rename_i s q
    injection h with h; subst h
    exact goodB7.told (opens_s s q) ht
  · cases h
noncomputable def G46 : Ctx := { G36 with mprim := addPr G36.mprim 46 fOp }
theorem goodG46 : Sx.Good Try.prog G46 := goodG36.prim1 46 fOp fun args t r m h ht => by
  unfold fOp at h
  split at h
  · rename_i s q
    injection h with h; subst h
    exact CallSome.glob_eq (X := B7) (X' := G36) rfl (goodB7.told (head_s s q) ht)
  · cases h
/-! ### Odd bytes -/
def odB (r : Int) : Bool := decide (r < 32) || (decide (r > 126) || r == 34)
def evU (b : UInt8) : Bool := !odB (b.toNat : Int)
theorem odB_big {r : Int} (h : 128 ≤ r) : odB r = true := by
  unfold odB
  have h1 : decide (r > 126) = true := by rw [decide_eq_true_eq]; omega
  rw [h1]; simp
theorem rune_odd {s : ByteArray} {i : Nat} (h : i < s.size) : odB ((Utf8.decode s i).1 : Int) = !evU (bAt s i) := by
  unfold evU
  rw [Bool.not_not]
  by_cases hb : (bAt s i).toNat < 128
  · rw [decode_small h hb]
  · have := decode_big h (by omega)
    rw [odB_big (by omega), odB_big (by omega)]
/-- The first odd byte. -/
def fnd (s : ByteArray) : Nat → Nat → Int
  | 0, _ => -1
  | m + 1, i => if i < s.size then (bif evU (bAt s i) then fnd s m (i + 1) else (i : Int)) else -1
theorem fnd_ge (s : ByteArray) : ∀ (m i : Nat), s.size ≤ i + m → decide (fnd s m i ≥ 0) = !allB evU s i
  | 0, i, h => by rw [allB_end (by omega)]; rfl
  | m + 1, i, h => by
    unfold fnd
    by_cases hi : i < s.size
    · rw [if_pos hi, allB_step hi]
      cases evU (bAt s i)
      · show decide ((i : Int) ≥ 0) = true
        rw [decide_eq_true_eq]; omega
      · exact fnd_ge s m (i + 1) (by omega)
    · rw [if_neg hi, allB_end (by omega)]; rfl
def rs49 (i : Int) : T (Ex × St) := .ite (decide (i ≥ 0)) (.ret (.rt, ⟨nas 6 ++ [vI i] ++ nas 14, []⟩)) (.ret (.ex 0, ⟨nas 21, []⟩))
theorem odds_i (k : Nat) (s : ByteArray) (pos : Nat) : (loopF G46 (k + 2) 49 0 2 (hd49 s pos)).run =
    bif decide (pos < s.size) then bif odB ((Utf8.decode s pos).1 : Int) then some (.rt, ⟨nas 6 ++ [vI pos] ++ nas 14, []⟩)
      else (loopF G46 (k + 1) 49 0 2 (hd49 s (pos + (Utf8.decode s pos).2))).run
    else some (.ex 0, ⟨nas 21, []⟩) := by
  have key : (loopF G46 (k + 2) 49 0 2 (hd49 s pos)).run =
    bif decide (pos < s.size) then bif decide (((Utf8.decode s pos).1 : Int) < 32) then some (.rt, ⟨nas 6 ++ [vI pos] ++ nas 14, []⟩)
      else bif decide (((Utf8.decode s pos).1 : Int) > 126) then some (.rt, ⟨nas 6 ++ [vI pos] ++ nas 14, []⟩)
      else bif (((Utf8.decode s pos).1 : Int) == 34) == true then some (.rt, ⟨nas 6 ++ [vI pos] ++ nas 14, []⟩)
      else (loopF G46 (k + 1) 49 0 2 (hd49 s (pos + (Utf8.decode s pos).2))).run
    else some (.ex 0, ⟨nas 21, []⟩) := by kernel_rfl
  rw [key]
  unfold odB
  cases decide (((Utf8.decode s pos).1 : Int) < 32) <;> cases decide (((Utf8.decode s pos).1 : Int) > 126) <;> cases (((Utf8.decode s pos).1 : Int) == 34) <;> rfl
theorem odds_loop (s : ByteArray) : ∀ (m i : Nat), s.size ≤ i + m → (loopF G46 (m + 2) 49 0 2 (hd49 s i)).run = (rs49 (fnd s m i)).run := by
  intro m
  induction m with
  | zero =>
    intro i h
    rw [odds_i]
    have : decide (i < s.size) = false := by rw [decide_eq_false_iff_not]; omega
    rw [this]; rfl
  | succ m ih =>
    intro i h
    rw [odds_i]
    by_cases hi : i < s.size
    · rw [rune_odd hi, decide_eq_true hi, fnd, if_pos hi]
      cases hp : evU (bAt s i)
      · unfold rs49
        have : decide ((i : Int) ≥ 0) = true := by rw [decide_eq_true_eq]; omega
        simp only [T.run, cond_false, this, Bool.not_false, cond_true]
      · have hb : (bAt s i).toNat < 128 := by
          by_cases hb : (bAt s i).toNat < 128
          · exact hb
          · have : evU (bAt s i) = false := by unfold evU; rw [odB_big (by omega)]; rfl
            rw [this] at hp; cases hp
        rw [decode_small hi hb]
        exact ih (i + 1) (by omega)
    · rw [decide_eq_false hi, fnd, if_neg hi]; rfl
abbrev hdp49 (s : ByteArray) : St := hd49 s 0
def sitV : Mem → ByteArray
  | [.sit s _] => s
  | _ => ByteArray.empty
noncomputable def L49 : Ctx := { G46 with lp := addLp G46.lp 49 2 0 (lpOf hdp49 (fun _ => True) fun s => rs49 (fnd (sitV s.mem) (sitV s.mem).size 0)) }
theorem goodL49 : Sx.Good Try.prog L49 :=
  goodG46.loop1 49 2 0 _ _ _ (by kernel_rfl) fun s _ => ⟨s.size + 2, odds_loop s s.size 0 (by omega)⟩
theorem odds_f (s : ByteArray) : (callF L49 100 38 [vS s, .c (.f (.func 37) [] [])] []).run =
    bif isHd hdp49 (fun _ => True) (hdp49 s) then bif decide (fnd s s.size 0 ≥ 0) then some (vB (decide (fnd s s.size 0 ≥ 0)), []) else some (vB false, []) else none := by kernel_rfl
theorem odds_s (s : ByteArray) : (callF L49 100 38 [vS s, .c (.f (.func 37) [] [])] []).run = some (vB (!allB evU s 0), []) := by
  rw [odds_f, isHd_true (hd := hdp49) (pre := fun _ => True) (a := s) trivial, fnd_ge s s.size 0 (by omega)]
  cases allB evU s 0 <;> rfl
def f38 : Says
  | [.c (.s (.d (.c (.string s)))), .c (.f (.func 37) [] [])] => some (.ret (vB (!allB evU s 0), []))
  | _ => none
noncomputable def G38 : Ctx := { G46 with mprim := addPr G46.mprim 38 f38 }
theorem goodG38 : Sx.Good Try.prog G38 := goodG46.prim1 38 f38 fun args t r m h ht => by
  unfold f38 at h
  split at h
  · rename_i s
    injection h with h; subst h
    exact CallSome.glob_eq (X := L49) (X' := G46) rfl (goodL49.told (odds_s s) ht)
  · cases h
end Go.Proofs.Ytchgegcndcdleaa
