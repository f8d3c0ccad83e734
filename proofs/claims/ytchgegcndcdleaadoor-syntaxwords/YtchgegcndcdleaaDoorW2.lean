/- Numbers: loops. -/
import Derived.Test.YtchgegcndcdleaaDoorW1
set_option linter.unusedVariables false
set_option linter.unusedSimpArgs false
set_option linter.unusedSectionVars false
namespace Go.Proofs.YtchgegcndcdleaaDoor
open Go Go.Sx
def digB (r : Int) : Bool := decide (48 ≤ r) && decide (r ≤ 57)
def digU (b : UInt8) : Bool := digB (b.toNat : Int)
theorem dig_t (r : Int) : (callF G51 100 11 [vR r] []).run = bif decide (r ≥ 48) then some (vB (decide (r ≤ 57)), []) else some (vB false, []) := by kernel_rfl
theorem rdig_t (r : Int) : (callF G51 100 13 [vU r] []).run = bif decide (r ≥ 48) then some (vB (decide (r ≤ 57)), []) else some (vB false, []) := by kernel_rfl
theorem dig_e (r : Int) : (bif decide (r ≥ 48) then some (vB (decide (r ≤ 57)), ([] : Mem)) else some (vB false, [])) = some (vB (digB r), []) := by
  unfold digB
  simp only [ge_iff_le]
  cases decide (48 ≤ r) <;> rfl
def f11 : Says
  | [.c (.s (.d (.c (.int .i32 r))))] => some (.ret (vB (digB r), []))
  | _ => none
noncomputable def N11 : Ctx := { G51 with mprim := addPr G51.mprim 11 f11 }
theorem goodN11 : Sx.Good Tryd.prog N11 := goodG51.prim1 11 f11 fun args t r m h ht => by
  unfold f11 at h
  split at h
  · rename_i c
    injection h with h; subst h
    exact goodG51.told (show _ = (T.ret (vB (digB c), ([] : Mem))).run from (dig_t c).trans (dig_e c)) ht
  · cases h
def f13 : Says
  | [.c (.s (.d (.c (.int .u8 r))))] => some (.ret (vB (digB r), []))
  | _ => none
noncomputable def N13 : Ctx := { N11 with mprim := addPr N11.mprim 13 f13 }
theorem goodN13 : Sx.Good Tryd.prog N13 := goodN11.prim1 13 f13 fun args t r m h ht => by
  unfold f13 at h
  split at h
  · rename_i c
    injection h with h; subst h
    refine CallSome.glob_eq (X := G51) (X' := N11) rfl ?_
    exact goodG51.told (show _ = (T.ret (vB (digB c), ([] : Mem))).run from (rdig_t c).trans (dig_e c)) ht
  · cases h
theorem digB_big {r : Int} (h : 128 ≤ r) : digB r = false := by
  unfold digB
  rw [show decide (r ≤ 57) = false by rw [decide_eq_false_iff_not]; omega]
  simp
theorem rune_dig {s : ByteArray} {i : Nat} (h : i < s.size) : digB ((Utf8.decode s i).1 : Int) = digU (bAt s i) := by
  unfold digU
  by_cases hb : (bAt s i).toNat < 128
  · rw [decode_small h hb]
  · have := decode_big h (by omega)
    rw [digB_big (by omega), digB_big (by omega)]
/-! ### The program's runes -/
def hd5 (s d : ByteArray) (neg : Bool) (pos : Nat) : St := ⟨[vS s] ++ nas 3 ++ [vS d, vB neg] ++ nas 30 ++ [.s (.it 0)] ++ nas 12, [.sit d pos]⟩
def rs5 (s d : ByteArray) (neg : Bool) (b : Bool) : T (Ex × St) := .ite b (.ret (.ex 0, ⟨[vS s] ++ nas 3 ++ [vS d, vB neg] ++ nas 43, []⟩)) (.ret (.rt, ⟨[vS s, na, vI 0, vB false, vS d, vB neg] ++ nas 43, []⟩))
theorem n5_i (k : Nat) (s d : ByteArray) (neg : Bool) (pos : Nat) : (loopF N13 (k + 1) 5 0 5 (hd5 s d neg pos)).run =
    bif decide (pos < d.size) then bif !digB ((Utf8.decode d pos).1 : Int) then (rs5 s d neg false).run else (loopF N13 k 5 0 5 (hd5 s d neg (pos + (Utf8.decode d pos).2))).run
    else (rs5 s d neg true).run := by kernel_rfl
theorem n5_loop (s d : ByteArray) (neg : Bool) : ∀ (m i : Nat), d.size ≤ i + m → (loopF N13 (m + 1) 5 0 5 (hd5 s d neg i)).run = (rs5 s d neg (allB digU d i)).run := by
  intro m
  induction m with
  | zero =>
    intro i h
    rw [n5_i, allB_end (by omega)]
    have : decide (i < d.size) = false := by rw [decide_eq_false_iff_not]; omega
    rw [this]; rfl
  | succ m ih =>
    intro i h
    rw [n5_i]
    by_cases hi : i < d.size
    · rw [rune_dig hi, allB_step hi, decide_eq_true hi]
      cases hp : digU (bAt d i)
      · rfl
      · have hb : (bAt d i).toNat < 128 := by
          by_cases hb : (bAt d i).toNat < 128
          · exact hb
          · have : digU (bAt d i) = false := digB_big (by omega)
            rw [this] at hp; cases hp
        rw [decode_small hi hb]
        exact ih (i + 1) (by omega)
    · rw [allB_end (by omega), decide_eq_false hi]; rfl
structure N5A where
  s : ByteArray
  d : ByteArray
  neg : Bool
abbrev hdp5 (p : N5A) : St := hd5 p.s p.d p.neg 0
def bolV : AV → Bool
  | .c (.s (.d (.c (.bool b)))) => b
  | _ => false
noncomputable def L5 : Ctx := { N13 with lp := addLp N13.lp 5 5 0 (lpOf hdp5 (fun _ => True) fun s => rs5 (strV (nthA s.env 0)) (strV (nthA s.env 4)) (bolV (nthA s.env 5)) (allB digU (strV (nthA s.env 4)) 0)) }
theorem goodL5 : Sx.Good Tryd.prog L5 := goodN13.loop1 5 5 0 _ _ _ (by kernel_rfl) fun p _ => ⟨p.d.size + 1, n5_loop p.s p.d p.neg p.d.size 0 (by omega)⟩
/-! ### The library's short road -/
def byD (s : ByteArray) : D := .fs 1 s.size fun i => [.c (.int .u8 (s.data.getD i 0).toNat)]
def hd19 (s s0 : ByteArray) (n i : Int) : St := ⟨[vS s] ++ nas 4 ++ [vS s0, vI n] ++ nas 40 ++ [.s (.d (byD s)), vI s.size, vI i] ++ nas 27, []⟩
theorem n19_i (k : Nat) (s s0 : ByteArray) (n i : Int) : (loopF L5 (k + 1) 19 0 10 (hd19 s s0 n i)).run =
    bif decide (i < s.size) then bif decide (0 ≤ i) && decide (i < s.size) then bif decide (IntKind.u8.wrap (((bAt s i.toNat).toNat : Int) - 48) > 9) then some (.rt, ⟨[na, na, vI 0, .c (.ifc 59 (.d (.c (.int .i64 2)))), na, vS s0, vI n] ++ nas 70, []⟩)
      else (loopF L5 k 19 0 10 (hd19 s s0 (IntKind.i64.wrap (IntKind.i64.wrap (n * 10) + IntKind.i64.wrap (IntKind.u8.wrap (((bAt s i.toNat).toNat : Int) - 48)))) (IntKind.i64.wrap (i + 1)))).run
    else none
    else some (.ex 0, ⟨nas 5 ++ [vS s0, vI n] ++ nas 70, []⟩) := by kernel_rfl
/-- What digits are worth. -/
def decV : List UInt8 → Int → Int
  | [], n => n
  | b :: l, n => decV l (n * 10 + ((b.toNat : Int) - 48))
def dropB (s : ByteArray) (i : Nat) : List UInt8 := s.data.toList.drop i
theorem dropB_end {s : ByteArray} {a : Nat} (h : s.size ≤ a) : dropB s a = [] := List.drop_of_length_le (by simpa using h)
theorem dropB_cons {s : ByteArray} {a : Nat} (h : a < s.size) : dropB s a = bAt s a :: dropB s (a + 1) := by
  unfold dropB
  have hl : a < s.data.toList.length := by simpa using h
  rw [List.drop_eq_getElem_cons hl]
  congr 1
  have h2 : a < s.data.size := h
  simp only [bAt, Array.getD, dif_pos h2]
  rfl
theorem dig_wrap {b : UInt8} (h : digU b = true) : IntKind.u8.wrap ((b.toNat : Int) - 48) = (b.toNat : Int) - 48 ∧ 0 ≤ (b.toNat : Int) - 48 ∧ (b.toNat : Int) - 48 ≤ 9 := by
  simp only [digU, digB, Bool.and_eq_true, decide_eq_true_eq] at h
  refine ⟨?_, by omega, by omega⟩
  simp only [IntKind.wrap, IntKind.bits, IntKind.signed, Bool.false_and, Bool.false_eq_true, if_false]
  omega
theorem pow_le {m : Nat} (h : m ≤ 8) : (10 : Int) ^ m ≤ 100000000 := by
  have : m = 0 ∨ m = 1 ∨ m = 2 ∨ m = 3 ∨ m = 4 ∨ m = 5 ∨ m = 6 ∨ m = 7 ∨ m = 8 := by omega
  rcases this with rfl | rfl | rfl | rfl | rfl | rfl | rfl | rfl | rfl <;> decide
theorem n19_loop (s s0 : ByteArray) (hs : s.size ≤ 8) (hd : allB digU s 0 = true) : ∀ (m i : Nat) (n : Int), i + m = s.size → 0 ≤ n → n < 10 ^ i →
    (loopF L5 (m + 1) 19 0 10 (hd19 s s0 n i)).run = some (.ex 0, ⟨nas 5 ++ [vS s0, vI (decV (dropB s i) n)] ++ nas 70, []⟩) := by
  have hall : ∀ i, i ≤ s.size → allB digU s i = true := fun i hi => by
    induction i with
    | zero => exact hd
    | succ i ih =>
      have := ih (by omega)
      rw [allB_step (by omega), Bool.and_eq_true] at this
      exact this.2
  intro m
  induction m with
  | zero =>
    intro i n h h0 h1
    rw [n19_i, dropB_end (by omega)]
    have : decide ((i : Int) < s.size) = false := by rw [decide_eq_false_iff_not]; omega
    rw [this]; rfl
  | succ m ih =>
    intro i n h h0 h1
    have hi : i < s.size := by omega
    have hdg : digU (bAt s i) = true := by
      have := hall i (by omega)
      rw [allB_step hi, Bool.and_eq_true] at this
      exact this.1
    obtain ⟨w1, w2, w3⟩ := dig_wrap hdg
    have hp := pow_le (m := i) (by omega)
    have e1 : decide ((i : Int) < s.size) = true := by rw [decide_eq_true_eq]; omega
    have e2 : decide ((0 : Int) ≤ i) = true := by rw [decide_eq_true_eq]; omega
    have e3 : IntKind.i64.wrap ((i : Int) + 1) = ((i + 1 : Nat) : Int) := by rw [wrap_id (by omega) (by omega)]; rfl
    rw [n19_i, e3]
    have e4 : decide (IntKind.u8.wrap (((bAt s i).toNat : Int) - 48) > 9) = false := by rw [decide_eq_false_iff_not, w1]; omega
    simp only [e1, e2, Int.toNat_natCast, Bool.and_self, cond_true, e4]
    rw [w1, wrap_id (n := n * 10) (by omega) (by omega), wrap_id (n := ((bAt s i).toNat : Int) - 48) (by omega) (by omega), wrap_id (by omega) (by omega)]
    simp only [cond_false]
    rw [ih (i + 1) _ (by omega) (by omega) (by rw [Int.pow_succ]; omega), dropB_cons hi]
    rfl
structure N19A where
  s : ByteArray
  s0 : ByteArray
abbrev hdp19 (p : N19A) : St := hd19 p.s p.s0 0 0
def pre19 (p : N19A) : Prop := p.s.size ≤ 8 ∧ allB digU p.s 0 = true
noncomputable def L19 : Ctx := { L5 with lp := addLp L5.lp 19 10 0 (lpOf hdp19 pre19 fun s => .ret (.ex 0, ⟨nas 5 ++ [nthA s.env 5, vI (decV (dropB (strV (nthA s.env 0)) 0) 0)] ++ nas 70, []⟩)) }
theorem goodL19 : Sx.Good Tryd.prog L19 := goodL5.loop1 19 10 0 _ _ _ (by kernel_rfl) fun p hp => ⟨p.s.size + 1, n19_loop p.s p.s0 hp.1 hp.2 p.s.size 0 0 (by omega) (Int.le_refl _) (by decide)⟩
/-! ### The specification's -/
def hd6 (neg : Bool) (d : ByteArray) (n i : Int) : St := ⟨nas 4 ++ [vB neg, vS d, vI n, vI i] ++ nas 56, []⟩
def rs6 (neg : Bool) (n : Int) (b : Bool) : T (Ex × St) := .ite b (.ret (.ex 0, ⟨nas 4 ++ [vB neg, na, vI n] ++ nas 57, []⟩)) (.ret (.rt, ⟨[na, na, vI 0, vB false, vB neg, na, vI n] ++ nas 57, []⟩))
theorem n6_i (k : Nat) (neg : Bool) (d : ByteArray) (n i : Int) : (loopF L19 (k + 1) 6 0 9 (hd6 neg d n i)).run =
    bif decide (i < d.size) then bif decide (0 ≤ i) && decide (i < d.size) then bif !digB ((bAt d i.toNat).toNat : Int) then (rs6 neg n false).run else bif decide (0 ≤ i) && decide (i < d.size) then
      (loopF L19 k 6 0 9 (hd6 neg d (IntKind.i64.wrap (IntKind.i64.wrap (10 * n) + IntKind.i64.wrap (IntKind.u8.wrap (((bAt d i.toNat).toNat : Int) - 48)))) (IntKind.i64.wrap (i + 1)))).run else none
    else none else (rs6 neg n true).run := by kernel_rfl
/-- Where the first byte that is no digit is met; what the digits before it are worth. -/
def decW : List UInt8 → Int → Int
  | [], n => n
  | b :: l, n => bif digU b then decW l (n * 10 + ((b.toNat : Int) - 48)) else n
theorem n6_loop (neg : Bool) (d : ByteArray) (hs : d.size ≤ 8) : ∀ (m i : Nat) (n : Int), i + m = d.size → 0 ≤ n → n < 10 ^ i →
    (loopF L19 (m + 1) 6 0 9 (hd6 neg d n i)).run = (rs6 neg (decW (dropB d i) n) (allB digU d i)).run := by
  intro m
  induction m with
  | zero =>
    intro i n h h0 h1
    rw [n6_i, dropB_end (by omega), allB_end (by omega)]
    have : decide ((i : Int) < d.size) = false := by rw [decide_eq_false_iff_not]; omega
    rw [this]; rfl
  | succ m ih =>
    intro i n h h0 h1
    have hi : i < d.size := by omega
    have hp := pow_le (m := i) (by omega)
    have e1 : decide ((i : Int) < d.size) = true := by rw [decide_eq_true_eq]; omega
    have e2 : decide ((0 : Int) ≤ i) = true := by rw [decide_eq_true_eq]; omega
    have e3 : IntKind.i64.wrap ((i : Int) + 1) = ((i + 1 : Nat) : Int) := by rw [wrap_id (by omega) (by omega)]; rfl
    rw [n6_i, e3, dropB_cons hi, allB_step hi]
    simp only [e1, e2, Int.toNat_natCast, Bool.and_self, cond_true]
    show (bif !digU (bAt d i) then _ else _) = _
    simp only [decW]
    cases hdg : digU (bAt d i)
    · rfl
    · obtain ⟨w1, w2, w3⟩ := dig_wrap hdg
      rw [w1, wrap_id (n := 10 * n) (by omega) (by omega), wrap_id (n := ((bAt d i).toNat : Int) - 48) (by omega) (by omega), wrap_id (by omega) (by omega)]
      simp only [Bool.not_true, cond_false, cond_true, Bool.true_and]
      rw [show 10 * n + (((bAt d i).toNat : Int) - 48) = n * 10 + (((bAt d i).toNat : Int) - 48) by omega]
      exact ih (i + 1) _ (by omega) (by omega) (by rw [Int.pow_succ]; omega)
theorem decW_V : ∀ (l : List UInt8) (n : Int), l.all digU = true → decW l n = decV l n
  | [], n, _ => rfl
  | b :: l, n, h => by
    rw [List.all_cons, Bool.and_eq_true] at h
    rw [decW, decV, h.1]
    exact decW_V l _ h.2
structure N6A where
  neg : Bool
  d : ByteArray
abbrev hdp6 (p : N6A) : St := hd6 p.neg p.d 0 0
noncomputable def L6 : Ctx := { L19 with lp := addLp L19.lp 6 9 0 (lpOf hdp6 (fun p => p.d.size ≤ 8) fun s => rs6 (bolV (nthA s.env 4)) (decW (dropB (strV (nthA s.env 5)) 0) 0) (allB digU (strV (nthA s.env 5)) 0)) }
theorem goodL6 : Sx.Good Tryd.prog L6 := goodL19.loop1 6 9 0 _ _ _ (by kernel_rfl) fun p hp => ⟨p.d.size + 1, n6_loop p.neg p.d hp p.d.size 0 0 (by omega) (Int.le_refl _) (by decide)⟩
/-! ### Past these calls we never come -/
def fNo : Says := fun _ => some .fail
noncomputable def N29 : Ctx := { L6 with mprim := addPr (addPr L6.mprim 29 fNo) 20 fNo }
theorem goodN29 : Sx.Good Tryd.prog N29 := (goodL6.prim1 29 fNo fun args t r m h ht => by injection h with h; subst h; cases ht).prim1 20 fNo fun args t r m h ht => by injection h with h; subst h; cases ht
end Go.Proofs.YtchgegcndcdleaaDoor
