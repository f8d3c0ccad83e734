/- Plain words: the functions of the law SyntaxWords. -/
import Derived.Test.YtchgegcndcdleaaDoorSxc
import Derived.Test.YtchgegcndcdleaaDoorProg
import Derived.KernelRfl
set_option linter.unusedVariables false
set_option linter.unusedSimpArgs false
set_option linter.unusedSectionVars false
namespace Go.Proofs.YtchgegcndcdleaaDoor
open Go Go.Sx
noncomputable def WS : Ctx := X0 Tryd.prog [0, 23, 28, 33, 38, 50, 61, 71, 91] [13, 14, 18, 19, 36, 37, 75, 76, 103, 104, 106, 107, 114, 115]
theorem goodWS : Sx.Good Tryd.prog WS := start_good (by kernel_rfl) (by kernel_rfl) (by kernel_rfl)
def kpw (f : FuncId) (k : Nat) : Option (List Nat) :=
  if f = 7 then (if k = 2 then some [0, 6] else if k = 3000002 then some [0, 2] else none)
  else if f = 8 then (if k = 2 then some [0, 3] else if k = 3000002 then some [0, 2] else none)
  else if f = 5 then (if k = 5 then some [0, 4, 5, 36] else if k = 3000005 then some [0, 2, 3, 4, 5] else none)
  else if f = 6 then (if k = 9 then some [4, 5, 6, 7] else if k = 3000009 then some [2, 3, 4, 6] else none)
  else if f = 19 then (if k = 10 then some [0, 5, 6, 47, 48, 49] else if k = 3000010 then some [2, 3, 5, 6] else none)
  else none
noncomputable def WB : Ctx := { WS with keep := kpw }
theorem goodWB : Sx.Good Tryd.prog WB := goodWS.keep kpw
theorem wrap_id {n : Int} (h1 : -9223372036854775808 ≤ n) (h2 : n ≤ 9223372036854775807) : IntKind.i64.wrap n = n := by
  simp only [IntKind.wrap, IntKind.bits, IntKind.signed, Bool.true_and, ge_iff_le, decide_eq_true_eq]
  split <;> omega
def f59 : Says
  | [.c (.s (.d (.c (.string s)))), .c (.s (.d (.c (.int .u8 c))))] => some (.ret (vI (Lib.indexByte s.data.toList c.toNat.toUInt8), []))
  | _ => none
noncomputable def G59 : Ctx := { WB with mprim := addPr WB.mprim 49 f59 }
theorem goodG59 : Sx.Good Tryd.prog G59 := goodWB.prim1 49 f59 fun args t r m h ht => by
  unfold f59 at h
  split at h
  · rename_i s c
    injection h with h; subst h
    injection ht with ht; injection ht with h1 h2; subst h1; subst h2
    exact indexByte_told (fn := Tryd.f49) Tryd.func49 (by kernel_rfl) (by kernel_rfl) (by kernel_rfl) (by kernel_rfl) s c
  · cases h
/-- Past these loops we never come. -/
def noLp : FuncId → Option Nat → Nat → Option (St → T (Ex × St)) := fun g o m => match o with
  | some k => bif Nat.beq g 34 && Nat.beq k 12 then some fun _ => .fail else none
  | none => none
noncomputable def GR : Ctx := { G59 with lp := noLp }
theorem goodGR : Sx.Good Tryd.prog GR := goodG59.loop noLp fun g o m f h => by
  right
  unfold noLp at h
  cases o with
  | none => cases h
  | some k =>
    simp only at h
    cases hg : Nat.beq g 34 && Nat.beq k 12
    · rw [hg] at h; cases h
    · rw [hg] at h
      simp only [Bool.and_eq_true] at hg
      have e1 := Nat.eq_of_beq_eq_true hg.1
      have e2 := Nat.eq_of_beq_eq_true hg.2
      subst e1; subst e2
      injection h with h; subst h
      exact ⟨12, rfl, by kernel_rfl, fun s r hr => by cases hr⟩
abbrev vR (r : Int) : AV := .v (.int .i32 r)
def sep : ByteArray := ⟨#[95, 45, 43, 46, 47, 58]⟩
/-- The library's search for a rune of several bytes. -/
def runeTail (e : ByteArray) : Option (AV × Mem) :=
  bif decide ((IntKind.i64.wrap ((e.size : Int) - 1)) < 6) then bif decide (0 ≤ (IntKind.i64.wrap ((e.size : Int) - 1))) && decide ((IntKind.i64.wrap ((e.size : Int) - 1)) < 6) then bif decide (0 ≤ (IntKind.i64.wrap ((e.size : Int) - 1))) && decide ((IntKind.i64.wrap ((e.size : Int) - 1)) < e.size) then
    bif ((sep.data.getD ((IntKind.i64.wrap ((e.size : Int) - 1))).toNat 0).toNat : Int) != (e.data.getD ((IntKind.i64.wrap ((e.size : Int) - 1))).toNat 0).toNat then
      bif decide (0 ≤ IntKind.i64.wrap ((IntKind.i64.wrap ((e.size : Int) - 1)) + 1)) && decide (IntKind.i64.wrap ((IntKind.i64.wrap ((e.size : Int) - 1)) + 1) ≤ 6) then bif decide (0 ≤ (IntKind.i64.wrap ((e.size : Int) - 1))) && decide ((IntKind.i64.wrap ((e.size : Int) - 1)) < e.size) then
        bif decide (Lib.indexByte (sep.extract (IntKind.i64.wrap ((IntKind.i64.wrap ((e.size : Int) - 1)) + 1)).toNat sep.size).data.toList (((e.data.getD ((IntKind.i64.wrap ((e.size : Int) - 1))).toNat 0).toNat : Int)).toNat.toUInt8 < 0) then some (vI (-1), []) else none
      else none else none
    else none else none else none
  else some (vI (-1), [])
theorem rune_t (r : Int) : (callF GR 100 34 [vS sep, vR r] []).run =
    bif decide (0 ≤ r) then bif decide (r < 128) then some (vI (Lib.indexByte sep.data.toList (IntKind.u8.wrap r).toNat.toUInt8), [])
      else bif r == 65533 then some (vI (-1), []) else bif decide (0 ≤ r) then bif decide (r < 55296) then runeTail (Utf8.encode r) else bif decide (57343 < r) then bif decide (r ≤ 1114111) then runeTail (Utf8.encode r) else some (vI (-1), []) else some (vI (-1), [])
      else bif decide (57343 < r) then bif decide (r ≤ 1114111) then runeTail (Utf8.encode r) else some (vI (-1), []) else some (vI (-1), [])
    else bif r == 65533 then some (vI (-1), []) else bif decide (0 ≤ r) then bif decide (r < 55296) then runeTail (Utf8.encode r) else bif decide (57343 < r) then bif decide (r ≤ 1114111) then runeTail (Utf8.encode r) else some (vI (-1), []) else some (vI (-1), [])
      else bif decide (57343 < r) then bif decide (r ≤ 1114111) then runeTail (Utf8.encode r) else some (vI (-1), []) else some (vI (-1), []) := by kernel_rfl
theorem indexByte_none : ∀ (l : List UInt8) (c : UInt8), (∀ b, b ∈ l → b ≠ c) → Lib.indexByte l c = -1
  | [], _, _ => rfl
  | b :: l, c, h => by
    have h1 : (b == c) = false := by simpa using h b (by simp)
    simp only [Lib.indexByte, h1, Bool.false_eq_true, if_false, indexByte_none l c (fun x hx => h x (by simp [hx])), beq_self_eq_true, if_true]
theorem small_ne {b c : UInt8} (hb : b.toNat < 128) (hc : 128 ≤ c.toNat) : b ≠ c := fun h => by rw [h] at hb; omega
theorem tail_none {e : ByteArray} {n : Nat} (hn : n = 1 ∨ n = 2 ∨ n = 3) (hs : e.size = n + 1) (hv : 128 ≤ (e.data.getD n 0).toNat) : runeTail e = some (vI (-1), []) := by
  have hw : IntKind.i64.wrap ((e.size : Int) - 1) = n := by rw [hs, wrap_id (by omega) (by omega)]; omega
  have hw1 : IntKind.i64.wrap ((n : Int) + 1) = ((n + 1 : Nat) : Int) := by rw [wrap_id (by omega) (by omega)]; rfl
  have hc : (e.data.getD n 0).toNat.toUInt8 = e.data.getD n 0 := UInt8.ofNat_toNat
  unfold runeTail
  rw [hw, hw1]
  simp only [Int.toNat_natCast, hc]
  have d1 : decide ((n : Int) < 6) = true := by rw [decide_eq_true_eq]; omega
  have d2 : decide ((0 : Int) ≤ n) = true := by rw [decide_eq_true_eq]; omega
  have d3 : decide ((n : Int) < e.size) = true := by rw [decide_eq_true_eq]; omega
  have d4 : decide ((0 : Int) ≤ ((n + 1 : Nat) : Int)) = true := by rw [decide_eq_true_eq]; omega
  have d5 : decide (((n + 1 : Nat) : Int) ≤ 6) = true := by rw [decide_eq_true_eq]; omega
  have d6 : (((sep.data.getD n 0).toNat : Int) != (e.data.getD n 0).toNat) = true := by
    have : (sep.data.getD n 0).toNat < 128 := by rcases hn with rfl | rfl | rfl <;> decide
    rw [bne_iff_ne]; omega
  have d7 : decide (Lib.indexByte (sep.extract (n + 1) sep.size).data.toList (e.data.getD n 0) < 0) = true := by
    rw [indexByte_none _ _ fun b hb => small_ne ?_ hv]
    · rfl
    · rcases hn with rfl | rfl | rfl
      · have e : (sep.extract 2 sep.size).data.toList = [43, 46, 47, 58] := by decide
        rw [e] at hb
        simp only [List.mem_cons, List.not_mem_nil, or_false] at hb
        rcases hb with rfl | rfl | rfl | rfl <;> decide
      · have e : (sep.extract 3 sep.size).data.toList = [46, 47, 58] := by decide
        rw [e] at hb
        simp only [List.mem_cons, List.not_mem_nil, or_false] at hb
        rcases hb with rfl | rfl | rfl <;> decide
      · have e : (sep.extract 4 sep.size).data.toList = [47, 58] := by decide
        rw [e] at hb
        simp only [List.mem_cons, List.not_mem_nil, or_false] at hb
        rcases hb with rfl | rfl <;> decide
  simp only [d1, d2, d3, d4, d5, d6, d7, Bool.and_self, cond_true]
theorem ofNat_big {n : Nat} (h1 : 128 ≤ n) (h2 : n < 256) : 128 ≤ (UInt8.ofNat n).toNat := by
  rw [UInt8.toNat_ofNat']
  omega
theorem encode_tail {r : Int} (h : 128 ≤ r) : runeTail (Utf8.encode r) = some (vI (-1), []) := by
  have key : ∀ c : Nat, 128 ≤ c → runeTail (if c < 0x80 then ⟨#[UInt8.ofNat c]⟩
  else if c < 0x800 then ⟨#[UInt8.ofNat (0xC0 + c / 64), UInt8.ofNat (0x80 + c % 64)]⟩
  else if c < 0x10000 then ⟨#[UInt8.ofNat (0xE0 + c / 4096), UInt8.ofNat (0x80 + c / 64 % 64), UInt8.ofNat (0x80 + c % 64)]⟩
  else ⟨#[UInt8.ofNat (0xF0 + c / 262144), UInt8.ofNat (0x80 + c / 4096 % 64), UInt8.ofNat (0x80 + c / 64 % 64), UInt8.ofNat (0x80 + c % 64)]⟩) = some (vI (-1), []) := by
    intro c hc
    rw [if_neg (by omega)]
    split
    · exact tail_none (n := 1) (by omega) rfl (ofNat_big (by omega) (by omega))
    split
    · exact tail_none (n := 2) (by omega) rfl (ofNat_big (by omega) (by omega))
    · exact tail_none (n := 3) (by omega) rfl (ofNat_big (by omega) (by omega))
  unfold Utf8.encode
  refine key _ ?_
  split
  · omega
  · decide
def runeIx (r : Int) : Int := if 0 ≤ r ∧ r < 128 then Lib.indexByte sep.data.toList (IntKind.u8.wrap r).toNat.toUInt8 else -1
theorem rune_s (r : Int) : (callF GR 100 34 [vS sep, vR r] []).run = some (vI (runeIx r), []) := by
  rw [rune_t]
  unfold runeIx
  by_cases h0 : 0 ≤ r
  · by_cases h1 : r < 128
    · simp [h0, h1]
    · rw [encode_tail (by omega)]
      simp only [decide_eq_true h0, decide_eq_false h1, cond_true, cond_false]
      rw [if_neg (by omega)]
      cases r == 65533 <;> cases decide (r < 55296) <;> cases decide (57343 < r) <;> cases decide (r ≤ 1114111) <;> rfl
  · have h2 : decide (57343 < r) = false := by rw [decide_eq_false_iff_not]; omega
    have h3 : decide (0 ≤ r) = false := by rw [decide_eq_false_iff_not]; omega
    have h4 : (r == 65533) = false := by rw [beq_eq_false_iff_ne]; omega
    rw [h2, h3, h4, if_neg (by omega)]
    rfl
noncomputable def f48 : Says
  | [.c (.s (.d (.c (.string s)))), .c (.s (.d (.c (.int .i32 r))))] => some (.ite (strEq s sep) (.ret (vI (runeIx r), [])) .fail)
  | _ => none
theorem strEq_eq {a b : ByteArray} (h : strEq a b = true) : a = b := bytes_eq h
theorem strEq_self (a : ByteArray) : strEq a a = true := by simp [strEq]
noncomputable def G48 : Ctx := { G59 with mprim := addPr G59.mprim 34 f48 }
theorem goodG48 : Sx.Good Tryd.prog G48 := goodG59.prim1 34 f48 fun args t r m h ht => by
  unfold f48 at h
  split at h
  · rename_i s c
    injection h with h; subst h
    obtain ⟨h1, h2⟩ := guard_run ht
    have := strEq_eq h1
    subst this
    injection h2 with h3 h4; subst h3; subst h4
    refine CallSome.glob_eq (X := GR) (X' := G59) rfl (goodGR.call (k := 100) ?_)
    rw [← callF_eq]
    exact rune_s c
  · cases h
/-- A rune of a plain word. -/
def plB (r : Int) : Bool := (decide (97 ≤ r) && decide (r ≤ 122)) || (decide (65 ≤ r) && decide (r ≤ 90)) || (decide (48 ≤ r) && decide (r ≤ 57)) || r == 95 || r == 45 || r == 43 || r == 46 || r == 47 || r == 58
theorem plain_t (r : Int) : (callF G48 100 14 [vR r] []).run =
    bif decide (r ≥ 97) then bif decide (r ≤ 122) then some (vB true, []) else bif decide (r ≥ 65) then bif decide (r ≤ 90) then some (vB true, []) else bif decide (r ≥ 48) then bif decide (r ≤ 57) then some (vB true, []) else
      bif strEq sep sep then some (vB (decide (runeIx r ≥ 0)), []) else none
      else bif strEq sep sep then some (vB (decide (runeIx r ≥ 0)), []) else none
      else bif decide (r ≥ 48) then bif decide (r ≤ 57) then some (vB true, []) else
      bif strEq sep sep then some (vB (decide (runeIx r ≥ 0)), []) else none
      else bif strEq sep sep then some (vB (decide (runeIx r ≥ 0)), []) else none
    else bif decide (r ≥ 65) then bif decide (r ≤ 90) then some (vB true, []) else bif decide (r ≥ 48) then bif decide (r ≤ 57) then some (vB true, []) else
      bif strEq sep sep then some (vB (decide (runeIx r ≥ 0)), []) else none
      else bif strEq sep sep then some (vB (decide (runeIx r ≥ 0)), []) else none
      else bif decide (r ≥ 48) then bif decide (r ≤ 57) then some (vB true, []) else
      bif strEq sep sep then some (vB (decide (runeIx r ≥ 0)), []) else none
      else bif strEq sep sep then some (vB (decide (runeIx r ≥ 0)), []) else none := by kernel_rfl
theorem runeIx_small : ∀ n : Fin 128, decide (runeIx (n.val : Int) ≥ 0) = ((n.val : Int) == 95 || (n.val : Int) == 45 || (n.val : Int) == 43 || (n.val : Int) == 46 || (n.val : Int) == 47 || (n.val : Int) == 58) := by decide +kernel
theorem runeIx_ge (r : Int) : decide (runeIx r ≥ 0) = (r == 95 || r == 45 || r == 43 || r == 46 || r == 47 || r == 58) := by
  by_cases h : 0 ≤ r ∧ r < 128
  · have := runeIx_small ⟨r.toNat, by omega⟩
    simpa [Int.toNat_of_nonneg h.1] using this
  · have e : runeIx r = -1 := by unfold runeIx; rw [if_neg h]
    rw [e]
    have h1 : (r == 95) = false := by rw [beq_eq_false_iff_ne]; omega
    have h2 : (r == 45) = false := by rw [beq_eq_false_iff_ne]; omega
    have h3 : (r == 43) = false := by rw [beq_eq_false_iff_ne]; omega
    have h4 : (r == 46) = false := by rw [beq_eq_false_iff_ne]; omega
    have h5 : (r == 47) = false := by rw [beq_eq_false_iff_ne]; omega
    have h6 : (r == 58) = false := by rw [beq_eq_false_iff_ne]; omega
    rw [h1, h2, h3, h4, h5, h6]
    rfl
theorem plain_s (r : Int) : (callF G48 100 14 [vR r] []).run = some (vB (plB r), []) := by
  rw [plain_t, strEq_self, runeIx_ge]
  unfold plB
  simp only [ge_iff_le, cond_true]
  generalize (r == 95) = a1
  generalize (r == 45) = a2
  generalize (r == 43) = a3
  generalize (r == 46) = a4
  generalize (r == 47) = a5
  generalize (r == 58) = a6
  cases decide (97 ≤ r) <;> cases decide (r ≤ 122) <;> cases decide (65 ≤ r) <;> cases decide (r ≤ 90) <;> cases decide (48 ≤ r) <;> cases decide (r ≤ 57) <;> cases a1 <;> cases a2 <;> cases a3 <;> cases a4 <;> cases a5 <;> cases a6 <;> rfl
def f31 : Says
  | [.c (.s (.d (.c (.int .i32 r))))] => some (.ret (vB (plB r), []))
  | _ => none
noncomputable def G31 : Ctx := { G48 with mprim := addPr G48.mprim 14 f31 }
theorem goodG31 : Sx.Good Tryd.prog G31 := goodG48.prim1 14 f31 fun args t r m h ht => by
  unfold f31 at h
  split at h
  · rename_i c
    injection h with h; subst h
    exact goodG48.told (plain_s c) ht
  · cases h
abbrev vU (c : Int) : AV := .v (.int .u8 c)
theorem rplain_t (c : Int) : (callF G31 100 15 [vU c] []).run =
  bif (decide (c ≥ 97)) then bif (decide (c ≤ 122)) then some ((vB true), [])
    else bif (decide (c ≥ 65)) then bif (decide (c ≤ 90)) then some ((vB true), [])
      else bif (decide (c ≥ 48)) then bif (decide (c ≤ 57)) then some ((vB true), [])
        else bif (c == 95) then some ((vB true), [])
        else bif (c == 45) then some ((vB true), [])
        else bif (c == 43) then some ((vB true), [])
        else bif (c == 46) then some ((vB true), [])
        else bif (c == 47) then some ((vB true), [])
        else some ((vB (c == 58)), [])
      else bif (c == 95) then some ((vB true), [])
      else bif (c == 45) then some ((vB true), [])
      else bif (c == 43) then some ((vB true), [])
      else bif (c == 46) then some ((vB true), [])
      else bif (c == 47) then some ((vB true), [])
      else some ((vB (c == 58)), [])
    else bif (decide (c ≥ 48)) then bif (decide (c ≤ 57)) then some ((vB true), [])
      else bif (c == 95) then some ((vB true), [])
      else bif (c == 45) then some ((vB true), [])
      else bif (c == 43) then some ((vB true), [])
      else bif (c == 46) then some ((vB true), [])
      else bif (c == 47) then some ((vB true), [])
      else some ((vB (c == 58)), [])
    else bif (c == 95) then some ((vB true), [])
    else bif (c == 45) then some ((vB true), [])
    else bif (c == 43) then some ((vB true), [])
    else bif (c == 46) then some ((vB true), [])
    else bif (c == 47) then some ((vB true), [])
    else some ((vB (c == 58)), [])
  else bif (decide (c ≥ 65)) then bif (decide (c ≤ 90)) then some ((vB true), [])
    else bif (decide (c ≥ 48)) then bif (decide (c ≤ 57)) then some ((vB true), [])
      else bif (c == 95) then some ((vB true), [])
      else bif (c == 45) then some ((vB true), [])
      else bif (c == 43) then some ((vB true), [])
      else bif (c == 46) then some ((vB true), [])
      else bif (c == 47) then some ((vB true), [])
      else some ((vB (c == 58)), [])
    else bif (c == 95) then some ((vB true), [])
    else bif (c == 45) then some ((vB true), [])
    else bif (c == 43) then some ((vB true), [])
    else bif (c == 46) then some ((vB true), [])
    else bif (c == 47) then some ((vB true), [])
    else some ((vB (c == 58)), [])
  else bif (decide (c ≥ 48)) then bif (decide (c ≤ 57)) then some ((vB true), [])
    else bif (c == 95) then some ((vB true), [])
    else bif (c == 45) then some ((vB true), [])
    else bif (c == 43) then some ((vB true), [])
    else bif (c == 46) then some ((vB true), [])
    else bif (c == 47) then some ((vB true), [])
    else some ((vB (c == 58)), [])
  else bif (c == 95) then some ((vB true), [])
  else bif (c == 45) then some ((vB true), [])
  else bif (c == 43) then some ((vB true), [])
  else bif (c == 46) then some ((vB true), [])
  else bif (c == 47) then some ((vB true), [])
  else some ((vB (c == 58)), []) := by kernel_rfl
theorem rplain_s (c : Int) : (callF G31 100 15 [vU c] []).run = some (vB (plB c), []) := by
  rw [rplain_t]
  unfold plB
  simp only [ge_iff_le]
  generalize (c == 95) = a1
  generalize (c == 45) = a2
  generalize (c == 43) = a3
  generalize (c == 46) = a4
  generalize (c == 47) = a5
  generalize (c == 58) = a6
  cases decide (97 ≤ c) <;> cases decide (c ≤ 122) <;> cases decide (65 ≤ c) <;> cases decide (c ≤ 90) <;> cases decide (48 ≤ c) <;> cases decide (c ≤ 57) <;> cases a1 <;> cases a2 <;> cases a3 <;> cases a4 <;> cases a5 <;> cases a6 <;> rfl
def f56 : Says
  | [.c (.s (.d (.c (.int .u8 r))))] => some (.ret (vB (plB r), []))
  | _ => none
noncomputable def G56 : Ctx := { G31 with mprim := addPr G31.mprim 15 f56 }
theorem goodG56 : Sx.Good Tryd.prog G56 := goodG31.prim1 15 f56 fun args t r m h ht => by
  unfold f56 at h
  split at h
  · rename_i c
    injection h with h; subst h
    exact goodG31.told (rplain_s c) ht
  · cases h
def hd39 (s : ByteArray) (pos : Nat) : St := ⟨[vS s] ++ nas 5 ++ [.s (.it 0)] ++ nas 8, [.sit s pos]⟩
theorem plains_i (k : Nat) (s : ByteArray) (pos : Nat) : (loopF G56 (k + 1) 7 0 2 (hd39 s pos)).run =
  bif (decide (pos < s.size)) then bif (!plB ↑(Utf8.decode s pos).fst) then some (.rt, ⟨([(vS s), na, (vB false)] ++ nas 12), []⟩)
    else (loopF G56 k 7 0 2 ⟨([(vS s)] ++ nas 5 ++ [(.c (.s (.it 0)))] ++ nas 8), [(.sit s (pos + (Utf8.decode s pos).snd))]⟩).run
  else some ((.ex 0), ⟨([(vS s)] ++ nas 14), []⟩) := by kernel_rfl
/-! ### A word's bytes -/
def bAt (s : ByteArray) (i : Nat) : UInt8 := s.data.getD i 0
def allB (p : UInt8 → Bool) (s : ByteArray) (i : Nat) : Bool := (s.data.toList.drop i).all p
theorem allB_end {p : UInt8 → Bool} {s : ByteArray} {i : Nat} (h : s.size ≤ i) : allB p s i = true := by
  unfold allB
  rw [List.drop_of_length_le (by simpa using h)]
  rfl
theorem allB_step {p : UInt8 → Bool} {s : ByteArray} {i : Nat} (h : i < s.size) : allB p s i = (p (bAt s i) && allB p s (i + 1)) := by
  unfold allB
  have hl : i < s.data.toList.length := by simpa using h
  rw [List.drop_eq_getElem_cons hl, List.all_cons]
  congr 2
  have h2 : i < s.data.size := h
  simp only [bAt, Array.getD, dif_pos h2]
  rfl
def plU (b : UInt8) : Bool := plB (b.toNat : Int)
theorem plB_big {r : Int} (h : 128 ≤ r) : plB r = false := by
  unfold plB
  have h1 : decide (r ≤ 122) = false := by rw [decide_eq_false_iff_not]; omega
  have h2 : decide (r ≤ 90) = false := by rw [decide_eq_false_iff_not]; omega
  have h3 : decide (r ≤ 57) = false := by rw [decide_eq_false_iff_not]; omega
  have e1 : (r == 95) = false := by rw [beq_eq_false_iff_ne]; omega
  have e2 : (r == 45) = false := by rw [beq_eq_false_iff_ne]; omega
  have e3 : (r == 43) = false := by rw [beq_eq_false_iff_ne]; omega
  have e4 : (r == 46) = false := by rw [beq_eq_false_iff_ne]; omega
  have e5 : (r == 47) = false := by rw [beq_eq_false_iff_ne]; omega
  have e6 : (r == 58) = false := by rw [beq_eq_false_iff_ne]; omega
  rw [h1, h2, h3, e1, e2, e3, e4, e5, e6]
  simp
theorem get_bAt (s : ByteArray) (i : Nat) (h : i < s.size) : s.get! i = bAt s i := by
  have h' : i < s.data.size := h
  show s.data[i]! = s.data.getD i 0
  rw [getElem!_pos s.data i h']
  simp only [Array.getD, dif_pos h']
  rfl
theorem decode_small {s : ByteArray} {i : Nat} (h : i < s.size) (hb : (bAt s i).toNat < 128) : Utf8.decode s i = ((bAt s i).toNat, 1) := by
  unfold Utf8.decode
  simp only [Nat.add_zero, get_bAt s i h]
  rw [if_pos hb]
theorem decode_big {s : ByteArray} {i : Nat} (h : i < s.size) (hb : 128 ≤ (bAt s i).toNat) : 128 ≤ (Utf8.decode s i).1 := by
  unfold Utf8.decode
  simp only [Nat.add_zero, get_bAt s i h]
  rw [if_neg (by omega)]
  split
  · split
    · rename_i hc; exact hc
    · decide
  split
  · split
    · rename_i hc; simp only [Bool.and_eq_true, decide_eq_true_eq] at hc; omega
    · decide
  split
  · split
    · rename_i hc; simp only [Bool.and_eq_true, decide_eq_true_eq] at hc; omega
    · decide
  · decide
theorem rune_plain {s : ByteArray} {i : Nat} (h : i < s.size) : plB ((Utf8.decode s i).1 : Int) = plU (bAt s i) := by
  unfold plU
  by_cases hb : (bAt s i).toNat < 128
  · rw [decode_small h hb]
  · have := decode_big h (by omega)
    rw [plB_big (by omega), plB_big (by omega)]
def rsP (s : ByteArray) (n : Nat) (b : Bool) : T (Ex × St) := .ite b (.ret (.ex 0, ⟨[vS s] ++ nas (n + 2), []⟩)) (.ret (.rt, ⟨[vS s, na, vB false] ++ nas n, []⟩))
theorem plains_loop (s : ByteArray) : ∀ (m i : Nat), s.size ≤ i + m → (loopF G56 (m + 1) 7 0 2 (hd39 s i)).run = (rsP s 12 (allB plU s i)).run := by
  intro m
  induction m with
  | zero =>
    intro i h
    rw [plains_i, allB_end (by omega)]
    have : decide (i < s.size) = false := by rw [decide_eq_false_iff_not]; omega
    rw [this]; rfl
  | succ m ih =>
    intro i h
    rw [plains_i]
    by_cases hi : i < s.size
    · rw [rune_plain hi, allB_step hi, decide_eq_true hi]
      cases hp : plU (bAt s i)
      · rfl
      · have hb : (bAt s i).toNat < 128 := by
          by_cases hb : (bAt s i).toNat < 128
          · exact hb
          · have : plU (bAt s i) = false := plB_big (by omega)
            rw [this] at hp; cases hp
        rw [decode_small hi hb]
        exact ih (i + 1) (by omega)
    · rw [allB_end (by omega), decide_eq_false hi]; rfl
def strV : AV → ByteArray
  | .c (.s (.d (.c (.string s)))) => s
  | _ => ByteArray.empty
abbrev hdp39 (s : ByteArray) : St := hd39 s 0
noncomputable def L39 : Ctx := { G56 with lp := addLp G56.lp 7 2 0 (lpOf hdp39 (fun _ => True) fun s => rsP (strV (nthA s.env 0)) 12 (allB plU (strV (nthA s.env 0)) 0)) }
theorem goodL39 : Sx.Good Tryd.prog L39 :=
  goodG56.loop1 7 2 0 _ _ _ (by kernel_rfl) fun s _ => ⟨s.size + 1, plains_loop s s.size 0 (by omega)⟩
def plainS (s : ByteArray) : Bool := allB plU s 0 && !strEq s ByteArray.empty
theorem plains_f (s : ByteArray) : (callF L39 100 7 [vS s] []).run =
    bif isHd hdp39 (fun _ => True) (hdp39 s) then bif allB plU s 0 then some (vB (!strEq s ByteArray.empty), []) else some (vB false, []) else none := by kernel_rfl
theorem plains_s (s : ByteArray) : (callF L39 100 7 [vS s] []).run = some (vB (plainS s), []) := by
  rw [plains_f, isHd_true (hd := hdp39) (pre := fun _ => True) (a := s) trivial]
  unfold plainS
  cases allB plU s 0 <;> rfl
def fPl : Says
  | [.c (.s (.d (.c (.string s))))] => some (.ret (vB (plainS s), []))
  | _ => none
noncomputable def G39 : Ctx := { G56 with mprim := addPr G56.mprim 7 fPl }
theorem goodG39 : Sx.Good Tryd.prog G39 := goodG56.prim1 7 fPl fun args t r m h ht => by
  unfold fPl at h
  split at h
  · rename_i s
    injection h with h; subst h
    exact CallSome.glob_eq (X := L39) (X' := G56) rfl (goodL39.told (plains_s s) ht)
  · cases h
/-! ### The specification's -/
def hd51 (s : ByteArray) (i : Int) : St := ⟨[vS s, na, na, vI i] ++ nas 13, []⟩
theorem rplains_i (k : Nat) (s : ByteArray) (i : Int) : (loopF G39 (k + 1) 8 0 2 (hd51 s i)).run =
    bif decide (i < s.size) then bif decide (0 ≤ i) && decide (i < s.size) then bif !plB ((s.data.getD i.toNat 0).toNat : Int) then (rsP s 14 false).run
      else (loopF G39 k 8 0 2 (hd51 s (IntKind.i64.wrap (i + 1)))).run else none
    else (rsP s 14 true).run := by kernel_rfl
theorem rplains_loop (s : ByteArray) (hs : s.size ≤ 9223372036854775807) : ∀ (m i : Nat), i + m = s.size → (loopF G39 (m + 1) 8 0 2 (hd51 s i)).run = (rsP s 14 (allB plU s i)).run := by
  intro m
  induction m with
  | zero =>
    intro i h
    rw [rplains_i, allB_end (by omega)]
    have : decide ((i : Int) < s.size) = false := by rw [decide_eq_false_iff_not]; omega
    rw [this]; rfl
  | succ m ih =>
    intro i h
    have hi : i < s.size := by omega
    have e1 : decide ((i : Int) < s.size) = true := by rw [decide_eq_true_eq]; omega
    have e2 : decide ((0 : Int) ≤ i) = true := by rw [decide_eq_true_eq]; omega
    have e3 : IntKind.i64.wrap ((i : Int) + 1) = ((i + 1 : Nat) : Int) := by rw [wrap_id (by omega) (by omega)]; rfl
    rw [rplains_i, e3]
    simp only [e1, e2, Int.toNat_natCast, Bool.and_self, cond_true, ih (i + 1) (by omega)]
    rw [allB_step hi]
    show (bif !plU (bAt s i) then _ else _) = _
    cases plU (bAt s i) <;> rfl
abbrev hdp51 (s : ByteArray) : St := hd51 s 0
noncomputable def L51 : Ctx := { G39 with lp := addLp G39.lp 8 2 0 (lpOf hdp51 (fun s => s.size ≤ 9223372036854775807) fun s => rsP (strV (nthA s.env 0)) 14 (allB plU (strV (nthA s.env 0)) 0)) }
theorem goodL51 : Sx.Good Tryd.prog L51 :=
  goodG39.loop1 8 2 0 _ _ _ (by kernel_rfl) fun s hs => ⟨s.size + 1, rplains_loop s hs s.size 0 (by omega)⟩
theorem rplains_f (s : ByteArray) : (callF L51 100 8 [vS s] []).run =
    bif isHd hdp51 (fun s => s.size ≤ 9223372036854775807) (hdp51 s) then bif allB plU s 0 then some (vB (!strEq s ByteArray.empty), []) else some (vB false, []) else none := by kernel_rfl
noncomputable def fPl2 : Says
  | [.c (.s (.d (.c (.string s))))] => some (.ite (decide (s.size ≤ 9223372036854775807)) (.ret (vB (plainS s), [])) .fail)
  | _ => none
noncomputable def G51 : Ctx := { G39 with mprim := addPr G39.mprim 8 fPl2 }
theorem goodG51 : Sx.Good Tryd.prog G51 := goodG39.prim1 8 fPl2 fun args t r m h ht => by
  unfold fPl2 at h
  split at h
  · rename_i s
    injection h with h; subst h
    obtain ⟨h1, h2⟩ := guard_run ht
    injection h2 with h3 h4; subst h3; subst h4
    refine CallSome.glob_eq (X := L51) (X' := G39) rfl (goodL51.call (k := 100) ?_)
    rw [← callF_eq]
    show (callF L51 100 8 [vS s] []).run = _
    rw [rplains_f, isHd_true (hd := hdp51) (pre := fun s => s.size ≤ 9223372036854775807) (a := s) (of_decide_eq_true h1)]
    unfold plainS
    cases allB plU s 0 <;> rfl
  · cases h
end Go.Proofs.YtchgegcndcdleaaDoor
