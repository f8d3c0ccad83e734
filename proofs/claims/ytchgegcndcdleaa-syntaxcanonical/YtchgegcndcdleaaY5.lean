/- Bytes and runes of words. -/
import Derived.Test.YtchgegcndcdleaaY4
set_option linter.unusedVariables false
set_option linter.unusedSimpArgs false
set_option linter.unusedSectionVars false
namespace Go.Proofs.Ytchgegcndcdleaa
open Go Go.Sx
def f59 : Says
  | [.c (.s (.d (.c (.string s)))), .c (.s (.d (.c (.int .u8 c))))] => some (.ret (vI (Lib.indexByte s.data.toList c.toNat.toUInt8), []))
  | _ => none
noncomputable def G59 : Ctx := { G12 with mprim := addPr G12.mprim 59 f59 }
theorem goodG59 : Sx.Good Try.prog G59 := goodG12.prim1 59 f59 fun args t r m h ht => by
  unfold f59 at h
  split at h
  · rename_i s c
    injection h with h; subst h
    injection ht with ht; injection ht with h1 h2; subst h1; subst h2
    exact indexByte_told (fn := Try.f59) Try.func59 (by kernel_rfl) (by kernel_rfl) (by kernel_rfl) (by kernel_rfl) s c
  · cases h
/-- Past these loops we never come. -/
def noLp : FuncId → Option Nat → Nat → Option (St → T (Ex × St)) := fun g o m => match o with
  | some k => bif Nat.beq g 48 && Nat.beq k 12 then some fun _ => .fail else none
  | none => none
noncomputable def GR : Ctx := { G59 with lp := noLp }
theorem goodGR : Sx.Good Try.prog GR := goodG59.loop noLp fun g o m f h => by
  right
  unfold noLp at h
  cases o with
  | none => cases h
  | some k =>
    simp only at h
    cases hg : Nat.beq g 48 && Nat.beq k 12
    · rw [hg] at h; cases h
    · rw [hg] at h
      simp only [Bool.and_eq_true] at hg
      have e1 := Nat.eq_of_beq_eq_true hg.1
      have e2 := Nat.eq_of_beq_eq_true hg.2
      subst e1; subst e2
      injection h with h; subst h
      exact ⟨12, rfl, by kernel_rfl, fun s r hr => by cases hr⟩
abbrev vR (r : Int) : AV := .v (.int .i32 r)
def sep : ByteArray := ⟨#[95, 45, 43, 46, 47, 58]⟩
/-- The library's search for a rune of several bytes. -/
def runeTail (e : ByteArray) : Option (AV × Mem) :=
  bif decide ((IntKind.i64.wrap ((e.size : Int) - 1)) < 6) then bif decide (0 ≤ (IntKind.i64.wrap ((e.size : Int) - 1))) && decide ((IntKind.i64.wrap ((e.size : Int) - 1)) < 6) then bif decide (0 ≤ (IntKind.i64.wrap ((e.size : Int) - 1))) && decide ((IntKind.i64.wrap ((e.size : Int) - 1)) < e.size) then
    bif ((sep.data.getD ((IntKind.i64.wrap ((e.size : Int) - 1))).toNat 0).toNat : Int) != (e.data.getD ((IntKind.i64.wrap ((e.size : Int) - 1))).toNat 0).toNat then
      bif decide (0 ≤ IntKind.i64.wrap ((IntKind.i64.wrap ((e.size : Int) - 1)) + 1)) && decide (IntKind.i64.wrap ((IntKind.i64.wrap ((e.size : Int) - 1)) + 1) ≤ 6) then bif decide (0 ≤ (IntKind.i64.wrap ((e.size : Int) - 1))) && decide ((IntKind.i64.wrap ((e.size : Int) - 1)) < e.size) then
        bif decide (Lib.indexByte (sep.extract (IntKind.i64.wrap ((IntKind.i64.wrap ((e.size : Int) - 1)) + 1)).toNat sep.size).data.toList (((e.data.getD ((IntKind.i64.wrap ((e.size : Int) - 1))).toNat 0).toNat : Int)).toNat.toUInt8 < 0) then some (vI (-1), []) else none
      else none else none
    else none else none else none
  else some (vI (-1), [])
theorem rune_t (r : Int) : (callF GR 100 48 [vS sep, vR r] []).run =
    bif decide (0 ≤ r) then bif decide (r < 128) then some (vI (Lib.indexByte sep.data.toList (IntKind.u8.wrap r).toNat.toUInt8), [])
      else bif r == 65533 then some (vI (-1), []) else bif decide (0 ≤ r) then bif decide (r < 55296) then runeTail (Utf8.encode r) else bif decide (57343 < r) then bif decide (r ≤ 1114111) then runeTail (Utf8.encode r) else some (vI (-1), []) else some (vI (-1), [])
      else bif decide (57343 < r) then bif decide (r ≤ 1114111) then runeTail (Utf8.encode r) else some (vI (-1), []) else some (vI (-1), [])
    else bif r == 65533 then some (vI (-1), []) else bif decide (0 ≤ r) then bif decide (r < 55296) then runeTail (Utf8.encode r) else bif decide (57343 < r) then bif decide (r ≤ 1114111) then runeTail (Utf8.encode r) else some (vI (-1), []) else some (vI (-1), [])
      else bif decide (57343 < r) then bif decide (r ≤ 1114111) then runeTail (Utf8.encode r) else some (vI (-1), []) else some (vI (-1), []) := by kernel_rfl
theorem indexByte_none : ∀ (l : List UInt8) (c : UInt8), (∀ b, b ∈ l → b ≠ c) → Lib.indexByte l c = -1
  | [], _, _ => rfl
  | b :: l, c, h => by
    have h1 : (b == c) = false := by simpa using h b (by simp)
    simp only [Lib.indexByte, h1, Bool.false_eq_true, if_false, indexByte_none l c (fun x hx => h x (by simp [hx])), beq_self_eq_true, if_true]
theorem small_ne {b c : UInt8} (hb : b.toNat < 128) (hc : 128 ≤ c.toNat) : b ≠ c := fun h => by rw [h] at hb; omega
theorem tail_none {e : ByteArray} {n : Nat} (hn : n = 1 ∨ n = 2 ∨ n = 3) (hs : e.size = n + 1) (hv : 128 ≤ (e.data.getD n 0).toNat) : runeTail e = some (vI (-1), []) := by
  have hw : IntKind.i64.wrap ((e.size : Int) - 1) = n := by rw [hs, wrap_id (by omega) (by omega)]; omega
  have hw1 : IntKind.i64.wrap ((n : Int) + 1) = ((n + 1 : Nat) : Int) := by rw [wrap_id (by omega) (by omega)]; rfl
  have hc : (e.data.getD n 0).toNat.toUInt8 = e.data.getD n 0 := UInt8.ofNat_toNat
  unfold runeTail
  rw [hw, hw1]
  simp only [Int.toNat_natCast, hc]
  have d1 : decide ((n : Int) < 6) = true := by rw [decide_eq_true_eq]; omega
  have d2 : decide ((0 : Int) ≤ n) = true := by rw [decide_eq_true_eq]; omega
  have d3 : decide ((n : Int) < e.size) = true := by rw [decide_eq_true_eq]; omega
  have d4 : decide ((0 : Int) ≤ ((n + 1 : Nat) : Int)) = true := by rw [decide_eq_true_eq]; omega
  have d5 : decide (((n + 1 : Nat) : Int) ≤ 6) = true := by rw [decide_eq_true_eq]; omega
  have d6 : (((sep.data.getD n 0).toNat : Int) != (e.data.getD n 0).toNat) = true := by
    have : (sep.data.getD n 0).toNat < 128 := by rcases hn with rfl | rfl | rfl <;> decide
    rw [bne_iff_ne]; omega
  have d7 : decide (Lib.indexByte (sep.extract (n + 1) sep.size).data.toList (e.data.getD n 0) < 0) = true := by
    rw [indexByte_none _ _ fun b hb => small_ne ?_ hv]
    · rfl
    · rcases hn with rfl | rfl | rfl
      · have e : (sep.extract 2 sep.size).data.toList = [43, 46, 47, 58] := by decide
        rw [e] at hb
        simp only [List.mem_cons, List.not_mem_nil, or_false] at hb
        rcases hb with rfl | rfl | rfl | rfl <;> decide
      · have e : (sep.extract 3 sep.size).data.toList = [46, 47, 58] := by decide
        rw [e] at hb
        simp only [List.mem_cons, List.not_mem_nil, or_false] at hb
        rcases hb with rfl | rfl | rfl <;> decide
      · have e : (sep.extract 4 sep.size).data.toList = [47, 58] := by decide
        rw [e] at hb
        simp only [List.mem_cons, List.not_mem_nil, or_false] at hb
        rcases hb with rfl | rfl <;> decide
  simp only [d1, d2, d3, d4, d5, d6, d7, Bool.and_self, cond_true]
theorem ofNat_big {n : Nat} (h1 : 128 ≤ n) (h2 : n < 256) : 128 ≤ (UInt8.ofNat n).toNat := by
  rw [UInt8.toNat_ofNat']
  omega
theorem encode_tail {r : Int} (h : 128 ≤ r) : runeTail (Utf8.encode r) = some (vI (-1), []) := by
  have key : ∀ c : Nat, 128 ≤ c → runeTail (if c < 0x80 then ⟨#[UInt8.ofNat c]⟩
  else if c < 0x800 then ⟨#[UInt8.ofNat (0xC0 + c / 64), UInt8.ofNat (0x80 + c % 64)]⟩
  else if c < 0x10000 then ⟨#[UInt8.ofNat (0xE0 + c / 4096), UInt8.ofNat (0x80 + c / 64 % 64), UInt8.ofNat (0x80 + c % 64)]⟩
  else ⟨#[UInt8.ofNat (0xF0 + c / 262144), UInt8.ofNat (0x80 + c / 4096 % 64), UInt8.ofNat (0x80 + c / 64 % 64), UInt8.ofNat (0x80 + c % 64)]⟩) = some (vI (-1), []) := by
    intro c hc
    rw [if_neg (by omega)]
    split
    · exact tail_none (n := 1) (by omega) rfl (ofNat_big (by omega) (by omega))
    split
    · exact tail_none (n := 2) (by omega) rfl (ofNat_big (by omega) (by omega))
    · exact tail_none (n := 3) (by omega) rfl (ofNat_big (by omega) (by omega))
  unfold Utf8.encode
  refine key _ ?_
  split
  · omega
  · decide
def runeIx (r : Int) : Int := if 0 ≤ r ∧ r < 128 then Lib.indexByte sep.data.toList (IntKind.u8.wrap r).toNat.toUInt8 else -1
theorem rune_s (r : Int) : (callF GR 100 48 [vS sep, vR r] []).run = some (vI (runeIx r), []) := by
  rw [rune_t]
  unfold runeIx
  by_cases h0 : 0 ≤ r
  · by_cases h1 : r < 128
    · simp [h0, h1]
    · rw [encode_tail (by omega)]
      simp only [decide_eq_true h0, decide_eq_false h1, cond_true, cond_false]
      rw [if_neg (by omega)]
      cases r == 65533 <;> cases decide (r < 55296) <;> cases decide (57343 < r) <;> cases decide (r ≤ 1114111) <;> rfl
  · have h2 : decide (57343 < r) = false := by rw [decide_eq_false_iff_not]; omega
    have h3 : decide (0 ≤ r) = false := by rw [decide_eq_false_iff_not]; omega
    have h4 : (r == 65533) = false := by rw [beq_eq_false_iff_ne]; omega
    rw [h2, h3, h4, if_neg (by omega)]
    rfl
noncomputable def f48 : Says
  | [.c (.s (.d (.c (.string s)))), .c (.s (.d (.c (.int .i32 r))))] => some (.ite (strEq s sep) (.ret (vI (runeIx r), [])) .fail)
  | _ => none
theorem strEq_eq {a b : ByteArray} (h : strEq a b = true) : a = b := bytes_eq h
theorem strEq_self (a : ByteArray) : strEq a a = true := by simp [strEq]
noncomputable def G48 : Ctx := { G59 with mprim := addPr G59.mprim 48 f48 }
theorem goodG48 : Sx.Good Try.prog G48 := goodG59.prim1 48 f48 fun args t r m h ht => by
  unfold f48 at h
  split at h
  · rename_i s c
    injection h with h; subst h
    obtain ⟨h1, h2⟩ := guard_run ht
    have := strEq_eq h1
    subst this
    injection h2 with h3 h4; subst h3; subst h4
    refine CallSome.glob_eq (X := GR) (X' := G59) rfl (goodGR.call (k := 100) ?_)
    rw [← callF_eq]
    exact rune_s c
  · cases h
/-- A rune of a plain word. -/
def plB (r : Int) : Bool := (decide (97 ≤ r) && decide (r ≤ 122)) || (decide (65 ≤ r) && decide (r ≤ 90)) || (decide (48 ≤ r) && decide (r ≤ 57)) || r == 95 || r == 45 || r == 43 || r == 46 || r == 47 || r == 58
theorem plain_t (r : Int) : (callF G48 100 31 [vR r] []).run =
    bif decide (r ≥ 97) then bif decide (r ≤ 122) then some (vB true, []) else bif decide (r ≥ 65) then bif decide (r ≤ 90) then some (vB true, []) else bif decide (r ≥ 48) then bif decide (r ≤ 57) then some (vB true, []) else
      bif strEq sep sep then some (vB (decide (runeIx r ≥ 0)), []) else none
      else bif strEq sep sep then some (vB (decide (runeIx r ≥ 0)), []) else none
      else bif decide (r ≥ 48) then bif decide (r ≤ 57) then some (vB true, []) else
      bif strEq sep sep then some (vB (decide (runeIx r ≥ 0)), []) else none
      else bif strEq sep sep then some (vB (decide (runeIx r ≥ 0)), []) else none
    else bif decide (r ≥ 65) then bif decide (r ≤ 90) then some (vB true, []) else bif decide (r ≥ 48) then bif decide (r ≤ 57) then some (vB true, []) else
      bif strEq sep sep then some (vB (decide (runeIx r ≥ 0)), []) else none
      else bif strEq sep sep then some (vB (decide (runeIx r ≥ 0)), []) else none
      else bif decide (r ≥ 48) then bif decide (r ≤ 57) then some (vB true, []) else
      bif strEq sep sep then some (vB (decide (runeIx r ≥ 0)), []) else none
      else bif strEq sep sep then some (vB (decide (runeIx r ≥ 0)), []) else none := by kernel_rfl
theorem runeIx_small : ∀ n : Fin 128, decide (runeIx (n.val : Int) ≥ 0) = ((n.val : Int) == 95 || (n.val : Int) == 45 || (n.val : Int) == 43 || (n.val : Int) == 46 || (n.val : Int) == 47 || (n.val : Int) == 58) := by decide +kernel
theorem runeIx_ge (r : Int) : decide (runeIx r ≥ 0) = (r == 95 || r == 45 || r == 43 || r == 46 || r == 47 || r == 58) := by
  by_cases h : 0 ≤ r ∧ r < 128
  · have := runeIx_small ⟨r.toNat, by omega⟩
    simpa [Int.toNat_of_nonneg h.1] using this
  · have e : runeIx r = -1 := by unfold runeIx; rw [if_neg h]
    rw [e]
    have h1 : (r == 95) = false := by rw [beq_eq_false_iff_ne]; omega
    have h2 : (r == 45) = false := by rw [beq_eq_false_iff_ne]; omega
    have h3 : (r == 43) = false := by rw [beq_eq_false_iff_ne]; omega
    have h4 : (r == 46) = false := by rw [beq_eq_false_iff_ne]; omega
    have h5 : (r == 47) = false := by rw [beq_eq_false_iff_ne]; omega
    have h6 : (r == 58) = false := by rw [beq_eq_false_iff_ne]; omega
    rw [h1, h2, h3, h4, h5, h6]
    rfl
theorem plain_s (r : Int) : (callF G48 100 31 [vR r] []).run = some (vB (plB r), []) := by
  rw [plain_t, strEq_self, runeIx_ge]
  unfold plB
  simp only [ge_iff_le, cond_true]
  generalize (r == 95) = a1
  generalize (r == 45) = a2
  generalize (r == 43) = a3
  generalize (r == 46) = a4
  generalize (r == 47) = a5
  generalize (r == 58) = a6
  cases decide (97 ≤ r) <;> cases decide (r ≤ 122) <;> cases decide (65 ≤ r) <;> cases decide (r ≤ 90) <;> cases decide (48 ≤ r) <;> cases decide (r ≤ 57) <;> cases a1 <;> cases a2 <;> cases a3 <;> cases a4 <;> cases a5 <;> cases a6 <;> rfl
def f31 : Says
  | [.c (.s (.d (.c (.int .i32 r))))] => some (.ret (vB (plB r), []))
  | _ => none
noncomputable def G31 : Ctx := { G48 with mprim := addPr G48.mprim 31 f31 }
theorem goodG31 : Sx.Good Try.prog G31 := goodG48.prim1 31 f31 fun args t r m h ht => by
  unfold f31 at h
  split at h
  · rename_i c
    injection h with h; subst h
    exact goodG48.told (plain_s c) ht
  · cases h
end Go.Proofs.Ytchgegcndcdleaa
