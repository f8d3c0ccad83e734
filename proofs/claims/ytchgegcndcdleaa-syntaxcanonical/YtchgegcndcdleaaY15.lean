/- strings.Builder. -/
import Derived.Test.YtchgegcndcdleaaY13
import Derived.Lib.Builder
set_option linter.unusedVariables false
set_option linter.unusedSimpArgs false
set_option linter.unusedSectionVars false
namespace Go.Proofs.Ytchgegcndcdleaa
open Go Go.Sx
/-! ### A function without a body that gives back its argument -/
def f44 : SaysM := fun args mem => match args with
  | [.c (.s (.ptr i o))] => some (.ret (.c (.s (.ptr i o)), mem))
  | _ => none
noncomputable def G44 : Ctx := { G14 with mprim := addPrM G14.mprim 44 f44 }
theorem run44 (v : Value) (w : World) : (callFunc 44 #[v]).run Try.prog w = .ok (.value v) w := by
  rw [run_callFunc_extern (fn := Try.f44) (e := Extern.AbiNoEscape.same) Try.func44 (by kernel_rfl) (by kernel_rfl) (by kernel_rfl) (by kernel_rfl), Lib.run_noEscape]
  rfl
theorem goodG44 : Sx.Good Try.prog G44 := goodG14.primM 44 f44 fun args mem t r m h ht => by
  unfold f44 at h
  split at h
  · rename_i i o
    injection h with h; subst h
    injection ht with ht; injection ht with h1 h2; subst h1; subst h2
    refine callSome_value fun F w ρ vs ha => ?_
    rw [← Array.toArray_toList (xs := vs)]
    generalize vs.toList = l at ha
    cases ha with
    | cons h1 h2 =>
      cases h2
      exact ⟨_, run44 _ w, h1⟩
  · cases h
def arB (f : FuncId) (t : Nat) : Nat := if f = 23 ∧ t = 14 then 1 else if f = 24 ∧ t = 14 then 1 else 0
noncomputable def BN : Ctx := { G44 with arrs := arB }
theorem goodBN : Sx.Good Try.prog BN := goodG44.arrs arB
/-! ### What it holds -/
def rowsT (t : List UInt8) : List (List D) := t.map fun b => [.c (.int .u8 b.toNat)]
def textR (rows : List (List D)) : List UInt8 := rows.map Go.Sx.byteOf
theorem textR_rowsT (t : List UInt8) : textR (rowsT t) = t := by
  unfold textR rowsT
  rw [List.map_map]
  conv => rhs; rw [← List.map_id t]
  refine List.map_congr_left fun b _ => ?_
  simp [Go.Sx.byteOf]
theorem isByte_rowsT (t : List UInt8) : (rowsT t).all isByte = true := by
  unfold rowsT
  rw [List.all_map, List.all_eq_true]
  intro b _
  have := b.toNat_lt
  simp only [Function.comp_apply, isByte, Bool.and_eq_true, decide_eq_true_eq]
  omega
theorem rowsT_textR {rows : List (List D)} (h : rows.all isByte = true) : rows = rowsT (textR rows) := by
  unfold textR rowsT
  rw [List.map_map]
  conv => lhs; rw [← List.map_id rows]
  refine List.map_congr_left fun r hr => ?_
  exact @isByte_some noFr r (List.all_eq_true.1 h r hr)
theorem rowsT_len (t : List UInt8) : (rowsT t).length = t.length := by simp [rowsT]
theorem rowsT_app (a b : List UInt8) : rowsT a ++ rowsT b = rowsT (a ++ b) := by simp [rowsT]
theorem rowsT_solid (t : List UInt8) : ((rowsT t).all fun r => solid (r.map C.d)) = true := by
  unfold rowsT
  rw [List.all_map, List.all_eq_true]
  intro b _
  rfl
abbrev bldN : Blk := .cells [.s (.d (.c (.pointer none))), .s (.d (.c (.slice none 0 0)))] (some 57)
abbrev bldA (n : Nat) : Blk := .cells [.s (.ptr 0 0), .s (.as n)] (some 57)
abbrev byB (t : List UInt8) : Blk := .arrD 1 (rowsT t) (some 5)
abbrev byR (r : List (List D)) : Blk := .arrD 1 r (some 5)
abbrev wrR (n : Nat) : AV := .tup [.c (cI n), .c (.s (.d (.c .nilIface)))]
def big : Nat := 35184372088832
/-! ### WriteString, WriteByte, String -/
theorem ws_n (s : ByteArray) : (callF BN 100 23 [.s (.ptr 0 0), vS s] [bldN]).run =
    bif true && (rowsT s.data.toList).all (fun r => solid (r.map C.d)) then bif decide ((rowsT s.data.toList).length * 2 ≤ 70368744177664) then some (wrR s.size, [bldA 1, byB s.data.toList]) else none else none := by kernel_rfl
theorem ws_a (s : ByteArray) (rows : List (List D)) : (callF BN 100 23 [.s (.ptr 0 0), vS s] [bldA 1, byR rows]).run =
    bif true && (true && (rowsT s.data.toList).all (fun r => solid (r.map C.d))) then bif decide ((rows.length + (rowsT s.data.toList).length) * 2 ≤ 70368744177664) then some (wrR s.size, [bldA 2, .dead, byR (rows ++ rowsT s.data.toList)]) else none else none := by kernel_rfl
theorem wb_a (c : Int) (rows : List (List D)) : (callF BN 100 24 [.s (.ptr 0 0), .v (.int .u8 c)] [bldA 1, byR rows]).run =
    bif decide ((rows.length + 1) * 2 ≤ 70368744177664) then some (.c (.s (.d (.c .nilIface))), [bldA 2, .dead, byR (rows ++ [[.c (.int .u8 c)]])]) else none := by kernel_rfl
theorem st_a (rows : List (List D)) : (callF BN 100 25 [.s (.ptr 0 0)] [bldA 1, byR rows]).run =
    bif !rows.isEmpty then bif rows.all isByte && !rows.isEmpty then bif ((rows.length : Int) == (rows.length : Int)) && decide ((rows.length : Int) ≤ 9223372036854775807) then some (vS (bytesOf rows), [bldA 1, .dead]) else none else none else none := by kernel_rfl
theorem st_n : (callF BN 100 25 [.s (.ptr 0 0)] [bldN]).run = some (vS ByteArray.empty, [bldN]) := by kernel_rfl
def okT (rows : List (List D)) (n : Nat) : Bool := rows.all isByte && decide (rows.length + n ≤ big)
def f23 : SaysM := fun args mem => match args, mem with
  | [.c (.s (.ptr 0 0)), .c (.s (.d (.c (.string s))))], [.cells [.s (.d (.c (.pointer none))), .s (.d (.c (.slice none 0 0)))] (some 57)] =>
    some (.ite (decide (s.size ≤ big)) (.ret (wrR s.size, [bldA 1, byB s.data.toList])) .fail)
  | [.c (.s (.ptr 0 0)), .c (.s (.d (.c (.string s))))], [.cells [.s (.ptr 0 0), .s (.as 1)] (some 57), .arrD 1 rows (some 5)] =>
    some (.ite (okT rows s.size) (.ret (wrR s.size, [bldA 2, .dead, byB (textR rows ++ s.data.toList)])) .fail)
  | _, _ => none
noncomputable def G23 : Ctx := { BN with mprim := addPrM BN.mprim 23 f23 }
theorem goodG23 : Sx.Good Try.prog G23 := goodBN.primM 23 f23 fun args mem t r m h ht => by
  unfold f23 at h
  split at h
  · rename_i s
    injection h with h; subst h
    obtain ⟨h1, h2⟩ := guard_run ht
    injection h2 with h3 h4; subst h3; subst h4
    rw [decide_eq_true_eq] at h1
    refine goodBN.call (k := 100) ?_
    rw [← callF_eq]
    show (callF BN 100 23 [.s (.ptr 0 0), vS s] [bldN]).run = _
    have e : decide ((rowsT s.data.toList).length * 2 ≤ 70368744177664) = true := by
      rw [decide_eq_true_eq, rowsT_len]
      have : s.size = s.data.toList.length := rfl
      simp only [big] at h1
      omega
    rw [ws_n, rowsT_solid, e]; rfl
  · rename_i s rows
    injection h with h; subst h
    obtain ⟨h1, h2⟩ := guard_run ht
    injection h2 with h3 h4; subst h3; subst h4
    simp only [okT, Bool.and_eq_true, decide_eq_true_eq] at h1
    refine goodBN.call (k := 100) ?_
    rw [← callF_eq]
    show (callF BN 100 23 [.s (.ptr 0 0), vS s] [bldA 1, byR rows]).run = _
    have e : decide ((rows.length + (rowsT s.data.toList).length) * 2 ≤ 70368744177664) = true := by
      rw [decide_eq_true_eq, rowsT_len]
      have : s.size = s.data.toList.length := rfl
      have := h1.2
      simp only [big] at this
      omega
    rw [ws_a, rowsT_solid, e]
    show some (wrR s.size, [bldA 2, .dead, byR (rows ++ rowsT s.data.toList)]) = some (wrR s.size, [bldA 2, .dead, byB (textR rows ++ s.data.toList)])
    rw [show byB (textR rows ++ _) = byR (rowsT (textR rows ++ _)) from rfl, ← rowsT_app, ← rowsT_textR h1.1]
  · cases h
def f24 : SaysM := fun args mem => match args, mem with
  | [.c (.s (.ptr 0 0)), .c (.s (.d (.c (.int .u8 32))))], [.cells [.s (.ptr 0 0), .s (.as 1)] (some 57), .arrD 1 rows (some 5)] =>
    some (.ite (okT rows 1) (.ret (.c (.s (.d (.c .nilIface))), [bldA 2, .dead, byB (textR rows ++ [32])])) .fail)
  | _, _ => none
noncomputable def G24 : Ctx := { G23 with mprim := addPrM G23.mprim 24 f24 }
theorem goodG24 : Sx.Good Try.prog G24 := goodG23.primM 24 f24 fun args mem t r m h ht => by
  unfold f24 at h
  split at h
  · rename_i rows
    injection h with h; subst h
    obtain ⟨h1, h2⟩ := guard_run ht
    injection h2 with h3 h4; subst h3; subst h4
    simp only [okT, Bool.and_eq_true, decide_eq_true_eq] at h1
    refine CallSome.glob_eq (X := BN) (X' := G23) rfl (goodBN.call (k := 100) ?_)
    rw [← callF_eq]
    show (callF BN 100 24 [.s (.ptr 0 0), .v (.int .u8 32)] [bldA 1, byR rows]).run = _
    have e : decide ((rows.length + 1) * 2 ≤ 70368744177664) = true := by
      rw [decide_eq_true_eq]
      have := h1.2
      simp only [big] at this
      omega
    rw [wb_a, e]
    show some (_, [bldA 2, .dead, byR (rows ++ rowsT [32])]) = some (_, [bldA 2, .dead, byB (textR rows ++ [32])])
    rw [show byB (textR rows ++ _) = byR (rowsT (textR rows ++ _)) from rfl, ← rowsT_app, ← rowsT_textR h1.1]
  · cases h
def f25 : SaysM := fun args mem => match args, mem with
  | [.c (.s (.ptr 0 0))], [.cells [.s (.d (.c (.pointer none))), .s (.d (.c (.slice none 0 0)))] (some 57)] => some (.ret (vS ByteArray.empty, [bldN]))
  | [.c (.s (.ptr 0 0))], [.cells [.s (.ptr 0 0), .s (.as 1)] (some 57), .arrD 1 rows (some 5)] =>
    some (.ite (okT rows 0 && !rows.isEmpty) (.ret (vS (bs (textR rows)), [bldA 1, .dead])) .fail)
  | _, _ => none
noncomputable def G25 : Ctx := { G24 with mprim := addPrM G24.mprim 25 f25 }
theorem goodG25 : Sx.Good Try.prog G25 := goodG24.primM 25 f25 fun args mem t r m h ht => by
  unfold f25 at h
  split at h
  · injection h with h; subst h
    injection ht with ht; injection ht with h1 h2; subst h1; subst h2
    refine CallSome.glob_eq (X := BN) (X' := G24) rfl (goodBN.call (k := 100) ?_)
    rw [← callF_eq]
    exact st_n
  · rename_i rows
    injection h with h; subst h
    obtain ⟨h1, h2⟩ := guard_run ht
    injection h2 with h3 h4; subst h3; subst h4
    simp only [okT, Bool.and_eq_true, decide_eq_true_eq] at h1
    refine CallSome.glob_eq (X := BN) (X' := G24) rfl (goodBN.call (k := 100) ?_)
    rw [← callF_eq]
    show (callF BN 100 25 [.s (.ptr 0 0)] [bldA 1, byR rows]).run = _
    have e : (((rows.length : Int) == (rows.length : Int)) && decide ((rows.length : Int) ≤ 9223372036854775807)) = true := by
      rw [beq_self_eq_true, Bool.true_and, decide_eq_true_eq]
      have := h1.1.2
      simp only [big] at this
      omega
    rw [st_a, h1.1.1, h1.2, e]; rfl
  · cases h
end Go.Proofs.Ytchgegcndcdleaa
