/- The lexer: words and comments. -/
import Derived.Test.YtchgegcndcdleaaY21
set_option linter.unusedVariables false
set_option linter.unusedSimpArgs false
set_option linter.unusedSectionVars false
namespace Go.Proofs.Ytchgegcndcdleaa
open Go Go.Sx
abbrev lexB (s : ByteArray) (a line : Int) : Blk := .cells [cS s, cI a, cI line] none
/-- A token, or an error with its line. -/
structure LR where
  kind : Int
  text : ByteArray
  tl : Int
  el : Int
  err : Int
abbrev lexT (x : LR) : AV := .tup [.agg [.s (.d (.c (.int .u8 x.kind))), cS x.text, cI x.tl], .c (cI x.el), .c (cI x.err)]
abbrev tokB (x : LR) : Blk := .cells [.s (.d (.c (.int .u8 x.kind))), cS x.text, cI x.tl] (some 45)
def errR (el err : Int) : LR := ⟨0, ByteArray.empty, 0, el, err⟩
def badA (s : ByteArray) (a : Nat) (kind : Int) : Bool := decide (a < s.size) && (((bAt s a).toNat : Int) == 34 || (kind == 34 && plU (bAt s a)))
def finD (s : ByteArray) (a : Nat) (kind : Int) (text : ByteArray) (tl : Int) : LR := bif decide ((text.size : Int) > 120) then errR tl 4 else bif badA s a kind then errR tl 6 else ⟨kind, text, tl, 0, 0⟩
theorem fin_t (s : ByteArray) (a line : Int) (kind : Int) (text : ByteArray) (tl : Int) : (callF G18 100 32 [.s (.ptr 0 0), tokA kind text tl] [lexB s a line]).run =
    bif decide ((text.size : Int) > 120) then some (lexT (errR tl 4), [lexB s a line])
    else bif decide (a < s.size) then bif decide (0 ≤ a) && decide (a < s.size) then bif ((bAt s a.toNat).toNat : Int) == 34 then some (lexT (errR tl 6), [lexB s a line])
        else bif kind == 34 then bif plB (IntKind.i32.wrap ((bAt s a.toNat).toNat : Int)) then some (lexT (errR tl 6), [lexB s a line]) else some (lexT ⟨kind, text, tl, 0, 0⟩, [lexB s a line])
        else some (lexT ⟨kind, text, tl, 0, 0⟩, [lexB s a line])
      else none
    else some (lexT ⟨kind, text, tl, 0, 0⟩, [lexB s a line]) := by kernel_rfl
theorem wrap32_byte (b : UInt8) : IntKind.i32.wrap ((b.toNat : Nat) : Int) = ((b.toNat : Nat) : Int) := by
  have := b.toNat_lt
  simp only [IntKind.wrap, IntKind.bits, IntKind.signed, Bool.true_and, ge_iff_le, decide_eq_true_eq]
  split <;> omega
theorem fin_s (s : ByteArray) (a : Nat) (line : Int) (kind : Int) (text : ByteArray) (tl : Int) : (callF G18 100 32 [.s (.ptr 0 0), tokA kind text tl] [lexB s a line]).run = some (lexT (finD s a kind text tl), [lexB s a line]) := by
  rw [fin_t, wrap32_byte]
  unfold finD badA plU
  simp only [Int.toNat_natCast]
  have e2 : decide ((0 : Int) ≤ a) = true := by rw [decide_eq_true_eq]; omega
  have e3 : decide ((a : Int) < s.size) = decide (a < s.size) := by rw [decide_eq_decide]; omega
  rw [e2, e3]
  cases decide ((text.size : Int) > 120) <;> cases decide (a < s.size) <;> cases ((bAt s a).toNat : Int) == 34 <;> cases kind == 34 <;> cases plB ((bAt s a).toNat : Int) <;> rfl
def f32 : SaysM := fun args mem => match args, mem with
  | [.c (.s (.ptr 0 0)), .agg [.s (.d (.c (.int .u8 kind))), .s (.d (.c (.string text))), .s (.d (.c (.int .i64 tl)))]], [.cells [.s (.d (.c (.string s))), .s (.d (.c (.int .i64 a))), .s (.d (.c (.int .i64 line)))] none] =>
    some (.ite (decide (0 ≤ a)) (.ret (lexT (finD s a.toNat kind text tl), [lexB s a line])) .fail)
  | _, _ => none
noncomputable def G32 : Ctx := { G18 with mprim := addPrM G18.mprim 32 f32 }
theorem goodG32 : Sx.Good Try.prog G32 := goodG18.primM 32 f32 fun args mem t r m h ht => by
  unfold f32 at h
  split at h
  · rename_i kind text tl s a line
    injection h with h; subst h
    obtain ⟨h1, h2⟩ := guard_run ht
    injection h2 with h3 h4; subst h3; subst h4
    rw [decide_eq_true_eq] at h1
    refine goodG18.call (k := 100) ?_
    rw [← callF_eq]
    have := fin_s s a.toNat line kind text tl
    rw [Int.toNat_of_nonneg h1] at this
    exact this
  · cases h
def kp5 (f : FuncId) (k : Nat) : Option (List Nat) :=
  if f = 30 then (if k = 3 then some [0, 2, 3, 4, 5] else if k = 3000003 then some [0, 2, 3, 4] else none)
  else if f = 17 then (if k = 1000000 then some [0, 2, 3, 4] else if k = 5 then some [0, 2, 3, 4] else if k = 3000005 then some [0, 2, 3, 4] else if k = 18 then some [0, 2, 3, 4, 6] else if k = 3000018 then some [0, 2, 3, 4, 6] else none)
  else kp4 f k
noncomputable def BL : Ctx := { G32 with keep := kp5 }
theorem goodBL : Sx.Good Try.prog BL := goodG32.keep kp5
abbrev tok0 : Blk := tokB (errR 0 0)
/-! ### A row of bytes of one kind -/
def restB (s : ByteArray) (a : Nat) : List UInt8 := s.data.toList.drop a
def spanN (p : UInt8 → Bool) (l : List UInt8) : Nat := (l.takeWhile p).length
theorem restB_end {s : ByteArray} {a : Nat} (h : s.size ≤ a) : restB s a = [] := List.drop_of_length_le (by simpa using h)
theorem restB_cons {s : ByteArray} {a : Nat} (h : a < s.size) : restB s a = bAt s a :: restB s (a + 1) := by
  unfold restB
  have hl : a < s.data.toList.length := by simpa using h
  rw [List.drop_eq_getElem_cons hl]
  congr 1
  have h2 : a < s.data.size := h
  simp only [bAt, Array.getD, dif_pos h2]
  rfl
theorem restB_len (s : ByteArray) (a : Nat) : (restB s a).length = s.size - a := by
  unfold restB
  rw [List.length_drop]; rfl
theorem spanN_nil (p : UInt8 → Bool) : spanN p [] = 0 := rfl
theorem spanN_cons (p : UInt8 → Bool) (b : UInt8) (l : List UInt8) : spanN p (b :: l) = if p b then spanN p l + 1 else 0 := by
  unfold spanN
  rw [List.takeWhile_cons]
  split <;> rfl
theorem spanN_le (p : UInt8 → Bool) (l : List UInt8) : spanN p l ≤ l.length := by
  induction l with
  | nil => exact Nat.le_refl _
  | cons b l ih =>
    rw [spanN_cons]
    split
    · simp only [List.length_cons]; omega
    · omega
theorem span_in (s : ByteArray) (a : Nat) (p : UInt8 → Bool) (h : a ≤ s.size) : a + spanN p (restB s a) ≤ s.size := by
  have := spanN_le p (restB s a)
  rw [restB_len] at this
  omega
/-! ### A comment -/
def hdc (s : ByteArray) (a line : Int) : St := ⟨[.s (.ptr 0 0), na, .s (.ptr 1 0), vI 0, vI 0] ++ nas 180, [lexB s a line, tok0]⟩
def comU (b : UInt8) : Bool := (b.toNat : Int) != 10
theorem com_i (k : Nat) (s : ByteArray) (a line : Int) : (loopF BL (k + 1) 17 1 5 (hdc s a line)).run =
    bif decide (a < s.size) then bif decide (0 ≤ a) && decide (a < s.size) then bif comU (bAt s a.toNat) then (loopF BL k 17 1 5 (hdc s (IntKind.i64.wrap (a + 1)) line)).run else some (.ex 1, hdc s a line) else none
    else some (.ex 1, hdc s a line) := by kernel_rfl
theorem com_loop (s : ByteArray) (hs : s.size ≤ 9223372036854775807) (line : Int) : ∀ (m a : Nat), a + m = s.size →
    (loopF BL (m + 1) 17 1 5 (hdc s a line)).run = some (.ex 1, hdc s ((a + spanN comU (restB s a) : Nat) : Int) line) := by
  intro m
  induction m with
  | zero =>
    intro a h
    rw [com_i, restB_end (by omega)]
    have : decide ((a : Int) < s.size) = false := by rw [decide_eq_false_iff_not]; omega
    rw [this]; rfl
  | succ m ih =>
    intro a h
    have ha : a < s.size := by omega
    have e1 : decide ((a : Int) < s.size) = true := by rw [decide_eq_true_eq]; omega
    have e2 : decide ((0 : Int) ≤ a) = true := by rw [decide_eq_true_eq]; omega
    have e3 : IntKind.i64.wrap ((a : Int) + 1) = ((a + 1 : Nat) : Int) := by rw [wrap_id (by omega) (by omega)]; rfl
    rw [com_i, e3, restB_cons ha, spanN_cons]
    simp only [e1, e2, Int.toNat_natCast, Bool.and_self, cond_true, ih (a + 1) (by omega)]
    cases comU (bAt s a)
    · rfl
    · simp only [cond_true, if_true]
      rw [show a + 1 + spanN comU (restB s (a + 1)) = a + (spanN comU (restB s (a + 1)) + 1) by omega]
structure LxA where
  s : ByteArray
  a : Nat
  line : Int
abbrev hdpc (p : LxA) : St := hdc p.s p.a p.line
def prec (p : LxA) : Prop := p.a ≤ p.s.size ∧ p.s.size ≤ 9223372036854775807
def resC (s : St) : T (Ex × St) := match s.mem with
  | [.cells [.s (.d (.c (.string x))), .s (.d (.c (.int .i64 a))), .s (.d (.c (.int .i64 line)))] _, _] => .ret (.ex 1, hdc x ((a.toNat + spanN comU (restB x a.toNat) : Nat) : Int) line)
  | _ => .fail
noncomputable def LC : Ctx := { BL with lp := addLp BL.lp 17 5 1 (lpOf hdpc prec resC) }
theorem goodLC : Sx.Good Try.prog LC := goodBL.loop1 17 5 1 _ _ _ (by kernel_rfl) fun p hp => ⟨p.s.size - p.a + 1, com_loop p.s hp.2 p.line (p.s.size - p.a) p.a (by have := hp.1; omega)⟩
/-! ### A plain word -/
def hdw (s : ByteArray) (a line fr : Int) : St := ⟨[.s (.ptr 0 0), na, .s (.ptr 1 0), vI 0, vI 0, na, vI fr] ++ nas 178, [lexB s a line, tok0]⟩
theorem wrd_i (k : Nat) (s : ByteArray) (a line fr : Int) : (loopF LC (k + 1) 17 1 18 (hdw s a line fr)).run =
    bif decide (a < s.size) then bif decide (0 ≤ a) && decide (a < s.size) then bif plB (IntKind.i32.wrap ((bAt s a.toNat).toNat : Int)) then (loopF LC k 17 1 18 (hdw s (IntKind.i64.wrap (a + 1)) line fr)).run else some (.ex 3, hdw s a line fr) else none
    else some (.ex 3, hdw s a line fr) := by kernel_rfl
theorem wrd_loop (s : ByteArray) (hs : s.size ≤ 9223372036854775807) (line fr : Int) : ∀ (m a : Nat), a + m = s.size →
    (loopF LC (m + 1) 17 1 18 (hdw s a line fr)).run = some (.ex 3, hdw s ((a + spanN plU (restB s a) : Nat) : Int) line fr) := by
  intro m
  induction m with
  | zero =>
    intro a h
    rw [wrd_i, restB_end (by omega)]
    have : decide ((a : Int) < s.size) = false := by rw [decide_eq_false_iff_not]; omega
    rw [this]; rfl
  | succ m ih =>
    intro a h
    have ha : a < s.size := by omega
    have e1 : decide ((a : Int) < s.size) = true := by rw [decide_eq_true_eq]; omega
    have e2 : decide ((0 : Int) ≤ a) = true := by rw [decide_eq_true_eq]; omega
    have e3 : IntKind.i64.wrap ((a : Int) + 1) = ((a + 1 : Nat) : Int) := by rw [wrap_id (by omega) (by omega)]; rfl
    rw [wrd_i, e3, restB_cons ha, spanN_cons, wrap32_byte]
    simp only [e1, e2, Int.toNat_natCast, Bool.and_self, cond_true, ih (a + 1) (by omega)]
    show (bif plU (bAt s a) then _ else _) = _
    cases plU (bAt s a)
    · rfl
    · simp only [cond_true, if_true]
      rw [show a + 1 + spanN plU (restB s (a + 1)) = a + (spanN plU (restB s (a + 1)) + 1) by omega]
structure LwA where
  s : ByteArray
  a : Nat
  line : Int
  fr : Int
abbrev hdpw (p : LwA) : St := hdw p.s p.a p.line p.fr
def preW (p : LwA) : Prop := p.a ≤ p.s.size ∧ p.s.size ≤ 9223372036854775807
noncomputable def resW (s : St) : T (Ex × St) := match s.mem with
  | [.cells [.s (.d (.c (.string x))), .s (.d (.c (.int .i64 a))), .s (.d (.c (.int .i64 line)))] _, _] => .ret (.ex 3, hdw x ((a.toNat + spanN plU (restB x a.toNat) : Nat) : Int) line (intV (nthA s.env 6)))
  | _ => .fail
noncomputable def LW : Ctx := { LC with lp := addLp LC.lp 17 18 1 (lpOf hdpw preW resW) }
theorem goodLW : Sx.Good Try.prog LW := goodLC.loop1 17 18 1 _ _ _ (by kernel_rfl) fun p hp => ⟨p.s.size - p.a + 1, wrd_loop p.s hp.2 p.line p.fr (p.s.size - p.a) p.a (by have := hp.1; omega)⟩
/-! ### A quoted word -/
def quU (b : UInt8) : Bool := !((b.toNat : Int) == 34) && !(decide ((b.toNat : Int) < 32)) && !(decide ((b.toNat : Int) > 126))
def hdq (s : ByteArray) (a line fr : Int) : St := ⟨[.s (.ptr 0 0), na, .s (.ptr 1 0), vI 0, vI 0, vI fr] ++ nas 87, [lexB s a line, tok0]⟩
def rtq (x : LR) (s : ByteArray) (a line : Int) : Ex × St := (.rt, ⟨[.s (.ptr 0 0), na, .s (.ptr 1 0), vI x.el, vI x.err] ++ nas 88, [lexB s a line, tokB x]⟩)
theorem quo_i (k : Nat) (s : ByteArray) (a line fr : Int) : (loopF LW (k + 1) 30 1 3 (hdq s a line fr)).run =
    bif decide (a < s.size) then bif decide (0 ≤ a) && decide (a < s.size) then bif ((bAt s a.toNat).toNat : Int) == 34 then
        bif decide (0 ≤ IntKind.i64.wrap (IntKind.i64.wrap (a + 1) - 1)) && decide (IntKind.i64.wrap (IntKind.i64.wrap (a + 1) - 1) ≤ s.size) then bif decide (0 ≤ fr) && decide (fr ≤ ((IntKind.i64.wrap (IntKind.i64.wrap (a + 1) - 1)).toNat : Int)) then
          bif decide (0 ≤ IntKind.i64.wrap (a + 1)) then some (rtq (finD s (IntKind.i64.wrap (a + 1)).toNat 34 (s.extract fr.toNat (IntKind.i64.wrap (IntKind.i64.wrap (a + 1) - 1)).toNat) line) s (IntKind.i64.wrap (a + 1)) line) else none
        else none else none
      else bif decide (((bAt s a.toNat).toNat : Int) < 32) then some (rtq (errR line 5) s a line)
      else bif decide (((bAt s a.toNat).toNat : Int) > 126) then some (rtq (errR line 5) s a line)
      else (loopF LW k 30 1 3 (hdq s (IntKind.i64.wrap (a + 1)) line fr)).run
    else none
    else some (.ex 0, ⟨[.s (.ptr 0 0), na, .s (.ptr 1 0), vI 0, vI 0] ++ nas 88, [lexB s a line, tok0]⟩) := by kernel_rfl
end Go.Proofs.Ytchgegcndcdleaa
