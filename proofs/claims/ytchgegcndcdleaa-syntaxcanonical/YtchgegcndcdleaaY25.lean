/- Parse: its loop. -/
import Derived.Test.YtchgegcndcdleaaY24
set_option linter.unusedVariables false
set_option linter.unusedSimpArgs false
set_option linter.unusedSectionVars false
namespace Go.Proofs.Ytchgegcndcdleaa
open Go Go.Sx
def kp6 (f : FuncId) (k : Nat) : Option (List Nat) :=
  if f = 7 then (if k = 4 then some [5, 6] else if k = 3000004 then some [2, 3, 4] else none)
  else kp5 f k
noncomputable def B7p : Ctx := { G17 with keep := kp6 }
theorem goodB7p : Sx.Good Try.prog B7p := goodG17.keep kp6
def semiS (s : PS) : PS := ⟨s.done ++ [iRow s.line s.words s.blk cNilD], 0, [], false, false, s.count, s.outer⟩
def pushS (s : PS) : PS := ⟨[], 0, [], false, false, s.count, s.outer ++ [⟨s.line, s.words, s.done⟩]⟩
def popS (s : PS) : PS := ⟨(lastL s.outer).bef ++ [iRow (lastL s.outer).line (lastL s.outer).w true (.sl 4 s.done)], 0, [], false, false, s.count, initL s.outer⟩
def addS (s : PS) (w : List D) : PS := ⟨s.done, s.line, s.words ++ [w], s.blk, s.begun, s.count, s.outer⟩
def begS (s : PS) (tl : Int) (w : List D) : PS := ⟨s.done, tl, [w], false, true, IntKind.i64.wrap (s.count + 1), s.outer⟩
def errO (el err : Int) : Option (Ex × St) := some (.rt, ⟨nas 2 ++ [.c cNil, vI el, vI err] ++ nas 53, []⟩)
def okO (rows : Rows) : Option (Ex × St) := some (.rt, ⟨nas 2 ++ [.s (.as 0), vI 0, vI 0] ++ nas 53, [.arrD 4 rows none]⟩)
def takeO (s : PS) (kind : Int) (text : ByteArray) (tl : Int) (rec : PS → Option (Ex × St)) : Option (Ex × St) :=
  bif kind == 59 then bif s.begun then bif roomN s.done.length 65 then rec (semiS s) else none else errO tl 6
  else bif kind == 123 then bif s.begun then bif s.outer.length == 4 then errO tl 17 else rec (pushS s) else errO tl 6
  else bif kind == 125 then bif s.begun then errO tl 6 else bif s.outer.length == 0 then errO tl 6 else bif roomN (lastL s.outer).bef.length 65 then rec (popS s) else none
  else bif s.begun then bif ((s.words.length : Int) == 40) then errO tl 3 else bif roomN s.words.length 25 then rec (addS s (wRow text (kind == 34))) else none
  else bif !opB text (kind == 34) then errO tl 6 else bif s.count == 600 then errO tl 3 else rec (begS s tl (wRow text (kind == 34)))
def loopO (p : PS) (okc : Bool) (x : LR) (rec : PS → Option (Ex × St)) : Option (Ex × St) :=
  bif okc then bif !(x.err == 0) then errO x.el x.err
    else bif x.kind == 0 then bif p.begun then errO x.tl 6 else bif decide ((p.outer.length : Int) > 0) then errO x.tl 6 else okO p.done
    else takeO p x.kind x.text x.tl rec
  else none
def hdP (s : ByteArray) (a line : Int) (p : PS) : St := ⟨nas 5 ++ [.s (.ptr 0 0), .s (.ptr 1 0)] ++ nas 51, lexB s a line :: memP 1 p⟩
def hdN (s : ByteArray) : St := ⟨nas 5 ++ [.s (.ptr 0 0), .s (.ptr 1 0)] ++ nas 51, [lexB s 0 1, pcN]⟩
theorem par_0 (k : Nat) (s : ByteArray) : (loopF B7p (k + 1) 7 0 4 (hdN s)).run = bif okL s 0 1 then bif !((lxD s 0 1).1.err == 0) then errO (lxD s 0 1).1.el (lxD s 0 1).1.err
    else bif (lxD s 0 1).1.kind == 0 then some (.rt, ⟨nas 2 ++ [.c cNil, vI 0, vI 0] ++ nas 53, []⟩)
    else takeO s0 (lxD s 0 1).1.kind (lxD s 0 1).1.text (lxD s 0 1).1.tl fun p => (loopF B7p k 7 0 4 (hdP s ((lxD s 0 1).2.1 : Nat) (lxD s 0 1).2.2 p)).run else none := by kernel_rfl
theorem par_i0 (k : Nat) (s : ByteArray) (a line : Int) (done : Rows) (ln : Int) (words : Rows) (blk begun : Bool) (count : Int)  : (loopF B7p (k + 1) 7 0 4 (hdP s a line ⟨done, ln, words, blk, begun, count, []⟩)).run =
    loopO ⟨done, ln, words, blk, begun, count, []⟩ (okL s a line) (lxD s a.toNat line).1 fun p => (loopF B7p k 7 0 4 (hdP s ((lxD s a.toNat line).2.1 : Nat) (lxD s a.toNat line).2.2 p)).run := by kernel_rfl
theorem par_i1 (k : Nat) (s : ByteArray) (a line : Int) (done : Rows) (ln : Int) (words : Rows) (blk begun : Bool) (count : Int) (l1 : Int) (w1 b1 : Rows) : (loopF B7p (k + 1) 7 0 4 (hdP s a line ⟨done, ln, words, blk, begun, count, [⟨l1, w1, b1⟩]⟩)).run =
    loopO ⟨done, ln, words, blk, begun, count, [⟨l1, w1, b1⟩]⟩ (okL s a line) (lxD s a.toNat line).1 fun p => (loopF B7p k 7 0 4 (hdP s ((lxD s a.toNat line).2.1 : Nat) (lxD s a.toNat line).2.2 p)).run := by kernel_rfl
theorem par_i2 (k : Nat) (s : ByteArray) (a line : Int) (done : Rows) (ln : Int) (words : Rows) (blk begun : Bool) (count : Int) (l1 : Int) (w1 b1 : Rows) (l2 : Int) (w2 b2 : Rows) : (loopF B7p (k + 1) 7 0 4 (hdP s a line ⟨done, ln, words, blk, begun, count, [⟨l1, w1, b1⟩, ⟨l2, w2, b2⟩]⟩)).run =
    loopO ⟨done, ln, words, blk, begun, count, [⟨l1, w1, b1⟩, ⟨l2, w2, b2⟩]⟩ (okL s a line) (lxD s a.toNat line).1 fun p => (loopF B7p k 7 0 4 (hdP s ((lxD s a.toNat line).2.1 : Nat) (lxD s a.toNat line).2.2 p)).run := by kernel_rfl
theorem par_i3 (k : Nat) (s : ByteArray) (a line : Int) (done : Rows) (ln : Int) (words : Rows) (blk begun : Bool) (count : Int) (l1 : Int) (w1 b1 : Rows) (l2 : Int) (w2 b2 : Rows) (l3 : Int) (w3 b3 : Rows) : (loopF B7p (k + 1) 7 0 4 (hdP s a line ⟨done, ln, words, blk, begun, count, [⟨l1, w1, b1⟩, ⟨l2, w2, b2⟩, ⟨l3, w3, b3⟩]⟩)).run =
    loopO ⟨done, ln, words, blk, begun, count, [⟨l1, w1, b1⟩, ⟨l2, w2, b2⟩, ⟨l3, w3, b3⟩]⟩ (okL s a line) (lxD s a.toNat line).1 fun p => (loopF B7p k 7 0 4 (hdP s ((lxD s a.toNat line).2.1 : Nat) (lxD s a.toNat line).2.2 p)).run := by kernel_rfl
theorem par_i4 (k : Nat) (s : ByteArray) (a line : Int) (done : Rows) (ln : Int) (words : Rows) (blk begun : Bool) (count : Int) (l1 : Int) (w1 b1 : Rows) (l2 : Int) (w2 b2 : Rows) (l3 : Int) (w3 b3 : Rows) (l4 : Int) (w4 b4 : Rows) : (loopF B7p (k + 1) 7 0 4 (hdP s a line ⟨done, ln, words, blk, begun, count, [⟨l1, w1, b1⟩, ⟨l2, w2, b2⟩, ⟨l3, w3, b3⟩, ⟨l4, w4, b4⟩]⟩)).run =
    loopO ⟨done, ln, words, blk, begun, count, [⟨l1, w1, b1⟩, ⟨l2, w2, b2⟩, ⟨l3, w3, b3⟩, ⟨l4, w4, b4⟩]⟩ (okL s a line) (lxD s a.toNat line).1 fun p => (loopF B7p k 7 0 4 (hdP s ((lxD s a.toNat line).2.1 : Nat) (lxD s a.toNat line).2.2 p)).run := by kernel_rfl
end Go.Proofs.Ytchgegcndcdleaa
