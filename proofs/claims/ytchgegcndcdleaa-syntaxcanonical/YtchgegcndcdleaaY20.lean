/- The parser takes a token. -/
import Derived.Test.YtchgegcndcdleaaY18
import Derived.Test.YtchgegcndcdleaaSxc
set_option linter.unusedVariables false
set_option linter.unusedSimpArgs false
set_option linter.unusedSectionVars false
namespace Go.Proofs.Ytchgegcndcdleaa
open Go Go.Sx
abbrev Rows := List (List D)
structure Lv where
  line : Int
  w : Rows
  bef : Rows
structure PS where
  done : Rows
  line : Int
  words : Rows
  blk : Bool
  begun : Bool
  count : Int
  outer : List Lv
def arP (f : FuncId) (t : Nat) : Nat := if f = 18 then (if t = 51 then 2 else if t = 52 then 2 else if t = 108 then 2 else 0) else if f = 33 ∧ t = 12 then 1 else 0
noncomputable def XP : Ctx := { G6 with arrs := arP }
theorem goodXP : Sx.Good Try.prog XP := goodG6.arrs arP
def lvRows : Nat → List Lv → List (List C)
  | _, [] => []
  | n, l :: r => [cI l.line, .s (.gs n), cB true, cNil, .s (.as (n + 1))] :: lvRows (n + 2) r
def lvBlks : List Lv → Mem
  | [] => []
  | l :: r => .grow 2 l.w :: .arrD 4 l.bef none :: lvBlks r
abbrev pcB (d : C) (line : Int) (w : C) (blk begun : Bool) (count : Int) (o : C) : Blk := .cells [d, cI line, w, cB blk, cNil, cB begun, cI count, o] none
def memP (b : Nat) (s : PS) : Mem := pcB (.s (.as (b + 1))) s.line (.s (.gs (b + 2))) s.blk s.begun s.count (.s (.as (b + 3))) :: .arrD 4 s.done none :: .grow 2 s.words :: .arr 5 (lvRows (b + 4) s.outer) :: lvBlks s.outer
def lastL : List Lv → Lv
  | [] => ⟨0, [], []⟩
  | [a] => a
  | _ :: b :: r => lastL (b :: r)
def initL : List Lv → List Lv
  | [] => []
  | [_] => []
  | a :: b :: r => a :: initL (b :: r)
abbrev cNilD : D := .c (.slice none 0 0)
abbrev zrow : List D := [.c (.int .i64 0), cNilD, .c (.bool false), cNilD]
def tokA (kind : Int) (text : ByteArray) (tl : Int) : AV := .agg [.s (.d (.c (.int .u8 kind))), cS text, cI tl]
def wRow (text : ByteArray) (q : Bool) : List D := [.c (.string text), .c (.bool q)]
def iRow (line : Int) (w : Rows) (blk : Bool) (kids : D) : List D := [.c (.int .i64 line), .sl 2 w, .c (.bool blk), kids]
/-- What is left in memory, as it is left. -/
def rwSemi (s : PS) : Mem := pcB (.s (.as (4 + 2 * s.outer.length))) 0 cNil false false s.count (.s (.as 3)) :: .dead :: .grow 2 s.words :: .arr 5 (lvRows 4 s.outer) :: (lvBlks s.outer ++ [.arrD 4 ((s.done ++ [zrow]).set s.done.length (iRow s.line s.words s.blk cNilD)) none])
def rwPush (s : PS) : Mem := pcB cNil 0 cNil false false s.count (.s (.as (4 + 2 * s.outer.length))) :: .arrD 4 s.done none :: .grow 2 s.words :: .dead :: (lvBlks s.outer ++ [.arr 5 (lvRows 4 s.outer ++ [[cI s.line, .s (.gs 2), cB true, cNil, .s (.as 1)]])])
def rwPop (s : PS) : Mem := pcB (.s (.as (4 + 2 * s.outer.length))) 0 cNil false false s.count (.s (.as (5 + 2 * s.outer.length))) :: .froz 4 s.done :: .grow 2 s.words :: .dead ::
  (lvBlks (initL s.outer) ++ [.grow 2 (lastL s.outer).w, .dead, .arrD 4 (((lastL s.outer).bef ++ [zrow]).set (lastL s.outer).bef.length (iRow (lastL s.outer).line (lastL s.outer).w true (.sl 4 s.done))) none, .arr 5 (lvRows 4 (initL s.outer))])
def rwAdd (s : PS) (w : List D) : Mem := pcB (.s (.as 1)) s.line (.s (.gs (4 + 2 * s.outer.length))) s.blk s.begun s.count (.s (.as 3)) :: .arrD 4 s.done none :: .froz 2 s.words :: .arr 5 (lvRows 4 s.outer) :: (lvBlks s.outer ++ [.grow 2 (s.words ++ [w])])
def rwBeg (s : PS) (tl : Int) (w : List D) : Mem := pcB (.s (.as 1)) tl (.s (.gs (4 + 2 * s.outer.length))) false true (IntKind.i64.wrap (s.count + 1)) (.s (.as 3)) :: .arrD 4 s.done none :: .grow 2 s.words :: .arr 5 (lvRows 4 s.outer) :: (lvBlks s.outer ++ [.grow 2 [w]])
def roomN (n z : Nat) : Bool := decide ((n + 1) * z ≤ 70368744177664)
def takeR (s : PS) (kind : Int) (text : ByteArray) (tl : Int) : Option (AV × Mem) :=
  bif kind == 59 then bif !s.begun then some (vI 6, memP 0 s)
    else bif roomN s.done.length 65 then bif true && decide ((s.done.length : Int) < ((s.done ++ [zrow]).length : Int)) then bif decide (s.done.length < (s.done ++ [zrow]).length) then some (vI 0, rwSemi s) else none else none else none
  else bif kind == 123 then bif !s.begun then some (vI 6, memP 0 s) else bif s.outer.length == 4 then some (vI 17, memP 0 s) else some (vI 0, rwPush s)
  else bif kind == 125 then bif s.begun then some (vI 6, memP 0 s) else bif s.outer.length == 0 then some (vI 6, memP 0 s)
    else bif roomN (lastL s.outer).bef.length 65 then bif true && decide (((lastL s.outer).bef.length : Int) < (((lastL s.outer).bef ++ [zrow]).length : Int)) then bif decide ((lastL s.outer).bef.length < ((lastL s.outer).bef ++ [zrow]).length) then some (vI 0, rwPop s) else none else none else none
  else bif s.begun then bif ((s.words.length : Int) == 40) then some (vI 3, memP 0 s) else bif roomN s.words.length 25 then some (vI 0, rwAdd s (wRow text (kind == 34))) else none
  else bif !opB text (kind == 34) then some (vI 6, memP 0 s) else bif s.count == 600 then some (vI 3, memP 0 s) else some (vI 0, rwBeg s tl (wRow text (kind == 34)))
theorem take_r0 (done : Rows) (line : Int) (words : Rows) (blk begun : Bool) (count : Int)  (kind : Int) (text : ByteArray) (tl : Int) :
    (callF XP 100 18 [.s (.ptr 0 0), tokA kind text tl] (memP 0 ⟨done, line, words, blk, begun, count, []⟩)).run = takeR ⟨done, line, words, blk, begun, count, []⟩ kind text tl := by kernel_rfl
theorem take_r1 (done : Rows) (line : Int) (words : Rows) (blk begun : Bool) (count : Int) (l1 : Int) (w1 b1 : Rows) (kind : Int) (text : ByteArray) (tl : Int) :
    (callF XP 100 18 [.s (.ptr 0 0), tokA kind text tl] (memP 0 ⟨done, line, words, blk, begun, count, [⟨l1, w1, b1⟩]⟩)).run = takeR ⟨done, line, words, blk, begun, count, [⟨l1, w1, b1⟩]⟩ kind text tl := by kernel_rfl
theorem take_r2 (done : Rows) (line : Int) (words : Rows) (blk begun : Bool) (count : Int) (l1 : Int) (w1 b1 : Rows) (l2 : Int) (w2 b2 : Rows) (kind : Int) (text : ByteArray) (tl : Int) :
    (callF XP 100 18 [.s (.ptr 0 0), tokA kind text tl] (memP 0 ⟨done, line, words, blk, begun, count, [⟨l1, w1, b1⟩, ⟨l2, w2, b2⟩]⟩)).run = takeR ⟨done, line, words, blk, begun, count, [⟨l1, w1, b1⟩, ⟨l2, w2, b2⟩]⟩ kind text tl := by kernel_rfl
theorem take_r3 (done : Rows) (line : Int) (words : Rows) (blk begun : Bool) (count : Int) (l1 : Int) (w1 b1 : Rows) (l2 : Int) (w2 b2 : Rows) (l3 : Int) (w3 b3 : Rows) (kind : Int) (text : ByteArray) (tl : Int) :
    (callF XP 100 18 [.s (.ptr 0 0), tokA kind text tl] (memP 0 ⟨done, line, words, blk, begun, count, [⟨l1, w1, b1⟩, ⟨l2, w2, b2⟩, ⟨l3, w3, b3⟩]⟩)).run = takeR ⟨done, line, words, blk, begun, count, [⟨l1, w1, b1⟩, ⟨l2, w2, b2⟩, ⟨l3, w3, b3⟩]⟩ kind text tl := by kernel_rfl
theorem take_r4 (done : Rows) (line : Int) (words : Rows) (blk begun : Bool) (count : Int) (l1 : Int) (w1 b1 : Rows) (l2 : Int) (w2 b2 : Rows) (l3 : Int) (w3 b3 : Rows) (l4 : Int) (w4 b4 : Rows) (kind : Int) (text : ByteArray) (tl : Int) :
    (callF XP 100 18 [.s (.ptr 0 0), tokA kind text tl] (memP 0 ⟨done, line, words, blk, begun, count, [⟨l1, w1, b1⟩, ⟨l2, w2, b2⟩, ⟨l3, w3, b3⟩, ⟨l4, w4, b4⟩]⟩)).run = takeR ⟨done, line, words, blk, begun, count, [⟨l1, w1, b1⟩, ⟨l2, w2, b2⟩, ⟨l3, w3, b3⟩, ⟨l4, w4, b4⟩]⟩ kind text tl := by kernel_rfl
theorem take_r (s : PS) (ho : s.outer.length ≤ 4) (kind : Int) (text : ByteArray) (tl : Int) : (callF XP 100 18 [.s (.ptr 0 0), tokA kind text tl] (memP 0 s)).run = takeR s kind text tl := by
  obtain ⟨done, line, words, blk, begun, count, o⟩ := s
  match o, ho with
  | [], _ => exact take_r0 _ _ _ _ _ _  _ _ _
  | [⟨l1, w1, b1⟩], _ => exact take_r1 _ _ _ _ _ _ _ _ _  _ _ _
  | [⟨l1, w1, b1⟩, ⟨l2, w2, b2⟩], _ => exact take_r2 _ _ _ _ _ _ _ _ _ _ _ _  _ _ _
  | [⟨l1, w1, b1⟩, ⟨l2, w2, b2⟩, ⟨l3, w3, b3⟩], _ => exact take_r3 _ _ _ _ _ _ _ _ _ _ _ _ _ _ _  _ _ _
  | [⟨l1, w1, b1⟩, ⟨l2, w2, b2⟩, ⟨l3, w3, b3⟩, ⟨l4, w4, b4⟩], _ => exact take_r4 _ _ _ _ _ _ _ _ _ _ _ _ _ _ _ _ _ _  _ _ _
end Go.Proofs.Ytchgegcndcdleaa
