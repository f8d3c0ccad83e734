/- Parse: what it answers. -/
import Derived.Test.YtchgegcndcdleaaY26
set_option linter.unusedVariables false
set_option linter.unusedSimpArgs false
set_option linter.unusedSectionVars false
namespace Go.Proofs.Ytchgegcndcdleaa
open Go Go.Sx
theorem par_i (k : Nat) (s : ByteArray) (a line : Int) (p : PS) (ho : p.outer.length ≤ 4) : (loopF B7p (k + 1) 7 0 4 (hdP s a line p)).run =
    loopO p (okL s a line) (lxD s a.toNat line).1 fun p => (loopF B7p k 7 0 4 (hdP s ((lxD s a.toNat line).2.1 : Nat) (lxD s a.toNat line).2.2 p)).run := by
  obtain ⟨done, ln, words, blk, begun, count, o⟩ := p
  match o, ho with
  | [], _ => exact par_i0 _ _ _ _ _ _ _ _ _ _ 
  | [⟨l1, w1, b1⟩], _ => exact par_i1 _ _ _ _ _ _ _ _ _ _ _ _ _ 
  | [⟨l1, w1, b1⟩, ⟨l2, w2, b2⟩], _ => exact par_i2 _ _ _ _ _ _ _ _ _ _ _ _ _ _ _ _ 
  | [⟨l1, w1, b1⟩, ⟨l2, w2, b2⟩, ⟨l3, w3, b3⟩], _ => exact par_i3 _ _ _ _ _ _ _ _ _ _ _ _ _ _ _ _ _ _ _ 
  | [⟨l1, w1, b1⟩, ⟨l2, w2, b2⟩, ⟨l3, w3, b3⟩, ⟨l4, w4, b4⟩], _ => exact par_i4 _ _ _ _ _ _ _ _ _ _ _ _ _ _ _ _ _ _ _ _ _ _ 
/-! ### Statements -/
def wdRow (w : Wd) : List D := wRow w.text w.quoted
mutual
def slRow : It → List D
  | .mk line ws bk kids => iRow line (ws.map wdRow) bk (bif bk then .sl 4 (slRows kids) else cNilD)
def slRows : List It → Rows
  | [] => []
  | a :: l => slRow a :: slRows l
end
theorem slRows_app : ∀ a b : List It, slRows (a ++ b) = slRows a ++ slRows b
  | [], b => rfl
  | x :: a, b => by simp only [List.cons_append, slRows, slRows_app a b]
theorem slRows_len : ∀ a : List It, (slRows a).length = a.length
  | [] => rfl
  | x :: a => by simp only [slRows, List.length_cons, slRows_len a]
structure LvI where
  line : Int
  words : List Wd
  bef : List It
structure PI where
  done : List It
  line : Int
  words : List Wd
  begun : Bool
  count : Int
  outer : List LvI
def encLv (l : LvI) : Lv := ⟨l.line, l.words.map wdRow, slRows l.bef⟩
def encP (p : PI) : PS := ⟨slRows p.done, p.line, p.words.map wdRow, false, p.begun, p.count, p.outer.map encLv⟩
def lastI : List LvI → LvI
  | [] => ⟨0, [], []⟩
  | [a] => a
  | _ :: b :: r => lastI (b :: r)
def initI : List LvI → List LvI
  | [] => []
  | [_] => []
  | a :: b :: r => a :: initI (b :: r)
theorem last_enc : ∀ o : List LvI, lastL (o.map encLv) = encLv (lastI o)
  | [] => rfl
  | [_] => rfl
  | _ :: b :: r => by
    have := last_enc (b :: r)
    simpa only [List.map_cons, lastL, lastI] using this
theorem init_enc : ∀ o : List LvI, initL (o.map encLv) = (initI o).map encLv
  | [] => rfl
  | [_] => rfl
  | a :: b :: r => by
    have := init_enc (b :: r)
    simp only [List.map_cons] at this
    simp only [List.map_cons, initL, initI, this]
theorem last_init : ∀ o : List LvI, o ≠ [] → o = initI o ++ [lastI o]
  | [], h => absurd rfl h
  | [_], _ => rfl
  | a :: b :: r, _ => by
    have := last_init (b :: r) (by simp)
    simp only [initI, lastI, List.cons_append]
    rw [← this]
def semiI (p : PI) : PI := ⟨p.done ++ [.mk p.line p.words false []], 0, [], false, p.count, p.outer⟩
def pushI (p : PI) : PI := ⟨[], 0, [], false, p.count, p.outer ++ [⟨p.line, p.words, p.done⟩]⟩
def popI (p : PI) : PI := ⟨(lastI p.outer).bef ++ [.mk (lastI p.outer).line (lastI p.outer).words true p.done], 0, [], false, p.count, initI p.outer⟩
def addI (p : PI) (w : Wd) : PI := ⟨p.done, p.line, p.words ++ [w], p.begun, p.count, p.outer⟩
def begI (p : PI) (tl : Int) (w : Wd) : PI := ⟨p.done, tl, [w], true, p.count + 1, p.outer⟩
def stepI (p : PI) (x : LR) : Except Int PI :=
  bif x.kind == 59 then bif p.begun then .ok (semiI p) else .error 6
  else bif x.kind == 123 then bif p.begun then bif p.outer.length == 4 then .error 17 else .ok (pushI p) else .error 6
  else bif x.kind == 125 then bif p.begun then .error 6 else bif p.outer.length == 0 then .error 6 else .ok (popI p)
  else bif p.begun then bif p.words.length == 40 then .error 3 else .ok (addI p ⟨x.text, x.kind == 34⟩)
  else bif !opB x.text (x.kind == 34) then .error 6 else bif p.count == 600 then .error 3 else .ok (begI p x.tl ⟨x.text, x.kind == 34⟩)
structure InvP (p : PI) (a : Nat) : Prop where
  done : p.done.length ≤ a
  words : p.words.length ≤ a
  bef : ∀ l, l ∈ p.outer → l.bef.length ≤ a
  outer : p.outer.length ≤ 4
  c0 : 0 ≤ p.count
  c1 : p.count ≤ 600
theorem roomN_true {n z : Nat} (h : n ≤ 20000) (hz : z ≤ 65) : roomN n z = true := by
  rw [roomN, decide_eq_true_eq]
  have := Nat.mul_le_mul (show n + 1 ≤ 20001 by omega) hz
  omega
theorem lastI_mem {o : List LvI} (h : o ≠ []) : lastI o ∈ o := by
  have h1 : lastI o ∈ initI o ++ [lastI o] := List.mem_append_right _ (List.mem_singleton.2 rfl)
  rwa [← last_init o h] at h1
theorem take_step (p : PI) (a : Nat) (h : InvP p a) (ha : a ≤ 12000) (x : LR) (rec : PS → Option (Ex × St)) : takeO (encP p) x.kind x.text x.tl rec = match stepI p x with
    | .error e => errO x.tl e
    | .ok p' => rec (encP p') := by
  have l1 : (encP p).done.length = p.done.length := slRows_len _
  have l2 : (encP p).words.length = p.words.length := List.length_map ..
  have l3 : (encP p).outer.length = p.outer.length := List.length_map ..
  unfold takeO stepI
  rw [l1, l2, l3, roomN_true (z := 65) (by have := h.done; omega) (by omega), roomN_true (n := p.words.length) (z := 25) (by have := h.words; omega) (by omega)]
  show (bif x.kind == 59 then bif p.begun then _ else _ else _) = _
  rw [show (encP p).begun = p.begun from rfl, show (encP p).count = p.count from rfl]
  have e1 : semiS (encP p) = encP (semiI p) := by
    simp only [semiS, encP, semiI, slRows_app, slRows, slRow, cond_false]
    rfl
  have e2 : pushS (encP p) = encP (pushI p) := by
    simp only [pushS, encP, pushI, List.map_append, List.map_cons, List.map_nil, encLv, slRows]
  have e4 : ∀ w : Wd, addS (encP p) (wRow w.text w.quoted) = encP (addI p w) := fun w => by
    simp only [addS, encP, addI, List.map_append, List.map_cons, List.map_nil, wdRow]
  have e5 : ∀ w : Wd, p.count ≠ 600 → begS (encP p) x.tl (wRow w.text w.quoted) = encP (begI p x.tl w) := fun w hc => by
    simp only [begS, encP, begI, List.map_cons, List.map_nil, wdRow]
    rw [wrap_id (by have := h.c0; omega) (by have := h.c1; omega)]
  have e6 : (((p.words.length : Nat) : Int) == 40) = (p.words.length == 40) := by
    rw [Bool.eq_iff_iff, beq_iff_eq, beq_iff_eq]; omega
  rw [e1, e2, e6]
  have f4 : addS (encP p) (wRow x.text (x.kind == 34)) = encP (addI p ⟨x.text, x.kind == 34⟩) := e4 ⟨x.text, x.kind == 34⟩
  rw [f4]
  cases c59 : x.kind == 59
  · cases c123 : x.kind == 123
    · cases c125 : x.kind == 125
      · cases hb : p.begun
        · cases ho : opB x.text (x.kind == 34)
          · rfl
          · cases hc : p.count == 600
            · simp only [cond_false, Bool.not_true]
              rw [show begS (encP p) x.tl (wRow x.text (x.kind == 34)) = encP (begI p x.tl ⟨x.text, x.kind == 34⟩) from e5 ⟨x.text, x.kind == 34⟩ (by simpa using hc)]
            · rfl
        · cases p.words.length == 40 <;> rfl
      · cases hb : p.begun
        · by_cases ho : p.outer = []
          · rw [ho]; rfl
          · have hl : (p.outer.length == 0) = false := by
              rw [beq_eq_false_iff_ne]
              intro h0
              exact ho (List.eq_nil_of_length_eq_zero h0)
            have e3 : popS (encP p) = encP (popI p) := by
              simp only [popS, encP, popI, last_enc, init_enc, slRows_app, slRows, slRow, cond_true]
              rfl
            have hr : roomN (lastL (encP p).outer).bef.length 65 = true := by
              show roomN (lastL (p.outer.map encLv)).bef.length 65 = true
              rw [last_enc]
              show roomN (slRows (lastI p.outer).bef).length 65 = true
              rw [slRows_len]
              exact roomN_true (by have := h.bef _ (lastI_mem ho); omega) (by omega)
            rw [hl, hr, e3]; rfl
        · rfl
    · cases hb : p.begun
      · rfl
      · cases p.outer.length == 4 <;> rfl
  · cases hb : p.begun <;> rfl
def parL : Nat → List UInt8 → Int → PI → Except (Int × Int) (List It)
  | 0, _, _, _ => .error (0, 0)
  | n + 1, L, line, p =>
    bif !((lx1 L line).1.err == 0) then .error ((lx1 L line).1.el, (lx1 L line).1.err)
    else bif (lx1 L line).1.kind == 0 then bif p.begun then .error ((lx1 L line).1.tl, 6) else bif p.outer.length == 0 then .ok p.done else .error ((lx1 L line).1.tl, 6)
    else match stepI p (lx1 L line).1 with
      | .error e => .error ((lx1 L line).1.tl, e)
      | .ok p' => parL n (lx1 L line).2.1 (lx1 L line).2.2 p'
theorem initI_len (o : List LvI) : (initI o).length = o.length - 1 := by
  have := initL_len (o.map encLv)
  rw [init_enc, List.length_map, List.length_map] at this
  exact this
theorem InvP.step {p p' : PI} {a a' : Nat} {x : LR} (h : InvP p a) (hlt : a < a') (hs : stepI p x = .ok p') : InvP p' a' := by
  have b1 := h.done
  have b2 := h.words
  have b3 := h.outer
  have b4 := h.c0
  have b5 := h.c1
  have b6 := h.bef
  unfold stepI at hs
  cases c59 : x.kind == 59
  · rw [c59] at hs
    cases c123 : x.kind == 123
    · rw [c123] at hs
      cases c125 : x.kind == 125
      · rw [c125] at hs
        cases hb : p.begun
        · rw [hb] at hs
          cases ho : opB x.text (x.kind == 34)
          · rw [ho] at hs; cases hs
          · rw [ho] at hs
            cases hc : p.count == 600
            · rw [hc] at hs
              have hc' : p.count ≠ 600 := by simpa using hc
              injection hs with hs; subst hs
              exact ⟨by show p.done.length ≤ a'; omega, by show 1 ≤ a'; omega, fun l hl => by have := b6 l hl; omega, b3, by show 0 ≤ p.count + 1; omega, by show p.count + 1 ≤ 600; omega⟩
            · rw [hc] at hs; cases hs
        · rw [hb] at hs
          cases hw : p.words.length == 40
          · rw [hw] at hs
            injection hs with hs; subst hs
            exact ⟨by show p.done.length ≤ a'; omega, by simp only [addI, List.length_append, List.length_cons, List.length_nil]; omega, fun l hl => by have := b6 l hl; omega, b3, b4, b5⟩
          · rw [hw] at hs; cases hs
      · rw [c125] at hs
        cases hb : p.begun
        · rw [hb] at hs
          cases ho : p.outer.length == 0
          · rw [ho] at hs
            injection hs with hs; subst hs
            have hne : p.outer ≠ [] := by
              intro h0
              rw [h0] at ho; simp at ho
            have hm := b6 _ (lastI_mem hne)
            refine ⟨by simp only [popI, List.length_append, List.length_cons, List.length_nil]; omega, Nat.zero_le _, fun l hl => ?_, by simp only [popI, initI_len]; omega, b4, b5⟩
            have : l ∈ p.outer := by
              rw [last_init p.outer hne]
              exact List.mem_append_left _ hl
            have := b6 l this
            omega
          · rw [ho] at hs; cases hs
        · rw [hb] at hs; cases hs
    · rw [c123] at hs
      cases hb : p.begun
      · rw [hb] at hs; cases hs
      · rw [hb] at hs
        cases ho : p.outer.length == 4
        · rw [ho] at hs
          injection hs with hs; subst hs
          have ho' : p.outer.length ≠ 4 := by simpa using ho
          refine ⟨Nat.zero_le _, Nat.zero_le _, fun l hl => ?_, by simp only [pushI, List.length_append, List.length_cons, List.length_nil]; omega, b4, b5⟩
          rcases List.mem_append.1 hl with hl | hl
          · have := b6 l hl; omega
          · obtain rfl := List.mem_singleton.1 hl
            show p.done.length ≤ a'; omega
        · rw [ho] at hs; cases hs
  · rw [c59] at hs
    cases hb : p.begun
    · rw [hb] at hs; cases hs
    · rw [hb] at hs
      injection hs with hs; subst hs
      exact ⟨by simp only [semiI, List.length_append, List.length_cons, List.length_nil]; omega, Nat.zero_le _, fun l hl => by have := b6 l hl; omega, b3, b4, b5⟩
def outP : Except (Int × Int) (List It) → Option (Ex × St)
  | .error e => errO e.1 e.2
  | .ok l => okO (slRows l)
theorem okL_true {s : ByteArray} {a : Nat} {line : Int} (hs : s.size ≤ 12000) (ha : a ≤ s.size) (h0 : 0 ≤ line) (h1 : line + (s.size - a : Nat) ≤ 20000) : okL s a line = true := by
  simp only [okL, Bool.and_eq_true, decide_eq_true_eq, Int.toNat_natCast]
  exact ⟨⟨⟨⟨by omega, ha⟩, hs⟩, h0⟩, h1⟩
/-- One step of both. -/
theorem loop_step (s : ByteArray) (hs : s.size ≤ 12000) (n a : Nat) (line : Int) (p : PI) (ha : a ≤ s.size) (h0 : 0 ≤ line) (h1 : line + (s.size - a : Nat) ≤ 20000) (hp : InvP p a) (rec : PS → Option (Ex × St))
    (hrec : ∀ p', stepI p (lxD s a line).1 = .ok p' → (lxD s a line).1.err = 0 → (lxD s a line).1.kind ≠ 0 → rec (encP p') = outP (parL n (restB s (lxD s a line).2.1) (lxD s a line).2.2 p')) :
    loopO (encP p) (okL s a line) (lxD s a line).1 rec = outP (parL (n + 1) (restB s a) line p) := by
  have hl := (lxD_list s a line ha).1
  have e1 : (lx1 (restB s a) line).1 = (lxD s a line).1 := by rw [hl]
  have e2 : (lx1 (restB s a) line).2.1 = restB s (lxD s a line).2.1 := by rw [hl]
  have e3 : (lx1 (restB s a) line).2.2 = (lxD s a line).2.2 := by rw [hl]
  unfold loopO
  rw [parL, e1, e2, e3, okL_true hs ha h0 h1]
  simp only [cond_true]
  cases he : (lxD s a line).1.err == 0
  · rfl
  · cases hk : (lxD s a line).1.kind == 0
    · simp only [Bool.not_true, cond_false]
      rw [take_step p a hp (by omega)]
      cases hst : stepI p (lxD s a line).1 with
      | error e => rfl
      | ok p' => exact hrec p' hst (by simpa using he) (by simpa using hk)
    · simp only [Bool.not_true, cond_false, cond_true]
      have e4 : decide (((encP p).outer.length : Int) > 0) = !(p.outer.length == 0) := by
        rw [show (encP p).outer.length = p.outer.length from List.length_map ..]
        cases hh : p.outer.length == 0
        · rw [Bool.not_false, decide_eq_true_eq]
          have : p.outer.length ≠ 0 := by simpa using hh
          omega
        · rw [Bool.not_true, decide_eq_false_iff_not]
          have : p.outer.length = 0 := by simpa using hh
          omega
      rw [e4]
      show (bif p.begun then _ else _) = _
      cases p.begun
      · cases p.outer.length == 0 <;> rfl
      · rfl
theorem par_run (s : ByteArray) (hs : s.size ≤ 12000) : ∀ (n a : Nat) (line : Int) (p : PI), s.size - a < n → a ≤ s.size → 0 ≤ line → line + (s.size - a : Nat) ≤ 20000 → InvP p a →
    (loopF B7p n 7 0 4 (hdP s a line (encP p))).run = outP (parL n (restB s a) line p) := by
  intro n
  induction n with
  | zero => intro a line p h; omega
  | succ n ih =>
    intro a line p h ha h0 h1 hp
    have hl := lxD_list s a line ha
    rw [par_i n s a line (encP p) (by show (p.outer.map encLv).length ≤ 4; rw [List.length_map]; exact hp.outer)]
    simp only [Int.toNat_natCast]
    refine loop_step s hs n a line p ha h0 h1 hp _ fun p' hst he hk => ?_
    have hlt := hl.2.2.2.1 he hk
    exact ih _ _ p' (by omega) hl.2.1 (by have := hl.2.2.2.2.1; omega) (by have := hl.2.2.2.2.2; have := hl.2.1; omega) (hp.step hlt hst)
end Go.Proofs.Ytchgegcndcdleaa
