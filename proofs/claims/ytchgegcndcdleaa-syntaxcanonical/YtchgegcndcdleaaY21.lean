/- The parser takes a token: told. -/
import Derived.Test.YtchgegcndcdleaaY20
set_option linter.unusedVariables false
set_option linter.unusedSimpArgs false
set_option linter.unusedSectionVars false
namespace Go.Proofs.Ytchgegcndcdleaa
open Go Go.Sx
def dLv : Nat → List (List C) → Mem → Option (List Lv)
  | _, [], [] => some []
  | n, [.s (.d (.c (.int .i64 line))), .s (.gs k), .s (.d (.c (.bool true))), .s (.d (.c (.slice none 0 0))), .s (.as k')] :: rows, .grow 2 w :: .arrD 4 b none :: rest =>
    if k = n ∧ k' = n + 1 then (dLv (n + 2) rows rest).map (⟨line, w, b⟩ :: ·) else none
  | _, _, _ => none
def dP : Mem → Option PS
  | .cells [.s (.as 1), .s (.d (.c (.int .i64 line))), .s (.gs 2), .s (.d (.c (.bool blk))), .s (.d (.c (.slice none 0 0))), .s (.d (.c (.bool begun))), .s (.d (.c (.int .i64 count))), .s (.as 3)] none :: .arrD 4 done none :: .grow 2 words :: .arr 5 rows :: rest =>
    (dLv 4 rows rest).map fun o => ⟨done, line, words, blk, begun, count, o⟩
  | _ => none
theorem dLv_some : ∀ (n : Nat) (rows : List (List C)) (rest : Mem) (o : List Lv), dLv n rows rest = some o → rows = lvRows n o ∧ rest = lvBlks o := by
  intro n rows
  induction rows generalizing n with
  | nil =>
    intro rest o h
    unfold dLv at h
    split at h
    · injection h with h; subst h; exact ⟨rfl, rfl⟩
    · rename_i h1; cases h1
    · cases h
  | cons r rows ih =>
    intro rest o h
    unfold dLv at h
    split at h
    · rename_i h1; cases h1
    · rename_i n' line k k' rows' w b rest' h1
      injection h1 with h1 h2; subst h1; subst h2
      split at h
      · rename_i hk
        obtain ⟨rfl, rfl⟩ := hk
        rw [Option.map_eq_some_iff] at h
        obtain ⟨o', h3, rfl⟩ := h
        obtain ⟨h4, h5⟩ := ih _ _ _ h3
        rw [h4, h5]
        exact ⟨rfl, rfl⟩
      · cases h
    · cases h
theorem dP_some {mem : Mem} {s : PS} (h : dP mem = some s) : mem = memP 0 s := by
  unfold dP at h
  split at h
  · rw [Option.map_eq_some_iff] at h
    obtain ⟨o, h1, rfl⟩ := h
    obtain ⟨h2, h3⟩ := dLv_some _ _ _ _ h1
    rw [h2, h3]; rfl
  · cases h
def mSemi (s : PS) : Mem := pcB (.s (.as (4 + 2 * s.outer.length))) 0 (.s (.gs (5 + 2 * s.outer.length))) false false s.count (.s (.as 3)) :: .dead :: .grow 2 s.words :: .arr 5 (lvRows 4 s.outer) :: (lvBlks s.outer ++ [.arrD 4 (s.done ++ [iRow s.line s.words s.blk cNilD]) none, .grow 2 []])
def mPush (s : PS) : Mem := pcB (.s (.as (5 + 2 * s.outer.length))) 0 (.s (.gs (6 + 2 * s.outer.length))) false false s.count (.s (.as (4 + 2 * s.outer.length))) :: .arrD 4 s.done none :: .grow 2 s.words :: .dead :: (lvBlks s.outer ++ [.arr 5 (lvRows 4 s.outer ++ [[cI s.line, .s (.gs 2), cB true, cNil, .s (.as 1)]]), .arrD 4 [] none, .grow 2 []])
def mPop (s : PS) : Mem := pcB (.s (.as (4 + 2 * s.outer.length))) 0 (.s (.gs (6 + 2 * s.outer.length))) false false s.count (.s (.as (5 + 2 * s.outer.length))) :: .froz 4 s.done :: .grow 2 s.words :: .dead ::
  (lvBlks (initL s.outer) ++ [.grow 2 (lastL s.outer).w, .dead, .arrD 4 ((lastL s.outer).bef ++ [iRow (lastL s.outer).line (lastL s.outer).w true (.sl 4 s.done)]) none, .arr 5 (lvRows 4 (initL s.outer)), .grow 2 []])
def takeT (s : PS) (kind : Int) (text : ByteArray) (tl : Int) : T (AV × Mem) :=
  .ite (kind == 59) (.ite s.begun (.ite (roomN s.done.length 65) (.ret (vI 0, mSemi s)) .fail) (.ret (vI 6, memP 0 s)))
  (.ite (kind == 123) (.ite s.begun (if s.outer.length = 4 then .ret (vI 17, memP 0 s) else .ret (vI 0, mPush s)) (.ret (vI 6, memP 0 s)))
  (.ite (kind == 125) (.ite s.begun (.ret (vI 6, memP 0 s)) (if s.outer.length = 0 then .ret (vI 6, memP 0 s) else .ite (roomN (lastL s.outer).bef.length 65) (.ret (vI 0, mPop s)) .fail))
  (.ite s.begun (.ite ((s.words.length : Int) == 40) (.ret (vI 3, memP 0 s)) (.ite (roomN s.words.length 25) (.ret (vI 0, rwAdd s (wRow text (kind == 34)))) .fail))
    (.ite (!opB text (kind == 34)) (.ret (vI 6, memP 0 s)) (.ite (s.count == 600) (.ret (vI 3, memP 0 s)) (.ret (vI 0, rwBeg s tl (wRow text (kind == 34)))))))))
theorem lvBlks_len (o : List Lv) : (lvBlks o).length = 2 * o.length := by
  induction o with
  | nil => rfl
  | cons a o ih => simp only [lvBlks, List.length_cons, ih]; omega
theorem initL_len : ∀ o : List Lv, (initL o).length = o.length - 1
  | [] => rfl
  | [_] => rfl
  | a :: b :: r => by
    have := initL_len (b :: r)
    simp only [initL, List.length_cons] at this ⊢
    omega
theorem set_end {α : Type} (l : List α) (a b : α) : (l ++ [a]).set l.length b = l ++ [b] := by
  rw [List.set_append_right _ _ (Nat.le_refl _), Nat.sub_self]; rfl
theorem end_cond {α : Type} (l : List α) (a : α) : decide ((l.length : Int) < ((l ++ [a]).length : Int)) = true ∧ decide (l.length < (l ++ [a]).length) = true := by
  simp only [List.length_append, List.length_cons, List.length_nil, decide_eq_true_eq]
  omega
theorem wk_semi (m : Nat) (r : AV) (s : PS) : WkR m r (rwSemi s) r (mSemi s) := by
  have hl : (rwSemi s).length = 5 + 2 * s.outer.length := by
    simp only [rwSemi, List.length_cons, List.length_append, lvBlks_len, List.length_nil]; omega
  have h := WkR.nil (m := m) (r := r) (mem := rwSemi s) (i := 0) (j := 2) (x := .gs (rwSemi s).length) (b := .grow 2 []) rfl rfl (.gs _ 2)
  have e : nilSet (rwSemi s) 0 2 [.s (.as (4 + 2 * s.outer.length)), cI 0, cNil, cB false, cNil, cB false, cI s.count, .s (.as 3)] none (.gs (rwSemi s).length) (.grow 2 []) = mSemi s := by
    rw [hl]
    unfold nilSet rwSemi mSemi
    simp only [set_end, List.set_cons_zero, List.set_cons_succ, List.cons_append, List.append_assoc, List.nil_append]
  exact e ▸ h
theorem wk_push (m : Nat) (r : AV) (s : PS) : WkR m r (rwPush s) r (mPush s) := by
  have hl : (rwPush s).length = 5 + 2 * s.outer.length := by
    simp only [rwPush, List.length_cons, List.length_append, lvBlks_len, List.length_nil]; omega
  have h := WkR.nil (m := m) (r := r) (mem := rwPush s) (i := 0) (j := 0) (x := .as (rwPush s).length) (b := .arrD 4 [] none) rfl rfl (.as _ 4 none)
  have hl2 : (nilSet (rwPush s) 0 0 [cNil, cI 0, cNil, cB false, cNil, cB false, cI s.count, .s (.as (4 + 2 * s.outer.length))] none (.as (rwPush s).length) (.arrD 4 [] none)).length = 6 + 2 * s.outer.length := by
    simp only [nilSet, List.length_append, List.length_set, hl, List.length_cons, List.length_nil]; omega
  have h2 := WkR.nil (m := m) (r := r) (mem := nilSet (rwPush s) 0 0 [cNil, cI 0, cNil, cB false, cNil, cB false, cI s.count, .s (.as (4 + 2 * s.outer.length))] none (.as (rwPush s).length) (.arrD 4 [] none)) (i := 0) (j := 2)
    (x := .gs (nilSet (rwPush s) 0 0 [cNil, cI 0, cNil, cB false, cNil, cB false, cI s.count, .s (.as (4 + 2 * s.outer.length))] none (.as (rwPush s).length) (.arrD 4 [] none)).length) (b := .grow 2 []) rfl rfl (.gs _ 2)
  have h3 := h.trans h2
  rw [hl2] at h3
  have e : nilSet (nilSet (rwPush s) 0 0 [cNil, cI 0, cNil, cB false, cNil, cB false, cI s.count, .s (.as (4 + 2 * s.outer.length))] none (.as (rwPush s).length) (.arrD 4 [] none)) 0 2 [.s (.as (rwPush s).length), cI 0, cNil, cB false, cNil, cB false, cI s.count, .s (.as (4 + 2 * s.outer.length))] none (.gs (6 + 2 * s.outer.length)) (.grow 2 []) = mPush s := by
    rw [hl]
    unfold nilSet rwPush mPush
    simp only [List.set_cons_zero, List.set_cons_succ, List.cons_append, List.append_assoc, List.nil_append]
  exact e ▸ h3
theorem wk_pop (m : Nat) (r : AV) (s : PS) (ho : s.outer.length ≠ 0) : WkR m r (rwPop s) r (mPop s) := by
  have hl : (rwPop s).length = 6 + 2 * s.outer.length := by
    simp only [rwPop, List.length_cons, List.length_append, lvBlks_len, initL_len, List.length_nil]; omega
  have h := WkR.nil (m := m) (r := r) (mem := rwPop s) (i := 0) (j := 2) (x := .gs (rwPop s).length) (b := .grow 2 []) rfl rfl (.gs _ 2)
  have e : nilSet (rwPop s) 0 2 [.s (.as (4 + 2 * s.outer.length)), cI 0, cNil, cB false, cNil, cB false, cI s.count, .s (.as (5 + 2 * s.outer.length))] none (.gs (rwPop s).length) (.grow 2 []) = mPop s := by
    rw [hl]
    unfold nilSet rwPop mPop
    simp only [set_end, List.set_cons_zero, List.set_cons_succ, List.cons_append, List.append_assoc, List.nil_append]
  exact e ▸ h
theorem takeT_wk {s : PS} {kind : Int} {text : ByteArray} {tl : Int} {r : AV} {m : Mem} {n : Nat} (h : (takeT s kind text tl).run = some (r, m)) : ∃ raw, takeR s kind text tl = some (r, raw) ∧ WkR n r raw r m := by
  unfold takeT at h
  unfold takeR
  have same : ∀ {x : AV × Mem}, some x = some (r, m) → ∃ raw, some x = some (r, raw) ∧ WkR n r raw r m := fun h => ⟨m, h, WkR.refl _ _ _⟩
  simp only [T.run] at h
  cases h1 : kind == 59
  · simp only [h1, cond_false] at h ⊢
    cases h2 : kind == 123
    · simp only [h2, cond_false] at h ⊢
      cases h3 : kind == 125
      · simp only [h3, cond_false] at h ⊢
        cases h4 : s.begun
        · simp only [h4, cond_false] at h ⊢
          cases h5 : !opB text (kind == 34)
          · simp only [h5, cond_false] at h ⊢
            cases h6 : s.count == 600
            · simp only [h6, cond_false] at h ⊢; exact same h
            · simp only [h6, cond_true] at h ⊢; exact same h
          · simp only [h5, cond_true] at h ⊢; exact same h
        · simp only [h4, cond_true] at h ⊢
          cases h5 : ((s.words.length : Int) == 40)
          · simp only [h5, cond_false] at h ⊢
            cases h6 : roomN s.words.length 25
            · simp only [h6, cond_false] at h; cases h
            · simp only [h6, cond_true] at h ⊢; exact same h
          · simp only [h5, cond_true] at h ⊢; exact same h
      · simp only [h3, cond_true] at h ⊢
        cases h4 : s.begun
        · simp only [h4, cond_false] at h ⊢
          split at h
          · rename_i h5
            rw [h5]
            exact same h
          · rename_i h5
            rw [show (s.outer.length == 0) = false by simpa using h5]
            simp only [T.run] at h
            cases h6 : roomN (lastL s.outer).bef.length 65
            · simp only [h6, cond_false] at h; cases h
            · simp only [h6, cond_true, cond_false, (end_cond (lastL s.outer).bef zrow).1, (end_cond (lastL s.outer).bef zrow).2, Bool.and_self] at h ⊢
              injection h with h; injection h with h7 h8; subst h7; subst h8
              exact ⟨_, rfl, wk_pop n _ s h5⟩
        · simp only [h4, cond_true] at h ⊢; exact same h
    · simp only [h2, cond_true] at h ⊢
      cases h4 : s.begun
      · simp only [h4, cond_false, Bool.not_false, cond_true] at h ⊢; exact same h
      · simp only [h4, cond_true, Bool.not_true, cond_false] at h ⊢
        split at h
        · rename_i h5
          rw [h5]; exact same h
        · rename_i h5
          rw [show (s.outer.length == 4) = false by simpa using h5]
          injection h with h; injection h with h7 h8; subst h7; subst h8
          exact ⟨_, rfl, wk_push n _ s⟩
  · simp only [h1, cond_true] at h ⊢
    cases h4 : s.begun
    · simp only [h4, cond_false, Bool.not_false, cond_true] at h ⊢; exact same h
    · simp only [h4, cond_true, Bool.not_true, cond_false] at h ⊢
      cases h6 : roomN s.done.length 65
      · simp only [h6, cond_false] at h; cases h
      · simp only [h6, cond_true, (end_cond s.done zrow).1, (end_cond s.done zrow).2, Bool.and_self] at h ⊢
        injection h with h; injection h with h7 h8; subst h7; subst h8
        exact ⟨_, rfl, wk_semi n _ s⟩
def s0 : PS := ⟨[], 0, [], false, false, 0, []⟩
abbrev pcN : Blk := pcB cNil 0 cNil false false 0 cNil
theorem wk_new : WkR 1 .undef [pcN] .undef (memP 0 s0) := by
  have h1 := WkR.nil (m := 1) (r := .undef) (mem := [pcN]) (i := 0) (j := 0) (x := .as 1) (b := .arrD 4 [] none) rfl rfl (.as _ 4 none)
  have h2 := WkR.nil (m := 1) (r := .undef) (mem := nilSet [pcN] 0 0 [cNil, cI 0, cNil, cB false, cNil, cB false, cI 0, cNil] none (.as 1) (.arrD 4 [] none)) (i := 0) (j := 2) (x := .gs 2) (b := .grow 2 []) rfl rfl (.gs _ 2)
  have h3 := WkR.nil (m := 1) (r := .undef) (mem := nilSet (nilSet [pcN] 0 0 [cNil, cI 0, cNil, cB false, cNil, cB false, cI 0, cNil] none (.as 1) (.arrD 4 [] none)) 0 2 [.s (.as 1), cI 0, cNil, cB false, cNil, cB false, cI 0, cNil] none (.gs 2) (.grow 2 [])) (i := 0) (j := 7) (x := .as 3) (b := .arr 5 []) rfl rfl (.ar _ 5)
  exact (h1.trans h2).trans h3
def dPN : Mem → Option PS
  | [.cells [.s (.d (.c (.slice none 0 0))), .s (.d (.c (.int .i64 0))), .s (.d (.c (.slice none 0 0))), .s (.d (.c (.bool false))), .s (.d (.c (.slice none 0 0))), .s (.d (.c (.bool false))), .s (.d (.c (.int .i64 0))), .s (.d (.c (.slice none 0 0)))] none] => some s0
  | mem => dP mem
theorem dPN_some {mem : Mem} {s : PS} (h : dPN mem = some s) : mem = memP 0 s ∨ (mem = [pcN] ∧ s = s0) := by
  unfold dPN at h
  split at h
  · injection h with h; exact .inr ⟨rfl, h.symm⟩
  · exact .inl (dP_some h)
def f18 : SaysM := fun args mem => match args with
  | [.c (.s (.ptr 0 0)), .agg [.s (.d (.c (.int .u8 kind))), .s (.d (.c (.string text))), .s (.d (.c (.int .i64 tl)))]] => match dPN mem with
    | some s => if s.outer.length ≤ 4 then some (takeT s kind text tl) else none
    | none => none
  | _ => none
noncomputable def G18 : Ctx := { XP with mprim := addPrM XP.mprim 18 f18 }
theorem goodG18 : Sx.Good Try.prog G18 := goodXP.primM 18 f18 fun args mem t r m h ht => by
  unfold f18 at h
  split at h
  · rename_i kind text tl
    split at h
    · rename_i s hs
      split at h
      · rename_i ho
        injection h with h; subst h
        have key : CallSome Try.prog XP 18 [.c (.s (.ptr 0 0)), tokA kind text tl] (memP 0 s) r m := by
          obtain ⟨raw, h1, h2⟩ := takeT_wk (n := (memP 0 s).length) ht
          refine CallSome.wk (r := r) (mem1 := raw) ?_ h2
          refine goodXP.call (k := 100) ?_
          rw [← callF_eq]
          exact (take_r s ho kind text tl).trans h1
        rcases dPN_some hs with rfl | ⟨rfl, rfl⟩
        · exact key
        · exact CallSome.wkIn wk_new key
      · cases h
    · cases h
  · cases h
end Go.Proofs.Ytchgegcndcdleaa
