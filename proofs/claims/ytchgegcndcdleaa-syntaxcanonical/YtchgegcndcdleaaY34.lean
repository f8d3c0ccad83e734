/- Parsing what was formatted. -/
import Derived.Test.YtchgegcndcdleaaY33
set_option linter.unusedVariables false
set_option linter.unusedSimpArgs false
set_option linter.unusedSectionVars false
namespace Go.Proofs.Ytchgegcndcdleaa
open Go Go.Sx
theorem par_tok {L R : List UInt8} {line line' : Int} {p p' : PI} {x : LR} (h : lx1 L line = (x, R, line')) (he : x.err = 0) (hk : x.kind ≠ 0) (hs : stepI p x = .ok p') : par L line p = par R line' p' := by
  rw [par_eq, parX, h]
  simp only [he, hs, beq_self_eq_true, Bool.not_true, cond_false]
  rw [show (x.kind == 0) = false by rw [beq_eq_false_iff_ne]; exact hk]
  rfl
theorem par_lx {L R : List UInt8} {line line' : Int} {p : PI} (h : lx1 L line = lx1 R line') : par L line p = par R line' p := by rw [par_eq, par_eq, h]
theorem par_sp (R : List UInt8) (line : Int) (p : PI) : par (32 :: R) line p = par R line p := par_lx (by unfold lx1; rw [List.length_cons, lxL]; rfl)
theorem par_nl (R : List UInt8) (line : Int) (p : PI) : par (10 :: R) line p = par R (line + 1) p := par_lx (by unfold lx1; rw [List.length_cons, lxL]; rfl)
theorem par_blank (R : List UInt8) (line : Int) (p : PI) : ∀ bl : List UInt8, (∀ b, b ∈ bl → b = 32) → par (bl ++ R) line p = par R line p
  | [], _ => rfl
  | b :: bl, h => by
    rw [h b (by simp), List.cons_append, par_sp]
    exact par_blank R line p bl fun b hb => h b (by simp [hb])
theorem lx_semi (R : List UInt8) (line : Int) : lx1 (59 :: R) line = (⟨59, ByteArray.empty, line, 0, 0⟩, R, line) := by unfold lx1; rw [List.length_cons, lxL]; rfl
theorem lx_open (R : List UInt8) (line : Int) : lx1 (123 :: R) line = (⟨123, ByteArray.empty, line, 0, 0⟩, R, line) := by unfold lx1; rw [List.length_cons, lxL]; rfl
theorem lx_close (R : List UInt8) (line : Int) : lx1 (125 :: R) line = (⟨125, ByteArray.empty, line, 0, 0⟩, R, line) := by unfold lx1; rw [List.length_cons, lxL]; rfl
/-! ### Words -/
theorem tw_all {p : UInt8 → Bool} {c : UInt8} (hc : p c = false) (R : List UInt8) : ∀ T : List UInt8, T.all p = true → (T ++ c :: R).takeWhile p = T ∧ (T ++ c :: R).dropWhile p = c :: R
  | [], _ => by simp [List.takeWhile_cons, List.dropWhile_cons, hc]
  | b :: T, h => by
    rw [List.all_cons, Bool.and_eq_true] at h
    have ih := tw_all hc R T h.2
    rw [List.cons_append, List.takeWhile_cons, List.dropWhile_cons, h.1]
    simp only [if_true, ih.1, ih.2]
    exact ⟨trivial, trivial⟩
def kindW (w : Wd) : Int := bif w.quoted then 34 else 119
/-- What may stand behind a word. -/
def sepB (c : UInt8) : Prop := ((c.toNat : Int) == 34) = false ∧ plU c = false
theorem plU_ne {b : UInt8} (h : plU b = true) (k : Nat) (hk : plB (k : Int) = false) : ((b.toNat : Int) == (k : Int)) = false := by
  rw [beq_eq_false_iff_ne]
  intro e
  unfold plU at h
  rw [e, hk] at h
  cases h
theorem finL_good {c : UInt8} {R : List UInt8} (hc : sepB c) {kind : Int} {T : List UInt8} {line : Int} (hl : T.length ≤ 120) : finL (c :: R) kind T line = ⟨kind, bs T, line, 0, 0⟩ := by
  unfold finL hdBad
  rw [show decide (T.length > 120) = false by rw [decide_eq_false_iff_not]; omega]
  simp only [hc.1, hc.2, Bool.and_false, Bool.or_self, cond_false]
theorem lx_word {w : Wd} (hw : wE w.text w.quoted = 0) {c : UInt8} (hc : sepB c) (R : List UInt8) (line : Int) : lx1 (wL w ++ c :: R) line = (⟨kindW w, w.text, line, 0, 0⟩, c :: R, line) := by
  have hsz : w.text.data.toList.length ≤ 120 := wE_size hw
  have etext : bs w.text.data.toList = w.text := bs_toL _
  unfold wE at hw
  rw [show decide ((w.text.size : Int) > 120) = false by rw [decide_eq_false_iff_not]; have : w.text.data.toList.length = w.text.size := rfl; omega] at hw
  unfold wL kindW
  generalize hT : w.text.data.toList = T at hsz etext
  cases hq : w.quoted
  · rw [hq] at hw
    simp only [cond_false] at hw ⊢
    have hp : plainS w.text = true := by
      cases h : plainS w.text
      · rw [h] at hw; simp at hw
      · rfl
    unfold plainS at hp
    rw [Bool.and_eq_true] at hp
    have hall : T.all plU = true := by rw [← hT]; exact hp.1
    have hne : T ≠ [] := by
      rintro rfl
      have h2 := hp.2
      unfold strEq at h2
      rw [hT] at h2
      simp at h2
    obtain ⟨b, T', rfl⟩ := List.exists_cons_of_ne_nil hne
    have hb : plU b = true := by rw [List.all_cons, Bool.and_eq_true] at hall; exact hall.1
    have htw := tw_all hc.2 R (b :: T') hall
    rw [List.cons_append] at htw ⊢
    unfold lx1
    rw [List.length_cons, lxL]
    have e35 := plU_ne hb 35 (by decide)
    have e10 := plU_ne hb 10 (by decide)
    have e32 := plU_ne hb 32 (by decide)
    have e9 := plU_ne hb 9 (by decide)
    have e123 := plU_ne hb 123 (by decide)
    have e125 := plU_ne hb 125 (by decide)
    have e59 := plU_ne hb 59 (by decide)
    have e34 := plU_ne hb 34 (by decide)
    rw [show ((b.toNat : Int) == 35) = false from e35, show ((b.toNat : Int) == 10) = false from e10, show ((b.toNat : Int) == 32) = false from e32, show ((b.toNat : Int) == 9) = false from e9,
      show ((b.toNat : Int) == 123) = false from e123, show ((b.toNat : Int) == 125) = false from e125, show ((b.toNat : Int) == 59) = false from e59, show ((b.toNat : Int) == 34) = false from e34, hb, htw.1, htw.2, finL_good hc hsz, etext]
    rfl
  · rw [hq] at hw
    simp only [cond_true, cond_false] at hw ⊢
    have hp : allB evU w.text 0 = true := by
      cases h : allB evU w.text 0
      · rw [h] at hw; simp at hw
      · rfl
    have hall : T.all quU = true := by
      rw [← hT, ← hp]
      show _ = w.text.data.toList.all evU
      congr 1
      funext b
      exact quU_evU b
    have htw := tw_all (show quU 34 = false by decide) (c :: R) T hall
    unfold lx1
    rw [show [34] ++ T ++ [34] ++ c :: R = 34 :: (T ++ 34 :: c :: R) by simp, List.length_cons, lxL]
    have equo : quoL (T ++ 34 :: c :: R) line = (⟨34, w.text, line, 0, 0⟩, c :: R) := by
      unfold quoL
      rw [htw.1, htw.2]
      show (bif ((34 : UInt8).toNat : Int) == 34 then (finL (c :: R) 34 T line, c :: R) else _) = _
      rw [finL_good hc hsz, etext]
      rfl
    rw [equo]
    rfl
theorem sep32 : sepB 32 := ⟨by decide, by decide⟩
theorem sep59 : sepB 59 := ⟨by decide, by decide⟩
theorem kindW_ne (w : Wd) : (kindW w == 59) = false ∧ (kindW w == 123) = false ∧ (kindW w == 125) = false ∧ kindW w ≠ 0 ∧ (kindW w == 34) = w.quoted := by
  unfold kindW
  cases w.quoted <;> decide
theorem par_words {c : UInt8} (hc : sepB c) (R : List UInt8) (line : Int) : ∀ (ws : List Wd) (p : PI), p.begun = true → (∀ w, w ∈ ws → wE w.text w.quoted = 0) → p.words.length + ws.length ≤ 40 →
    par (wsJ ws true ++ c :: R) line p = par (c :: R) line ⟨p.done, p.line, p.words ++ ws, true, p.count, p.outer⟩
  | [], p, hb, _, _ => by
    simp only [wsJ, List.nil_append, List.append_nil]
    rw [← hb]
  | w :: ws, p, hb, hw, hl => by
    simp only [List.length_cons] at hl
    have step : stepI p ⟨kindW w, w.text, line, 0, 0⟩ = .ok (addI p w) := by
      obtain ⟨k1, k2, k3, k4, k5⟩ := kindW_ne w
      unfold stepI
      simp only [k1, k2, k3, k5, hb, cond_false, cond_true]
      rw [show (p.words.length == 40) = false by rw [beq_eq_false_iff_ne]; omega]
      rfl
    have ih := par_words hc R line ws (addI p w) hb (fun w h => hw w (by simp [h])) (by simp only [addI, List.length_append, List.length_cons, List.length_nil]; omega)
    have e : par (wsJ (w :: ws) true ++ c :: R) line p = par (wsJ ws true ++ c :: R) line (addI p w) := by
      simp only [wsJ, cond_true, List.append_assoc, List.cons_append, List.nil_append]
      rw [par_sp]
      cases ws with
      | nil =>
        simp only [wsJ, List.nil_append]
        exact par_tok (lx_word (hw w (by simp)) hc R line) rfl (kindW_ne w).2.2.2.1 step
      | cons w2 ws =>
        simp only [wsJ, cond_true, List.append_assoc, List.cons_append, List.nil_append]
        exact par_tok (lx_word (hw w (by simp)) sep32 _ line) rfl (kindW_ne w).2.2.2.1 step
    rw [e, ih]
    simp only [addI, List.append_assoc, List.cons_append, List.nil_append]
theorem par_head {c : UInt8} (hc : sepB c) (R : List UInt8) (line : Int) (ws : List Wd) (hw : wsOk ws) (p : PI) (hb : p.begun = false) (hn : p.count < 600) :
    par (wsJ ws false ++ c :: R) line p = par (c :: R) line ⟨p.done, line, ws, true, p.count + 1, p.outer⟩ := by
  obtain ⟨h1, h2, h3, h4⟩ := hw
  cases ws with
  | nil => exact absurd rfl h1
  | cons w ws =>
    have h2 : opB w.text w.quoted = true := h2
    have step : stepI p ⟨kindW w, w.text, line, 0, 0⟩ = .ok (begI p line w) := by
      obtain ⟨k1, k2, k3, k4, k5⟩ := kindW_ne w
      unfold stepI
      simp only [k1, k2, k3, k5, hb, h2, cond_false, Bool.not_true]
      rw [show (p.count == 600) = false by rw [beq_eq_false_iff_ne]; omega]
      rfl
    simp only [List.length_cons] at h3
    have e : par (wsJ (w :: ws) false ++ c :: R) line p = par (wsJ ws true ++ c :: R) line (begI p line w) := by
      simp only [wsJ, cond_false, List.append_assoc, List.nil_append]
      cases ws with
      | nil =>
        simp only [wsJ, List.nil_append]
        exact par_tok (lx_word (h4 w (by simp)) hc R line) rfl (kindW_ne w).2.2.2.1 step
      | cons w2 ws =>
        simp only [wsJ, cond_true, List.append_assoc, List.cons_append, List.nil_append]
        exact par_tok (lx_word (h4 w (by simp)) sep32 _ line) rfl (kindW_ne w).2.2.2.1 step
    rw [e, par_words hc R line ws (begI p line w) rfl (fun w h => h4 w (by simp [h])) (by simp only [begI, List.length_cons, List.length_nil]; omega)]
    rfl
/-! ### Statements -/
theorem last_app : ∀ (o : List LvI) (x : LvI), lastI (o ++ [x]) = x ∧ initI (o ++ [x]) = o
  | [], x => ⟨rfl, rfl⟩
  | [a], x => ⟨rfl, rfl⟩
  | a :: b :: r, x => by
    have := last_app (b :: r) x
    simp only [List.cons_append] at this
    simp only [List.cons_append, lastI, initI, this.1, this.2]
    exact ⟨trivial, trivial⟩
structure Did (p p' : PI) (l : List It) : Prop where
  done : ∃ l', p'.done = p.done ++ l' ∧ stL l' = stL l
  begun : p'.begun = false
  outer : p'.outer = p.outer
  count : p'.count = p.count + szL l
mutual
theorem par_item : ∀ (x : It) (d : Nat) (bl R : List UInt8) (line : Int) (p : PI), goodI d x → (∀ b, b ∈ bl → b = 32) → p.begun = false → p.outer.length = d → p.count + szI x ≤ 600 →
    ∃ line' p', par (fI bl x ++ R) line p = par R line' p' ∧ Did p p' [x]
  | .mk ln ws bk kids, d, bl, R, line, p, hg, hbl, hb, ho, hn => by
    simp only [goodI] at hg
    obtain ⟨⟨hd, hd3⟩, hws, hbk, hln, hkids⟩ := hg
    simp only [szI] at hn
    cases bk with
    | false =>
      have hk := hbk rfl
      subst hk
      refine ⟨line + 1, semiI ⟨p.done, line, ws, true, p.count + 1, p.outer⟩, ?_, ⟨[.mk line ws false []], rfl, rfl⟩, rfl, rfl, ?_⟩
      · simp only [fI, cond_false, List.append_assoc, List.cons_append, List.nil_append]
        rw [par_blank _ _ _ bl hbl, par_head sep59 (10 :: R) line ws hws p hb (by omega)]
        rw [par_tok (p' := semiI ⟨p.done, line, ws, true, p.count + 1, p.outer⟩) (lx_semi (10 :: R) line) rfl (show (59 : Int) ≠ 0 by decide) rfl, par_nl]
      · simp only [semiI, szL, szI]; omega
    | true =>
      have hd' := hd3 rfl
      let p1 : PI := ⟨p.done, line, ws, true, p.count + 1, p.outer⟩
      have hlen : (pushI p1).outer.length = d + 1 := by
        show (p.outer ++ [_]).length = d + 1
        rw [List.length_append, ho]; rfl
      obtain ⟨line2, p2, h1, ⟨l', h2, h3⟩, h4, h5, h6⟩ := par_items kids (d + 1) (bl ++ [32, 32]) (bl ++ 125 :: 10 :: R) (line + 1) (pushI p1) hkids (fun b hb => by
        rcases List.mem_append.1 hb with hb | hb
        · exact hbl b hb
        · simp only [List.mem_cons, List.mem_nil_iff, or_false, or_self] at hb; exact hb) rfl hlen (by show p.count + 1 + szL kids ≤ 600; omega)
      have hout : p2.outer = p.outer ++ [⟨line, ws, p.done⟩] := h5
      have hla := last_app p.outer ⟨line, ws, p.done⟩
      have hpop : stepI p2 ⟨125, ByteArray.empty, line2, 0, 0⟩ = .ok (popI p2) := by
        unfold stepI
        simp only [h4, cond_false]
        rw [show (p2.outer.length == 0) = false by rw [hout, beq_eq_false_iff_ne, List.length_append]; simp]
        rfl
      refine ⟨line2 + 1, popI p2, ?_, ⟨[.mk line ws true l'], ?_, ?_⟩, rfl, ?_, ?_⟩
      · simp only [fI, cond_true, List.append_assoc, List.cons_append, List.nil_append]
        rw [par_blank _ _ _ bl hbl, par_head sep32 _ line ws hws p hb (by omega), par_sp]
        have hpush : stepI p1 ⟨123, ByteArray.empty, line, 0, 0⟩ = .ok (pushI p1) := by
          unfold stepI
          rw [show (p1.outer.length == 4) = false by rw [beq_eq_false_iff_ne]; show p.outer.length ≠ 4; omega]
          rfl
        rw [par_tok (p := p1) (lx_open _ line) rfl (show (123 : Int) ≠ 0 by decide) hpush, par_nl, h1, par_blank _ _ _ bl hbl, par_tok (lx_close _ line2) rfl (show (125 : Int) ≠ 0 by decide) hpop, par_nl]
      · show (lastI p2.outer).bef ++ [.mk (lastI p2.outer).line (lastI p2.outer).words true p2.done] = _
        rw [hout, hla.1, h2]; rfl
      · simp only [stL, stI, h3]
      · show initI p2.outer = p.outer
        rw [hout, hla.2]
      · show p2.count = _
        rw [h6]
        show p.count + 1 + (szL kids : Int) = _
        simp only [szL, szI]; omega
theorem par_items : ∀ (l : List It) (d : Nat) (bl R : List UInt8) (line : Int) (p : PI), goodL d l → (∀ b, b ∈ bl → b = 32) → p.begun = false → p.outer.length = d → p.count + szL l ≤ 600 →
    ∃ line' p', par (fL bl l ++ R) line p = par R line' p' ∧ Did p p' l
  | [], d, bl, R, line, p, hg, hbl, hb, ho, hn => ⟨line, p, rfl, ⟨[], by simp, rfl⟩, hb, rfl, by simp [szL]⟩
  | x :: l, d, bl, R, line, p, hg, hbl, hb, ho, hn => by
    simp only [goodL] at hg
    simp only [szL] at hn
    obtain ⟨l1, p1, h1, ⟨x', h2, h3⟩, h4, h5, h6⟩ := par_item x d bl (fL bl l ++ R) line p hg.1 hbl hb ho (by omega)
    simp only [szL] at h6
    obtain ⟨l2, p2, k1, ⟨l', k2, k3⟩, k4, k5, k6⟩ := par_items l d bl R l1 p1 hg.2 hbl h4 (by rw [h5]; exact ho) (by omega)
    refine ⟨l2, p2, ?_, ⟨x' ++ l', ?_, ?_⟩, k4, k5.trans h5, ?_⟩
    · simp only [fL, List.append_assoc]
      rw [h1, k1]
    · rw [k2, h2, List.append_assoc]
    · rw [stL_app, h3, k3]; rfl
    · rw [k6, h6]; simp only [szL]; omega
end
theorem round_trip {l : List It} (hg : goodL 0 l) (hn : szL l ≤ 600) (hz : (fL [] l).length ≤ 12000) : ∃ x, parseI (bs (fL [] l)) = .ok x ∧ stL x = stL l := by
  obtain ⟨line, q, h1, ⟨l', h2, h3⟩, h4, h5, _⟩ := par_items l 0 [] [] 1 p0 hg (by simp) rfl rfl (by show (0 : Int) + szL l ≤ 600; omega)
  rw [List.append_nil] at h1
  have hend : par [] line q = .ok q := by
    rw [par_eq, parX]
    show (bif q.begun then _ else bif q.outer.length == 0 then Except.ok q else _) = _
    rw [h4, h5]; rfl
  refine ⟨q.done, par_parse (s := bs (fL [] l)) hz (h1.trans hend), ?_⟩
  rw [h2]
  exact h3
mutual
theorem fI_st (bl : List UInt8) : ∀ x : It, fI bl (stI x) = fI bl x
  | .mk ln ws bk kids => by simp only [stI, fI, fL_st (bl ++ [32, 32]) kids]
theorem fL_st (bl : List UInt8) : ∀ l : List It, fL bl (stL l) = fL bl l
  | [] => rfl
  | a :: l => by simp only [stL, fL, fI_st bl a, fL_st bl l]
end
theorem good_errD {l : List It} (hg : goodL 0 l) (hn : szL l ≤ 600) : errD (encI l) = 0 := by
  unfold errD
  rw [itsOf_enc]
  have := chkL_good l 0 0 hg (by omega)
  rw [show ((0 : Nat) : Int) = 0 from rfl] at this
  rw [this]
theorem good_fmt {l : List It} (hg : goodL 0 l) (hn : szL l ≤ 600) : fmtD (encI l) = bs (fL [] l) := by
  unfold fmtD
  rw [good_errD hg hn, itsOf_enc]
  rfl
theorem can_s (s : ByteArray) : (callF XL 100 4 [vS s] []).run = some (vB true, []) := by
  rw [can_t]
  cases h1 : rEr (parseI s) != 0
  · obtain ⟨l, hl⟩ := parse_er (s := s) (by simpa using h1)
    obtain ⟨_, hg, hn, _⟩ := parse_ok hl
    have rl : rL (parseI s) = l := by rw [hl]; rfl
    rw [rl, okA_enc (good_OkA hg hn), good_errD hg hn, good_fmt hg hn]
    simp only [cond_false, cond_true, beq_self_eq_true]
    cases h2 : decide (((bs (fL [] l)).size : Int) > 12000)
    · rw [decide_eq_false_iff_not, bs_size] at h2
      obtain ⟨x, hx, hst⟩ := round_trip hg hn (by omega)
      obtain ⟨_, gx, nx, _⟩ := parse_ok hx
      have rx : rL (parseI (bs (fL [] l))) = x := by rw [hx]; rfl
      have re : rEr (parseI (bs (fL [] l))) = 0 := by rw [hx]; rfl
      have hf : fL [] x = fL [] l := by rw [← fL_st, hst, fL_st]
      rw [rx, re, okA_enc (good_OkA gx nx), itsOf_enc, itsOf_enc, sameL_st _ _ hst, good_fmt gx nx, hf, strEq_self]
      rfl
    · rfl
  · rcases parse_par s with ⟨e, he, _⟩ | ⟨_, q, hq, _⟩
    · rw [he]; rfl
    · rw [hq] at h1; simp [rEr] at h1
end Go.Proofs.Ytchgegcndcdleaa
