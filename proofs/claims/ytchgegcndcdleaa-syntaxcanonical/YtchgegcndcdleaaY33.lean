/- The law SyntaxConcatenates. -/
import Derived.Test.YtchgegcndcdleaaY32
set_option linter.unusedVariables false
set_option linter.unusedSimpArgs false
set_option linter.unusedSectionVars false
namespace Go.Proofs.Ytchgegcndcdleaa
open Go Go.Sx
theorem inv_p0 : InvV p0 := ⟨trivial, trivial, Nat.zero_le _, fun h => (by cases h), fun _ => rfl, rfl, by decide⟩
theorem par_inv (L : List UInt8) (line : Int) (p : PI) : ∀ q, InvV p → 0 ≤ line → line + L.length ≤ 20000 → par L line p = .ok q → InvV q := by
  refine par_induct (motive := fun L line p => ∀ q, InvV p → 0 ≤ line → line + L.length ≤ 20000 → par L line p = .ok q → InvV q) (fun L line p ih q hp h0 h1 h => ?_) (L.length + 1) L line p (by omega)
  have hln := lx_line (L.length + 1) L line
  have hln' : line ≤ (lx1 L line).2.2 ∧ (lx1 L line).2.2 + (lx1 L line).2.1.length ≤ line + L.length := hln
  rw [par_eq, parX] at h
  cases he : (lx1 L line).1.err == 0 <;> rw [he] at h
  · cases h
  · have he' : (lx1 L line).1.err = 0 := by simpa using he
    have ht : tokOk (lx1 L line).1 ∧ (lx1 L line).1.tl = (lx1 L line).2.2 := lx_tok _ L line he'
    cases hk : (lx1 L line).1.kind == 0 <;> rw [hk] at h
    · simp only [Bool.not_true, cond_false] at h
      cases hst : stepI p (lx1 L line).1 with
      | error e => rw [hst] at h; cases h
      | ok p' =>
        rw [hst] at h
        have hk' : (lx1 L line).1.kind ≠ 0 := by simpa using hk
        exact ih p' hst he' hk' q (hp.step ht.1 hk' ⟨by rw [ht.2]; omega, by rw [ht.2]; omega⟩ hst) (by omega) (by omega) h
    · simp only [Bool.not_true, cond_false, cond_true] at h
      cases hb : p.begun <;> rw [hb] at h
      · cases ho : p.outer.length == 0 <;> rw [ho] at h
        · cases h
        · injection h with h; subst h; exact hp
      · cases h
/-! ### Sizes -/
theorem wE_size {w : Wd} (h : wE w.text w.quoted = 0) : w.text.size ≤ 120 := by
  unfold wE at h
  cases h1 : decide ((w.text.size : Int) > 120) <;> rw [h1] at h
  · rw [decide_eq_false_iff_not] at h1; omega
  · simp at h
mutual
theorem fit_goodI : ∀ (x : It) (d : Nat), goodI d x → szI x ≤ 600 → fitI x
  | .mk line ws bk kids, d, h, hs => by
    simp only [goodI, szI] at h hs
    simp only [fitI]
    obtain ⟨_, ⟨_, _, h3, h4⟩, _, h6, h7⟩ := h
    have hk := fit_goodL kids (d + 1) h7 (by omega)
    refine ⟨?_, ⟨by omega, fun w hw => by have := wE_size (h4 w hw); omega⟩, by have := hk.1; omega, hk.2⟩
    unfold okLn at h6
    have e1 : IntKind.i64.min = -9223372036854775808 := by decide
    have e2 : IntKind.i64.max = 9223372036854775807 := by decide
    simp only [Lit.wf, Bool.and_eq_true, decide_eq_true_eq, e1, e2]
    omega
theorem fit_goodL : ∀ (l : List It) (d : Nat), goodL d l → szL l ≤ 600 → l.length ≤ 600 ∧ fitL l
  | [], d, _, _ => ⟨by simp, trivial⟩
  | a :: l, d, h, hs => by
    simp only [goodL, szL] at h hs
    have ha : 1 ≤ szI a := by cases a; simp only [szI]; omega
    have h1 := fit_goodI a d h.1 (by omega)
    have h2 := fit_goodL l d h.2 (by omega)
    refine ⟨?_, h1, h2.2⟩
    have := len_sz l
    have := len_sz (a :: l)
    simp only [szL] at this
    omega
theorem len_sz : ∀ l : List It, l.length ≤ szL l
  | [] => Nat.le_refl _
  | a :: l => by
    have := len_sz l
    have ha : 1 ≤ szI a := by cases a; simp only [szI]; omega
    simp only [szL, List.length_cons]; omega
end
theorem good_OkA {l : List It} {d : Nat} (h : goodL d l) (hs : szL l ≤ 600) : OkA l := by
  have := fit_goodL l d h hs
  exact ⟨by have := this.1; omega, this.2⟩
theorem szI_kids (x : It) : szI x = szL x.kids + 1 := by cases x; simp only [szI, It.kids]
mutual
theorem cnt_szI : ∀ x : It, szI x ≤ 600 → cnt x = (szL x.kids : Int)
  | .mk line ws bk kids, h => by
    simp only [szI] at h
    simp only [cnt, It.kids]
    have := cnt_szL kids kids.length (by omega)
    rw [this (by have := len_sz kids; omega)]
    omega
theorem cnt_szL : ∀ (l : List It) (n : Nat), szL l ≤ 600 → n + szL l ≤ 100000 → cntG l n = (n : Int) + ((szL l : Int) - (l.length : Int))
  | [], n, _, _ => by simp only [cntG, szL, List.length_nil]; omega
  | a :: l, n, h, hn => by
    simp only [szL] at h
    have hk := szI_kids a
    have h1 := cnt_szI a (by omega)
    simp only [cntG, h1, szL, List.length_cons]
    rw [wrap_id (by omega) (by omega)]
    have e : ((n : Int) + (szL a.kids : Int)) = ((n + szL a.kids : Nat) : Int) := by omega
    simp only [szL] at hn
    rw [e, cnt_szL l (n + szL a.kids) (by omega) (by omega)]
    omega
end
theorem count_sz {l : List It} (h : szL l ≤ 600) : countD (encI l) = (szL l : Int) := by
  unfold countD countI
  rw [itsOf_enc]
  have := len_sz l
  rw [cnt_szL l l.length h (by omega)]
  omega
theorem rowsE_solid (l : List It) : ((rowsE l).all fun r => solid (r.map C.d)) = true := by
  rw [List.all_eq_true]
  intro r hr
  obtain ⟨i, hi, rfl⟩ := List.mem_map.1 hr
  rw [List.mem_range] at hi
  rw [rowL_at l i hi, rowK_eq]
  rfl
theorem rowsE_app (a b : List It) : rowsE (a ++ b) = rowsE a ++ rowsE b := by
  refine List.ext_getElem? fun i => ?_
  have hl : ∀ l : List It, (rowsE l).length = l.length := fun l => by simp [rowsE]
  have get : ∀ (l : List It) (i : Nat), i < l.length → (rowsE l)[i]? = some (rowK (iAt l i)) := fun l i hi => by
    simp only [rowsE, List.getElem?_map, List.getElem?_range hi, Option.map_some, rowL_at l i hi]
  by_cases h1 : i < a.length
  · rw [List.getElem?_append_left (by rw [hl]; exact h1), get a i h1, get _ i (by rw [List.length_append]; omega)]
    simp [iAt, List.getD_eq_getElem?_getD, List.getElem?_append_left h1]
  · by_cases h2 : i < a.length + b.length
    · rw [List.getElem?_append_right (by rw [hl]; omega), hl, get b _ (by omega), get _ i (by rw [List.length_append]; omega)]
      simp [iAt, List.getD_eq_getElem?_getD, List.getElem?_append_right (show a.length ≤ i by omega)]
    · rw [List.getElem?_eq_none (by rw [hl, List.length_append]; omega), List.getElem?_eq_none (by rw [List.length_append, hl, hl]; omega)]
/-- What is parsed. -/
theorem parse_ok {s : ByteArray} {l : List It} (h : parseI s = .ok l) : s.size ≤ 12000 ∧ goodL 0 l ∧ szL l ≤ 600 ∧ ∃ q, q.done = l ∧ par s.data.toList 1 p0 = .ok q ∧ q.begun = false ∧ q.outer = [] ∧ q.count = (szL l : Int) ∧ InvV q := by
  rcases parse_par s with ⟨e, h1, _⟩ | ⟨hs, q, h1, h2, h3, h4⟩
  · rw [h] at h1; cases h1
  · rw [h] at h1
    injection h1 with h1
    have hi := par_inv _ _ _ q inv_p0 (by omega) (by have : s.data.toList.length = s.size := rfl; omega) h2
    have hc := hi.cnt
    have hc1 := hi.c1
    rw [h3, h4] at hc
    simp only [szO, Bool.false_eq_true, if_false] at hc
    have hg := hi.done
    rw [h4] at hg
    rw [h1]
    exact ⟨hs, hg, by omega, q, rfl, h2, h3, h4, by omega, hi⟩
theorem parse_er {s : ByteArray} (h : rEr (parseI s) = 0) : ∃ l, parseI s = .ok l := by
  rcases parse_par s with ⟨e, h1, h2⟩ | ⟨_, q, h1, _⟩
  · rw [h1] at h; exact absurd h h2
  · exact ⟨_, h1⟩
theorem cat_list (s t : ByteArray) : (catS s t).data.toList = s.data.toList ++ 10 :: t.data.toList := by
  unfold catS bs
  rw [ByteArray.data_append, ByteArray.data_append]
  simp
theorem con_plain {s t : ByteArray} {a b : List It} (ha : parseI s = .ok a) (hb : parseI t = .ok b) (hz : s.size + t.size + 1 ≤ 12000) (hn : szL a + szL b ≤ 600) :
    ∃ x, parseI (catS s t) = .ok x ∧ sameL x (a ++ b) = true := by
  obtain ⟨_, _, _, q1, rfl, p1, b1, o1, c1, i1⟩ := parse_ok ha
  obtain ⟨_, _, _, q2, rfl, p2, b2, o2, c2, i2⟩ := parse_ok hb
  obtain ⟨k, hk⟩ := par_cat t.data.toList s.data.toList 1 p0 q1 p1
  have h1 := par_pre q1.done q1.count t.data.toList 1 p0 q2 p2 (by omega)
  have hst : stP (preD q1.done q1.count p0) = stP q1 := by
    rw [pre_nil _ _ _ rfl]
    simp only [stP, p0, List.append_nil, o1, b1, Int.zero_add, List.map_nil, cond_false]
  obtain ⟨q3, h2, h3⟩ := par_st t.data.toList 1 _ k q1 _ hst h1
  rw [pre_nil _ _ _ o2] at h3
  simp only [stP, PI.mk.injEq] at h3
  refine ⟨q3.done, par_parse ?_ ?_, sameL_st _ _ h3.1.symm⟩
  · have : (catS s t).size = (s.data.toList ++ 10 :: t.data.toList).length := by rw [← cat_list]; rfl
    rw [this, List.length_append, List.length_cons]
    have e1 : s.data.toList.length = s.size := rfl
    have e2 : t.data.toList.length = t.size := rfl
    omega
  · rw [cat_list, hk, h2]
theorem con_s (s t : ByteArray) (hs : s.size ≤ 9223372036854775807) (ht : t.size ≤ 9223372036854775807) : (callF XL 100 3 [vS s, vS t] []).run = some (vB true, []) := by
  rw [con_t]
  cases h1 : rEr (parseI s) != 0
  · cases h2 : rEr (parseI t) != 0
    · obtain ⟨a, ha⟩ := parse_er (s := s) (by simpa using h1)
      obtain ⟨b, hb⟩ := parse_er (s := t) (by simpa using h2)
      obtain ⟨za, ga, na, _⟩ := parse_ok ha
      obtain ⟨zb, gb, nb, _⟩ := parse_ok hb
      have hadd : IntKind.i64.wrap (IntKind.i64.wrap ((s.size : Int) + (t.size : Int)) + 1) = (s.size : Int) + t.size + 1 := by
        rw [wrap_id (n := (s.size : Int) + t.size) (by omega) (by omega), wrap_id (by omega) (by omega)]
      have ra : rL (parseI s) = a := by rw [ha]; rfl
      have rb : rL (parseI t) = b := by rw [hb]; rfl
      rw [hadd, ra, rb]
      simp only [cond_false]
      have oa := good_OkA ga na
      have ob := good_OkA gb nb
      rw [okA_enc oa, okA_enc ob, count_sz na, count_sz nb, wrap_id (by omega) (by omega)]
      simp only [cond_true]
      cases h3 : decide ((s.size : Int) + t.size + 1 > 12000)
      · cases h4 : decide ((szL a : Int) + (szL b : Int) > 600)
        · rw [decide_eq_false_iff_not] at h3 h4
          obtain ⟨x, hx, hsame⟩ := con_plain ha hb (by omega) (by omega)
          obtain ⟨_, gx, nx, _⟩ := parse_ok hx
          have e1 : decide (s.size + 1 ≤ 9223372036854775807) = true := by rw [decide_eq_true_eq]; omega
          have hz : (s ++ bs [10]).size = s.size + 1 := by rw [ByteArray.size_append]; rfl
          have e2 : decide ((s ++ bs [10]).size + t.size ≤ 9223372036854775807) = true := by rw [decide_eq_true_eq, hz]; omega
          have la : (rowsE a).length = a.length := by simp [rowsE]
          have lb : (rowsE b).length = b.length := by simp [rowsE]
          have la' := len_sz a
          have lb' := len_sz b
          have e3 : decide ((0 + (rowsE a).length) * 65 ≤ 70368744177664) = true := by rw [decide_eq_true_eq, la]; omega
          have e4 : decide ((([] ++ rowsE a).length + (rowsE b).length) * 65 ≤ 70368744177664) = true := by rw [decide_eq_true_eq, List.nil_append, la, lb]; omega
          have gab : goodL 0 (a ++ b) := (goodL_app 0 a b).2 ⟨ga, gb⟩
          have oab : OkA (a ++ b) := good_OkA gab (by rw [szL_app]; omega)
          have e5 : [] ++ rowsE a ++ rowsE b = rowsE (a ++ b) := by rw [List.nil_append, rowsE_app]
          have rx : rL (parseI (catS s t)) = x := by rw [hx]; rfl
          have re : rEr (parseI (catS s t)) = 0 := by rw [hx]; rfl
          rw [e1, e2, e3, e4, e5, rx, re, rowsE_solid, rowsE_solid, okE_rows oab, okA_enc (good_OkA gx nx), itsOf_enc, itsE_rows, hsame]
          rfl
        · rfl
      · rfl
    · rfl
  · rfl
end Go.Proofs.Ytchgegcndcdleaa
