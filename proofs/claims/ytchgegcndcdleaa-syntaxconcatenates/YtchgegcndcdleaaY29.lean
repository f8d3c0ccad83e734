/- Parse, told. -/
import Derived.Test.YtchgegcndcdleaaY28
set_option linter.unusedVariables false
set_option linter.unusedSimpArgs false
set_option linter.unusedSectionVars false
namespace Go.Proofs.Ytchgegcndcdleaa
open Go Go.Sx
def p0 : PI := ⟨[], 0, [], false, 0, []⟩
theorem enc_p0 : encP p0 = s0 := rfl
abbrev PRes := Except (Int × Int) (List It)
def rErr : PRes → Bool
  | .error _ => true
  | .ok _ => false
def rEl : PRes → Int
  | .error e => e.1
  | .ok _ => 0
def rEr : PRes → Int
  | .error e => e.2
  | .ok _ => 0
def rL : PRes → List It
  | .error _ => []
  | .ok l => l
def runP (s : ByteArray) : PRes := parL (s.size + 1) (restB s 0) 1 p0
/-- What Parse answers. -/
def parseI (s : ByteArray) : PRes := bif decide ((s.size : Int) > 12000) then .error (0, 4) else runP s
def first0 (s : ByteArray) : Bool := (lxD s 0 1).1.err == 0 && (lxD s 0 1).1.kind == 0
def tE (x : Ex × St) : T (Ex × St) := .ret x
def resN (s : ByteArray) : T (Ex × St) :=
  .ite (first0 s) (.ret (.rt, ⟨nas 2 ++ [.c cNil, vI 0, vI 0] ++ nas 53, []⟩))
    (.ite (rErr (runP s)) (.ret (.rt, ⟨nas 2 ++ [.c cNil, vI (rEl (runP s)), vI (rEr (runP s))] ++ nas 53, []⟩)) (.ret (.rt, ⟨nas 2 ++ [.s (.as 0), vI 0, vI 0] ++ nas 53, [.arrD 4 (slRows (rL (runP s))) none]⟩)))
theorem first_run (s : ByteArray) (hs : s.size ≤ 12000) : (loopF B7p (s.size + 1) 7 0 4 (hdN s)).run = (resN s).run := by
  have hl := lxD_list s 0 1 (Nat.zero_le _)
  have key : loopO s0 (okL s 0 1) (lxD s 0 1).1 (fun p => (loopF B7p s.size 7 0 4 (hdP s ((lxD s 0 1).2.1 : Nat) (lxD s 0 1).2.2 p)).run) = outP (runP s) := by
    have := loop_step s hs s.size 0 1 p0 (Nat.zero_le _) (by omega) (by omega) ⟨Nat.zero_le _, Nat.zero_le _, fun l hl => (by cases hl), Nat.zero_le _, Int.le_refl _, by decide⟩
      (fun p => (loopF B7p s.size 7 0 4 (hdP s ((lxD s 0 1).2.1 : Nat) (lxD s 0 1).2.2 p)).run) fun p' hst he hk => by
        have hlt := hl.2.2.2.1 he hk
        refine par_run s hs _ _ _ p' (by omega) hl.2.1 (by have := hl.2.2.2.2.1; omega) (by have := hl.2.2.2.2.2; have := hl.2.1; omega) (InvP.step (a := 0) ?_ hlt hst)
        exact ⟨Nat.zero_le _, Nat.zero_le _, fun l hl => (by cases hl), Nat.zero_le _, Int.le_refl _, by decide⟩
    exact this
  rw [par_0]
  unfold resN first0
  unfold loopO at key
  have hok : okL s 0 1 = true := okL_true (a := 0) (line := 1) hs (Nat.zero_le _) (by omega) (by omega)
  rw [hok] at key ⊢
  simp only [cond_true, T.run] at key ⊢
  cases he : (lxD s 0 1).1.err == 0
  · rw [he] at key
    simp only [Bool.not_false, cond_true, Bool.false_and, cond_false] at key ⊢
    rw [key]
    cases runP s <;> rfl
  · rw [he] at key
    simp only [Bool.not_true, cond_false, Bool.true_and] at key ⊢
    cases hk : (lxD s 0 1).1.kind == 0
    · rw [hk] at key
      simp only [cond_false] at key ⊢
      rw [key]
      cases runP s <;> rfl
    · rfl
abbrev hdNs (s : ByteArray) : St := hdN s
def strH : Mem → ByteArray
  | .cells (.s (.d (.c (.string s))) :: _) _ :: _ => s
  | _ => ByteArray.empty
noncomputable def L7 : Ctx := { B7p with lp := addLp B7p.lp 7 4 0 (lpOf hdNs (fun s => s.size ≤ 12000) fun st => resN (strH st.mem)) }
theorem goodL7 : Sx.Good Try.prog L7 := goodB7p.loop1 7 4 0 _ _ _ (by kernel_rfl) fun s hs => ⟨s.size + 1, first_run s hs⟩
theorem parse_f (s : ByteArray) : (callF L7 100 7 [vS s] []).run = bif decide ((s.size : Int) > 12000) then some (.tup [.c cNil, .c (cI 0), .c (cI 4)], []) else bif isHd hdNs (fun s => s.size ≤ 12000) (hdNs s) then
    bif first0 s then some (.tup [.c cNil, .c (cI 0), .c (cI 0)], []) else bif rErr (runP s) then some (.tup [.c cNil, .c (cI (rEl (runP s))), .c (cI (rEr (runP s)))], [])
    else some (.tup [.c (.s (.as 0)), .c (cI 0), .c (cI 0)], [.arrD 4 (slRows (rL (runP s))) none]) else none := by kernel_rfl
/-! ### Rows as statements -/
theorem DLe.nil (sz : Nat) (row : Nat → List D) : DLe cNilD (.fs sz 0 row) := by
  intro F w M v hd
  cases hd with
  | c => exact .fs0 ..
theorem DLe.sl {sz : Nat} {rows : List (List D)} {n : Nat} {row : Nat → List D} (hn : rows.length = n) (h : ∀ i, i < n → All2 DLe (rows.getD i []) (row i)) : DLe (.sl sz rows) (.fs sz n row) := by
  intro F w M v hd
  subst hn
  cases hd with
  | sl0 => exact .fs0 ..
  | sl _ _ _ cap b o vs hn hcap hz hc hm hdr =>
    subst hn
    refine .fs sz rows.length row cap b o vs hcap (fun i hi => ?_) hc hm fun i k x hi hx => ?_
    · have := (h i hi).length
      rw [← this, List.getD_eq_getElem?_getD, List.getElem?_eq_getElem hi]
      exact hz _ (List.getElem_mem hi)
    · have h1 := h i hi
      rw [List.getD_eq_getElem?_getD, List.getElem?_eq_getElem hi] at h1
      obtain ⟨hk, hx'⟩ := List.getElem?_eq_some_iff.1 hx
      have hk' : k < rows[i].length := by
        have := h1.length
        simp only [Option.getD_some] at this
        omega
      obtain ⟨y, h2, h3⟩ := h1.get k (List.getElem?_eq_getElem hk')
      rw [hx] at h2; injection h2 with h2; subst h2
      exact h3 F w M _ (hdr i k _ _ (List.getElem?_eq_getElem hi) (List.getElem?_eq_getElem hk'))
theorem words_sl (ws : List Wd) : DLe (.sl 2 (ws.map wdRow)) (encW ws) := by
  unfold encW
  refine DLe.sl (List.length_map ..) fun i hi => ?_
  rw [List.getD_eq_getElem?_getD, List.getElem?_map, List.getElem?_eq_getElem hi]
  simp only [Option.map_some, Option.getD_some, wdRow, wRow, wAt, List.getD_eq_getElem?_getD, List.getElem?_eq_getElem hi]
  exact all2_refl DLe.refl _
theorem slRows_at : ∀ (l : List It) (i : Nat), i < l.length → (slRows l).getD i [] = slRow (iAt l i)
  | [], i, h => by simp at h
  | a :: l, 0, _ => by simp [slRows, iAt]
  | a :: l, i + 1, h => by
    have := slRows_at l i (by simpa using h)
    simp only [slRows, List.getD_cons_succ, this, iAt]
mutual
theorem row_sl : ∀ (x : It) (d : Nat), goodI d x → All2 DLe (slRow x) (rowK x)
  | .mk line ws bk kids, d, h => by
    simp only [goodI] at h
    simp only [slRow, rowK, iRow]
    refine .cons (DLe.refl _) (.cons (words_sl ws) (.cons (DLe.refl _) (.cons ?_ .nil)))
    cases bk
    · rw [h.2.2.1 rfl]
      exact DLe.nil _ _
    · exact rows_sl kids (d + 1) h.2.2.2.2
theorem rows_sl : ∀ (l : List It) (d : Nat), goodL d l → DLe (.sl 4 (slRows l)) (.fs 4 l.length fun i => rowL l i)
  | l, d, h => by
    refine DLe.sl (slRows_len l) fun i hi => ?_
    exact rows_at l d h i hi
theorem rows_at : ∀ (l : List It) (d : Nat), goodL d l → ∀ i, i < l.length → All2 DLe ((slRows l).getD i []) (rowL l i)
  | [], d, h, i, hi => by simp at hi
  | a :: l, d, h, 0, _ => by
    simp only [goodL] at h
    simp only [slRows, List.getD_cons_zero, rowL]
    exact row_sl a d h.1
  | a :: l, d, h, i + 1, hi => by
    simp only [goodL] at h
    simp only [slRows, List.getD_cons_succ, rowL]
    exact rows_at l d h.2 i (by simpa using hi)
end
theorem enc_sl {l : List It} {d : Nat} (h : goodL d l) : DLe (.sl 4 (slRows l)) (encI l) := rows_sl l d h
theorem runP_good {s : ByteArray} (hs : s.size ≤ 12000) {l : List It} (h : runP s = .ok l) : goodL 0 l ∧ szL l ≤ 600 :=
  par_good _ _ _ p0 _ ⟨trivial, trivial, Nat.zero_le _, fun h => (by cases h), fun _ => rfl, rfl, by decide⟩ (by omega) (by rw [restB_len]; omega) h
def parA (s : ByteArray) : AV := .tup [.c (.s (.d (encI (rL (parseI s))))), .c (cI (rEl (parseI s))), .c (cI (rEr (parseI s)))]
def f7 : Says
  | [.c (.s (.d (.c (.string s))))] => some (.ret (parA s, []))
  | _ => none
theorem tr_int (n m : Int) : ∀ (F : Fr) (w : World) (ρ : Locs) (M M' : Mut) (x : TV) (v : Value), x ∈ [TV.c (cI n), TV.c (cI m)] → @TR F w ρ M x v → @TR F w (fun _ => none) M' x v := by
  intro F w ρ M M' x v hx h
  simp only [List.mem_cons, List.mem_nil_iff, or_false] at hx
  rcases hx with rfl | rfl
  · have h : @DR F w M (.c (.int .i64 n)) v := h
    cases h; exact DR.c _
  · have h : @DR F w M (.c (.int .i64 m)) v := h
    cases h; exact DR.c _
theorem tup_le {x y : D} {rest : List TV} (h : DLe x y) (F : Fr) (w : World) (ρ : Locs) (M : Mut) (v : Value) (ha : @AR F w ρ M (.tup (.c (.s (.d x)) :: rest)) v) : @AR F w ρ M (.tup (.c (.s (.d y)) :: rest)) v := by
  obtain ⟨vs, rfl, hv⟩ := ha
  refine ⟨vs, rfl, ?_⟩
  generalize vs.toList = l at hv
  cases hv with
  | cons hx hr => exact .cons (h F w M _ hx) hr
noncomputable def G7 : Ctx := { B7p with mprim := addPr B7p.mprim 7 f7 }
theorem parse_told (s : ByteArray) : CallSome Try.prog B7p 7 [vS s] [] (parA s) [] := by
  have call : ∀ r m, (callF L7 100 7 [vS s] []).run = some (r, m) → CallSome Try.prog B7p 7 [vS s] [] r m := fun r m h => by
    rw [callF_eq] at h
    exact CallSome.glob_eq (X := L7) (X' := B7p) rfl (goodL7.call h)
  have hp := parse_f s
  unfold parA parseI
  by_cases hs : (s.size : Int) > 12000
  · rw [decide_eq_true hs] at hp ⊢
    exact (call _ _ hp).wk (WkR.ret fun F w ρ M v h => tup_le (DLe.nil 4 _) F w ρ M v h)
  · have hs' : s.size ≤ 12000 := by omega
    rw [decide_eq_false hs, isHd_true (hd := hdNs) (pre := fun s => s.size ≤ 12000) (a := s) hs'] at hp
    rw [decide_eq_false hs]
    simp only [cond_false, cond_true] at hp ⊢
    cases hf : first0 s
    · rw [hf] at hp
      cases hr : runP s with
      | error e =>
        rw [hr] at hp
        exact (call _ _ hp).wk (WkR.ret fun F w ρ M v h => tup_le (DLe.nil 4 _) F w ρ M v h)
      | ok l =>
        rw [hr] at hp
        have hgood := runP_good hs' hr
        exact ((call _ _ hp).wk (WkR.sealD (tr_int 0 0))).wk (WkR.ret fun F w ρ M v h => tup_le (enc_sl hgood.1) F w ρ M v h)
    · rw [hf] at hp
      have e : runP s = .ok [] := by
        unfold first0 at hf
        rw [Bool.and_eq_true] at hf
        have hl := (lxD_list s 0 1 (Nat.zero_le _)).1
        unfold runP
        rw [parL, show (lx1 (restB s 0) 1).1 = (lxD s 0 1).1 by rw [hl], hf.1, hf.2]
        rfl
      rw [e]
      exact (call _ _ hp).wk (WkR.ret fun F w ρ M v h => tup_le (DLe.nil 4 _) F w ρ M v h)
theorem goodG7 : Sx.Good Try.prog G7 := goodB7p.prim1 7 f7 fun args t r m h ht => by
  unfold f7 at h
  split at h
  · rename_i s
    injection h with h; subst h
    injection ht with ht; injection ht with h1 h2; subst h1; subst h2
    exact parse_told s
  · cases h
end Go.Proofs.Ytchgegcndcdleaa
