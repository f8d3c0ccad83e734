/- Statements of the configuration language as data, and what counts them and compares them. -/
import Derived.Test.YtchgegcndcdleaaSxc
import Derived.Test.YtchgegcndcdleaaProg
import Derived.KernelRfl
set_option linter.unusedVariables false
set_option linter.unusedSimpArgs false
set_option linter.unusedSectionVars false
namespace Go.Proofs.Ytchgegcndcdleaa
open Go Go.Sx
noncomputable def XS : Ctx := X0 Try.prog [0, 25, 46, 61, 67] [13, 14, 18, 19, 59, 60, 89, 90, 92, 93, 101, 102]
theorem goodS : Sx.Good Try.prog XS := start_good (by kernel_rfl) (by kernel_rfl) (by kernel_rfl)
/-- What a loop's head keeps, and what is kept behind a told loop. -/
def kp (f : FuncId) (k : Nat) : Option (List Nat) :=
  if f = 8 then (if k = 3 then some [3, 8, 9, 10] else if k = 3000003 then some [3] else none)
  else if f = 15 then (if k = 3 then some [0, 3, 4] else if k = 3000003 then some [3] else none)
  else if f = 21 then (if k = 4 then some [0, 1, 11, 12, 13] else if k = 3000004 then some [4] else none)
  else if f = 19 then (if k = 4 then some [0, 1, 2, 15, 16, 17] else if k = 3000004 then some [6] else none)
  else if f = 16 then (if k = 4 then some [0, 1, 5] else if k = 3000004 then some [4] else if k = 9 then some [0, 1, 5, 6] else if k = 3000009 then some [0, 1, 4, 5] else none)
  else if f = 39 then (if k = 2 then some [0, 6] else if k = 3000002 then some [0, 2] else none)
  else if f = 51 then (if k = 2 then some [0, 3] else if k = 3000002 then some [0, 2] else none)
  else if f = 12 then (if k = 2 then some [0, 1, 5] else if k = 3000002 then some [4] else none)
  else none
noncomputable def XB : Ctx := { XS with keep := kp }
theorem goodB : Sx.Good Try.prog XB := goodS.keep kp
structure Wd where
  text : ByteArray
  quoted : Bool
inductive It where
  | mk (line : Int) (words : List Wd) (block : Bool) (kids : List It)
def It.line : It → Int
  | .mk a _ _ _ => a
def It.words : It → List Wd
  | .mk _ a _ _ => a
def It.block : It → Bool
  | .mk _ _ a _ => a
def It.kids : It → List It
  | .mk _ _ _ a => a
theorem It.eta (x : It) : x = .mk x.line x.words x.block x.kids := by cases x; rfl
def dWd : Wd := ⟨ByteArray.empty, false⟩
def dIt : It := .mk 0 [] false []
def wAt (l : List Wd) (i : Nat) : Wd := l.getD i dWd
def iAt (l : List It) (i : Nat) : It := l.getD i dIt
def encW (l : List Wd) : D := .fs 2 l.length fun i => [.c (.string (wAt l i).text), .c (.bool (wAt l i).quoted)]
mutual
def rowK : It → List D
  | .mk line words block kids => [.c (.int .i64 line), encW words, .c (.bool block), .fs 4 kids.length fun i => rowL kids i]
def rowL : List It → Nat → List D
  | [], _ => [.c (.int .i64 0), encW [], .c (.bool false), .fs 4 0 fun _ => []]
  | a :: _, 0 => rowK a
  | _ :: l, i + 1 => rowL l i
end
/-- Statements. -/
def encI (l : List It) : D := .fs 4 l.length fun i => rowL l i
/-- The same, their form open. -/
def opnI (l : List It) : D := .fs 4 l.length fun i => [.c (.int .i64 (iAt l i).line), encW (iAt l i).words, .c (.bool (iAt l i).block), .fs 4 (iAt l i).kids.length fun j => rowL (iAt l i).kids j]
theorem rowL_at : ∀ (l : List It) (i : Nat), i < l.length → rowL l i = rowK (iAt l i)
  | [], i, h => by simp at h
  | a :: l, 0, _ => by simp [rowL, iAt]
  | a :: l, i + 1, h => by
    have := rowL_at l i (by simpa using h)
    simp only [rowL, this, iAt, List.getD_cons_succ]
theorem rowK_eq (x : It) : rowK x = [.c (.int .i64 x.line), encW x.words, .c (.bool x.block), .fs 4 x.kids.length fun j => rowL x.kids j] := by
  cases x; simp only [rowK, It.line, It.words, It.block, It.kids]
/-- A datum stands for what another one stands for. -/
def DLe (x y : D) : Prop := ∀ (F : Fr) (w : World) (M : Mut) (v : Value), @DR F w M x v → @DR F w M y v
theorem DLe.refl (x : D) : DLe x x := fun _ _ _ _ h => h
theorem DLe.trans {x y z : D} (h : DLe x y) (k : DLe y z) : DLe x z := fun F w M v d => k F w M v (h F w M v d)
theorem DLe.fs {sz n : Nat} {row row' : Nat → List D} (h : ∀ i, i < n → All2 DLe (row i) (row' i)) : DLe (.fs sz n row) (.fs sz n row') := by
  intro F w M v hd
  cases hd with
  | fs0 => exact .fs0 ..
  | fs _ _ _ cap b o vs hcap hz hc hm hdr =>
    refine .fs sz n row' cap b o vs hcap (fun i hi => by rw [← (h i hi).length]; exact hz i hi) hc hm fun i k x hi hx => ?_
    obtain ⟨hk, hx'⟩ := List.getElem?_eq_some_iff.1 hx
    have hk' : k < (row i).length := by rw [(h i hi).length]; exact hk
    obtain ⟨y, h1, h2⟩ := (h i hi).get k (List.getElem?_eq_getElem hk')
    rw [hx] at h1; injection h1 with h1; subst h1
    exact h2 F w M _ (hdr i k _ hi (List.getElem?_eq_getElem hk'))
theorem all2_refl {α : Type} {R : α → α → Prop} (h : ∀ a, R a a) : ∀ l : List α, All2 R l l
  | [] => .nil
  | a :: l => .cons (h a) (all2_refl h l)
theorem enc_opn (l : List It) : DLe (encI l) (opnI l) := DLe.fs fun i hi => by
  rw [rowL_at l i hi, rowK_eq]
  exact all2_refl DLe.refl _
theorem opn_enc (l : List It) : DLe (opnI l) (encI l) := DLe.fs fun i hi => by
  rw [rowL_at l i hi, rowK_eq]
  exact all2_refl DLe.refl _
/-! ### One datum, one list -/
theorem encW_inj {l m : List Wd} (h : encW l = encW m) : l = m := by
  simp only [encW, D.fs.injEq, true_and] at h
  obtain ⟨h1, h2⟩ := h
  refine List.ext_getElem h1 fun i hi hj => ?_
  have h3 := congrFun h2 i
  simp only [List.cons.injEq, D.c.injEq, Value.string.injEq, Value.bool.injEq, and_true] at h3
  have e1 : wAt l i = l[i] := by simp [wAt, List.getD_eq_getElem?_getD, hi]
  have e2 : wAt m i = m[i] := by simp [wAt, List.getD_eq_getElem?_getD, hj]
  rw [e1, e2] at h3
  cases ha : l[i]; cases hb : m[i]
  rw [ha, hb] at h3
  simp only at h3
  rw [h3.1, h3.2]
mutual
theorem rowK_inj : ∀ (x y : It), rowK x = rowK y → x = y
  | .mk a b c d, y, h => by
    cases y with
    | mk a' b' c' d' =>
      simp only [rowK, List.cons.injEq, D.c.injEq, Value.int.injEq, Value.bool.injEq, D.fs.injEq, true_and, and_true] at h
      obtain ⟨h1, h2, h3, h4, h5⟩ := h
      have := rowL_inj d d' h4 fun i => congrFun h5 i
      rw [h1, encW_inj h2, h3, this]
theorem rowL_inj : ∀ (l m : List It), l.length = m.length → (∀ i, rowL l i = rowL m i) → l = m
  | [], m, h, _ => by
    cases m with
    | nil => rfl
    | cons => simp at h
  | a :: l, m, h, hr => by
    cases m with
    | nil => simp at h
    | cons b m =>
      have h1 := rowK_inj a b (hr 0)
      have h2 := rowL_inj l m (by simpa using h) fun i => hr (i + 1)
      rw [h1, h2]
end
theorem encI_inj {l m : List It} (h : encI l = encI m) : l = m := by
  simp only [encI, D.fs.injEq, true_and] at h
  exact rowL_inj l m h.1 fun i => congrFun h.2 i
/-! ### A told function over data -/
noncomputable def isI (x : D) : Bool := @decide (∃ l, x = encI l) (Classical.propDecidable _)
open Classical in
noncomputable def itsOf (x : D) : List It := if h : ∃ l, x = encI l then h.choose else []
theorem isI_enc (l : List It) : isI (encI l) = true := by
  simp only [isI, decide_eq_true_eq]
  exact ⟨l, rfl⟩
theorem itsOf_enc (l : List It) : itsOf (encI l) = l := by
  have h : ∃ m, encI l = encI m := ⟨l, rfl⟩
  unfold itsOf
  rw [dif_pos h]
  exact (encI_inj h.choose_spec).symm
theorem isI_some {x : D} (h : isI x = true) : ∃ l, x = encI l := by simpa only [isI, decide_eq_true_eq] using h
mutual
def depth : It → Nat
  | .mk _ _ _ kids => depthL kids + 1
def depthL : List It → Nat
  | [] => 0
  | a :: l => max (depth a) (depthL l)
end
theorem depth_at : ∀ (l : List It) (i : Nat), i < l.length → depthL (iAt l i).kids < depthL l
  | [], i, h => by simp at h
  | a :: l, 0, _ => by
    have : depth a = depthL a.kids + 1 := by cases a; simp [depth, It.kids]
    simp only [iAt, List.getD_cons_zero, depthL]
    omega
  | a :: l, i + 1, h => by
    have := depth_at l i (by simpa using h)
    simp only [iAt, List.getD_cons_succ, depthL] at this ⊢
    omega
theorem le_one {x y : D} (h : DLe x y) : ∀ (F : Fr) (w : World) (ρ : Locs) (M : Mut) (vs : List Value), All2 (@AR F w ρ M) [.s (.d x)] vs → All2 (@AR F w ρ M) [.s (.d y)] vs := by
  intro F w ρ M vs ha
  cases ha with
  | cons h1 h2 => cases h2; exact .cons (h F w M _ h1) .nil
theorem le_two {x y x' y' : D} (h : DLe x y) (h' : DLe x' y') : ∀ (F : Fr) (w : World) (ρ : Locs) (M : Mut) (vs : List Value), All2 (@AR F w ρ M) [.s (.d x), .s (.d x')] vs → All2 (@AR F w ρ M) [.s (.d y), .s (.d y')] vs := by
  intro F w ρ M vs ha
  cases ha with
  | cons h1 h2 => cases h2 with
    | cons h3 h4 => cases h4; exact .cons (h F w M _ h1) (.cons (h' F w M _ h3) .nil)
theorem iAt_cons (a : It) (l : List It) (i : Nat) : iAt (a :: l) (i + 1) = iAt l i := by simp [iAt]
theorem drop_iAt (l : List It) (i : Nat) (h : i < l.length) : l.drop i = iAt l i :: l.drop (i + 1) := by
  rw [List.drop_eq_getElem_cons h]
  congr 1
  simp [iAt, List.getD_eq_getElem?_getD, h]
/-! ### Bounds -/
def fitW (l : List Wd) : Prop := l.length ≤ 9223372036854775807 ∧ ∀ w, w ∈ l → w.text.size ≤ 9223372036854775807
mutual
def fitI : It → Prop
  | .mk line words _ kids => (Lit.int .i64 line).wf = true ∧ fitW words ∧ kids.length ≤ 9223372036854775807 ∧ fitL kids
def fitL : List It → Prop
  | [] => True
  | a :: l => fitI a ∧ fitL l
end
theorem fitI_eq (x : It) : fitI x = ((Lit.int .i64 x.line).wf = true ∧ fitW x.words ∧ x.kids.length ≤ 9223372036854775807 ∧ fitL x.kids) := by cases x; simp only [fitI, It.line, It.words, It.kids]
theorem fitL_at : ∀ (l : List It) (i : Nat), fitL l → i < l.length → fitI (iAt l i)
  | [], i, _, h => by simp at h
  | a :: l, 0, hf, _ => by simp only [fitL] at hf; simpa [iAt] using hf.1
  | a :: l, i + 1, hf, h => by simp only [fitL] at hf; rw [iAt_cons]; exact fitL_at l i hf.2 (by simpa using h)
/-- Statements within bounds, nested less than so deep. -/
def Ok (d : Nat) (l : List It) : Prop := l.length ≤ 9223372036854775807 ∧ fitL l ∧ depthL l < d
def OkA (l : List It) : Prop := l.length ≤ 9223372036854775807 ∧ fitL l
theorem Ok.kids {d : Nat} {l : List It} (h : Ok (d + 1) l) {i : Nat} (hi : i < l.length) : Ok d (iAt l i).kids := by
  have h1 := fitL_at l i h.2.1 hi
  rw [fitI_eq] at h1
  have := depth_at l i hi
  exact ⟨h1.2.2.1, h1.2.2.2, by have := h.2.2; omega⟩
noncomputable def okI (d : Nat) (x : D) : Bool := @decide (∃ l, x = encI l ∧ Ok d l) (Classical.propDecidable _)
theorem okI_enc {d : Nat} {l : List It} (h : Ok d l) : okI d (encI l) = true := by
  simp only [okI, decide_eq_true_eq]
  exact ⟨l, rfl, h⟩
theorem okI_some {d : Nat} {x : D} (h : okI d x = true) : ∃ l, x = encI l ∧ Ok d l := by simpa only [okI, decide_eq_true_eq] using h
noncomputable def okA (x : D) : Bool := @decide (∃ l, x = encI l ∧ OkA l) (Classical.propDecidable _)
theorem okA_enc {l : List It} (h : OkA l) : okA (encI l) = true := by
  simp only [okA, decide_eq_true_eq]
  exact ⟨l, rfl, h⟩
theorem okA_some {x : D} (h : okA x = true) : ∃ l, x = encI l ∧ OkA l := by simpa only [okA, decide_eq_true_eq] using h
theorem okI_zero (x : D) : okI 0 x = false := by
  cases h : okI 0 x
  · rfl
  · obtain ⟨l, _, h2⟩ := okI_some h
    exact absurd h2.2.2 (Nat.not_lt_zero _)
theorem okA_okI {x : D} (h : okA x = true) : ∃ d, okI d x = true := by
  obtain ⟨l, rfl, h2⟩ := okA_some h
  exact ⟨depthL l + 1, okI_enc ⟨h2.1, h2.2, by omega⟩⟩
theorem It.ext {x y : It} (h1 : x.line = y.line) (h2 : x.words = y.words) (h3 : x.block = y.block) (h4 : x.kids = y.kids) : x = y := by
  rw [It.eta x, It.eta y, h1, h2, h3, h4]
theorem opnI_rows (l : List It) : opnI l = .fs 4 l.length fun i => rowK (iAt l i) := by
  unfold opnI
  congr 1
  funext i
  rw [rowK_eq]
theorem opnI_inj {l m : List It} (h : opnI l = opnI m) : l = m := by
  rw [opnI_rows, opnI_rows] at h
  simp only [D.fs.injEq, true_and] at h
  obtain ⟨h1, h2⟩ := h
  refine List.ext_getElem h1 fun i hi hj => ?_
  have h3 := rowK_inj _ _ (congrFun h2 i)
  simpa [iAt, List.getD_eq_getElem?_getD, hi, hj] using h3
open Classical in
noncomputable def lOf (v : AV) : List It := if h : ∃ l, v = .s (.d (opnI l)) then h.choose else []
theorem lOf_opn (l : List It) : lOf (.s (.d (opnI l))) = l := by
  have h : ∃ m, (AV.s (.d (opnI l))) = .s (.d (opnI m)) := ⟨l, rfl⟩
  unfold lOf
  rw [dif_pos h]
  have key : ∀ m, (AV.s (.d (opnI l))) = .s (.d (opnI m)) → l = m := fun m hm => by
    simp only [AV.s, AV.c.injEq, C.s.injEq, S.d.injEq] at hm
    exact opnI_inj hm
  exact (key _ h.choose_spec).symm
theorem wrap_id {n : Int} (h1 : -9223372036854775808 ≤ n) (h2 : n ≤ 9223372036854775807) : IntKind.i64.wrap n = n := by
  simp only [IntKind.wrap, IntKind.bits, IntKind.signed, Bool.true_and, ge_iff_le, decide_eq_true_eq]
  split <;> omega
/-! ### Count -/
mutual
def cnt : It → Int
  | .mk _ _ _ kids => cntG kids kids.length
def cntG : List It → Int → Int
  | [], n => n
  | a :: l, n => cntG l (IntKind.i64.wrap (n + cnt a))
end
def countI (l : List It) : Int := cntG l l.length
theorem cnt_kids (x : It) : cnt x = countI x.kids := by cases x; simp only [cnt, countI, It.kids]
noncomputable def countD (x : D) : Int := countI (itsOf x)
end Go.Proofs.Ytchgegcndcdleaa
