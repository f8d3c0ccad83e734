/- The law SyntaxChecks: what comes in is a list of statements; a fixed text is parsed; the law answers true. -/
import Derived.Test.YtchgegcndcdleaaY17
set_option linter.unusedVariables false
set_option linter.unusedSimpArgs false
set_option linter.unusedSectionVars false
namespace Go.Proofs.Ytchgegcndcdleaa
open Go Go.Sx
/-! ### What comes in -/
theorem field2 {P : Program} {N f t : Nat} {cs : List D} {fs : Array Field} (hu : P.underlying t = some (.struct fs)) (h : Fits P N (f + 1) t cs) : ∀ fd, fd ∈ fs.toList → Fits P N f fd.type ((cs.drop fd.offset).take (P.cellsOf fd.type)) := by
  obtain ⟨_, h⟩ := h
  rw [hu] at h
  exact h
theorem fits_str {P : Program} {N f t : Nat} {cs : List D} (hu : P.underlying t = some .string) (h : Fits P N f t cs) : ∃ s : ByteArray, cs = [.c (.string s)] ∧ s.size ≤ N := by
  cases f with
  | zero => exact h.elim
  | succ f => obtain ⟨_, h⟩ := h; rw [hu] at h; exact h
theorem fits_bool {P : Program} {N f t : Nat} {cs : List D} (hu : P.underlying t = some .bool) (h : Fits P N f t cs) : ∃ b, cs = [.c (.bool b)] := by
  cases f with
  | zero => exact h.elim
  | succ f => obtain ⟨_, h⟩ := h; rw [hu] at h; exact h
theorem fits_int {P : Program} {N f t : Nat} {cs : List D} {k : IntKind} (hu : P.underlying t = some (.int k)) (h : Fits P N f t cs) : ∃ n, cs = [.c (.int k n)] ∧ (Lit.int k n).wf = true := by
  cases f with
  | zero => exact h.elim
  | succ f => obtain ⟨_, h⟩ := h; rw [hu] at h; exact h
theorem fits_slice {P : Program} {N f t e : Nat} {cs : List D} (hu : P.underlying t = some (.slice e)) (h : Fits P N (f + 1) t cs) : ∃ n row, cs = [.fs (P.cellsOf e) n row] ∧ n ≤ N ∧ ∀ i, i < n → Fits P N f e (row i) := by
  obtain ⟨_, h⟩ := h; rw [hu] at h; exact h
theorem take1 {cs : List D} {i : Nat} {x : D} (h : (cs.drop i).take 1 = [x]) : cs[i]? = some x := one_cell h
theorem list2 {cs : List D} (hl : cs.length = 2) {a b : D} (h0 : cs[0]? = some a) (h1 : cs[1]? = some b) : cs = [a, b] := by
  match cs, hl with
  | [x, y], _ =>
    simp only [List.getElem?_cons_zero, List.getElem?_cons_succ, Option.some.injEq] at h0 h1
    rw [h0, h1]
theorem list4 {cs : List D} (hl : cs.length = 4) {a b c d : D} (h0 : cs[0]? = some a) (h1 : cs[1]? = some b) (h2 : cs[2]? = some c) (h3 : cs[3]? = some d) : cs = [a, b, c, d] := by
  match cs, hl with
  | [x, y, z, u], _ =>
    simp only [List.getElem?_cons_zero, List.getElem?_cons_succ, Option.some.injEq] at h0 h1 h2 h3
    rw [h0, h1, h2, h3]
theorem co52 : Try.prog.cellsOf 52 = 2 := by kernel_rfl
theorem co36 : Try.prog.cellsOf 36 = 4 := by kernel_rfl
theorem co3 : Try.prog.cellsOf 3 = 1 := by kernel_rfl
theorem co4 : Try.prog.cellsOf 4 = 1 := by kernel_rfl
theorem co9 : Try.prog.cellsOf 9 = 1 := by kernel_rfl
theorem co34 : Try.prog.cellsOf 34 = 1 := by kernel_rfl
theorem co23 : Try.prog.cellsOf 23 = 1 := by kernel_rfl
theorem word_of {f : Nat} {row : List D} (h : Fits Try.prog maxLen f 52 row) : ∃ w : Wd, row = [.c (.string w.text), .c (.bool w.quoted)] ∧ w.text.size ≤ maxLen := by
  cases f with
  | zero => exact h.elim
  | succ f =>
    have hl := h.length
    rw [co52] at hl
    have hf := field2 Try.underlying52 h
    have h0 := hf _ (by simp; exact .inl rfl)
    have h1 := hf _ (by simp; exact .inr rfl)
    obtain ⟨s, e0, hs⟩ := fits_str (by kernel_rfl) h0
    obtain ⟨b, e1⟩ := fits_bool (by kernel_rfl) h1
    simp only [co9, co4] at e0 e1
    exact ⟨⟨s, b⟩, list2 hl (take1 e0) (take1 e1), hs⟩
open Classical in
theorem words_of {f : Nat} {x : D} (h : Fits Try.prog maxLen f 34 [x]) : ∃ ws, DLe x (encW ws) ∧ fitW ws := by
  cases f with
  | zero => exact h.elim
  | succ f =>
    obtain ⟨n, row, e, hn, hr⟩ := fits_slice Try.underlying34 h
    injection e with e _; subst e
    rw [co52]
    let g : Nat → Wd := fun i => if hi : i < n then (word_of (hr i hi)).choose else dWd
    have hg : ∀ i, i < n → row i = [.c (.string (g i).text), .c (.bool (g i).quoted)] ∧ (g i).text.size ≤ maxLen := fun i hi => by
      have := (word_of (hr i hi)).choose_spec
      simpa [g, hi] using this
    have hlen : ((List.range n).map g).length = n := by simp
    have hat : ∀ i, i < n → wAt ((List.range n).map g) i = g i := fun i hi => by simp [wAt, List.getD_eq_getElem?_getD, hi]
    refine ⟨(List.range n).map g, ?_, ?_, ?_⟩
    · unfold encW
      rw [hlen]
      refine DLe.fs fun i hi => ?_
      rw [hat i hi, (hg i hi).1]
      exact all2_refl DLe.refl _
    · rw [hlen]; exact hn
    · intro w hw
      obtain ⟨i, hi, rfl⟩ := List.mem_map.1 hw
      exact (hg i (List.mem_range.1 hi)).2
open Classical in
theorem items_of : ∀ (f : Nat) (x : D), Fits Try.prog maxLen f 23 [x] → ∃ l, DLe x (encI l) ∧ OkA l := by
  intro f
  induction f using Nat.strongRecOn with
  | _ f ih =>
  intro x h
  have item : ∀ f' row, f' < f → Fits Try.prog maxLen f' 36 row → ∃ it : It, All2 DLe row (rowK it) ∧ fitI it := fun f' row hlt h => by
    cases f' with
    | zero => exact h.elim
    | succ f' =>
      have hl := h.length
      rw [co36] at hl
      have hf := field2 Try.underlying36 h
      have h0 := hf _ (by simp; exact .inl rfl)
      have h1 := hf _ (by simp; exact .inr (.inl rfl))
      have h2 := hf _ (by simp; exact .inr (.inr (.inl rfl)))
      have h3 := hf _ (by simp; exact .inr (.inr (.inr rfl)))
      obtain ⟨n, e0, hn⟩ := fits_int (k := .i64) (by kernel_rfl) h0
      obtain ⟨b, e2⟩ := fits_bool (by kernel_rfl) h2
      have l1 := h1.length
      have l3 := h3.length
      simp only [co3, co4, co34, co23] at e0 h1 e2 h3 l1 l3
      obtain ⟨y1, e1⟩ := List.length_eq_one_iff.1 l1
      obtain ⟨y3, e3⟩ := List.length_eq_one_iff.1 l3
      rw [e1] at h1; rw [e3] at h3
      obtain ⟨ws, hw1, hw2⟩ := words_of h1
      obtain ⟨ks, hk1, hk2⟩ := ih f' (by omega) y3 h3
      refine ⟨.mk n ws b ks, ?_, ?_⟩
      · rw [list4 hl (take1 e0) (take1 e1) (take1 e2) (take1 e3), rowK]
        exact .cons (DLe.refl _) (.cons hw1 (.cons (DLe.refl _) (.cons hk1 .nil)))
      · simp only [fitI]
        exact ⟨hn, hw2, hk2.1, hk2.2⟩
  cases f with
  | zero => exact h.elim
  | succ f =>
    obtain ⟨n, row, e, hn, hr⟩ := fits_slice Try.underlying23 h
    injection e with e _; subst e
    rw [co36]
    let g : Nat → It := fun i => if hi : i < n then (item f _ (by omega) (hr i hi)).choose else dIt
    have hg : ∀ i, i < n → All2 DLe (row i) (rowK (g i)) ∧ fitI (g i) := fun i hi => by
      have := (item f _ (by omega) (hr i hi)).choose_spec
      simpa [g, hi] using this
    have hlen : ((List.range n).map g).length = n := by simp
    have hat : ∀ i, i < n → iAt ((List.range n).map g) i = g i := fun i hi => by simp [iAt, List.getD_eq_getElem?_getD, hi]
    have hfit : ∀ l : List It, (∀ x, x ∈ l → fitI x) → fitL l := fun l => by
      induction l with
      | nil => intro _; trivial
      | cons a l ih => intro h; exact ⟨h a (by simp), ih fun x hx => h x (by simp [hx])⟩
    refine ⟨(List.range n).map g, ?_, ?_, ?_⟩
    · unfold encI
      rw [hlen]
      refine DLe.fs fun i hi => ?_
      rw [rowL_at _ _ (by rw [hlen]; exact hi), hat i hi]
      exact (hg i hi).1
    · rw [hlen]; exact hn
    · refine hfit _ fun x hx => ?_
      obtain ⟨i, hi, rfl⟩ := List.mem_map.1 hx
      exact (hg i (List.mem_range.1 hi)).2
/-! ### One fixed text -/
def ar (f : FuncId) (t : Nat) : Nat := if f = 18 ∧ t = 52 then 2 else if f = 18 ∧ t = 108 then 2 else if f = 33 ∧ t = 12 then 1 else 0
noncomputable def XK : Ctx := { G10 with arrs := ar }
theorem goodXK : Sx.Good Try.prog XK := goodG10.arrs ar
theorem known_f : (callF XK 400 6 [] []).run = some (vB true, []) := by kernel_rfl
def f6 : Says
  | [] => some (.ret (vB true, []))
  | _ => none
noncomputable def G6 : Ctx := { XK with mprim := addPr XK.mprim 6 f6 }
theorem goodG6 : Sx.Good Try.prog G6 := goodXK.prim1 6 f6 fun args t r m h ht => by
  unfold f6 at h
  split at h
  · injection h with h; subst h
    exact goodXK.told known_f ht
  · cases h
end Go.Proofs.Ytchgegcndcdleaa
