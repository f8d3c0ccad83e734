/- How long the text of statements without errors is; the specification's Format. -/
import Derived.Test.YtchgegcndcdleaaY12
set_option linter.unusedVariables false
set_option linter.unusedSimpArgs false
set_option linter.unusedSectionVars false
namespace Go.Proofs.Ytchgegcndcdleaa
open Go Go.Sx
theorem wE_len {w : Wd} (h : wE w.text w.quoted = 0) : (wL w).length ≤ 122 := by
  unfold wE at h
  cases h1 : decide ((w.text.size : Int) > 120)
  · rw [decide_eq_false_iff_not] at h1
    have h2 : w.text.data.toList.length ≤ 120 := by
      have : w.text.size = w.text.data.toList.length := rfl
      omega
    unfold wL
    cases w.quoted
    · simp only [cond_false]; omega
    · simp only [cond_true, List.length_append, List.length_cons, List.length_nil]; omega
  · rw [h1] at h; simp at h
theorem wsE_len : ∀ (ws : List Wd) (b : Bool), wsE ws = 0 → (wsJ ws b).length ≤ 123 * ws.length
  | [], _, _ => by simp [wsJ]
  | w :: l, b, h => by
    unfold wsE at h
    cases h1 : wE w.text w.quoted == 0
    · rw [h1] at h
      simp only [cond_false] at h
      rw [h] at h1; cases h1
    · rw [h1] at h
      have k1 := wE_len (w := w) (by simpa using h1)
      have k2 := wsE_len l true h
      simp only [wsJ, List.length_append, List.length_cons]
      cases b
      · simp only [cond_false, List.length_nil]; omega
      · simp only [cond_true, List.length_cons, List.length_nil]; omega
theorem stE_len {ws : List Wd} {bk : Bool} {n : Nat} (h : stE ws bk n = 0) : (wsJ ws false).length ≤ 4920 := by
  unfold stE at h
  cases h1 : ((ws.length : Int) == 0)
  · rw [h1] at h
    cases h2 : opB (wAt ws 0).text (wAt ws 0).quoted
    · rw [h2] at h; simp at h
    · rw [h2] at h
      cases h3 : decide ((ws.length : Int) > 40)
      · rw [h3] at h
        simp only [Bool.not_true, cond_false] at h
        cases h4 : wsE ws == 0
        · rw [h4] at h
          simp only [cond_false] at h
          rw [h] at h4; cases h4
        · have k := wsE_len ws false (by simpa using h4)
          rw [decide_eq_false_iff_not] at h3
          omega
      · rw [h3] at h; simp at h
  · rw [h1] at h; simp at h
mutual
theorem chkI_sz (b : Int) : ∀ (x : It) (d : Nat) (n : Int), d ≤ 4 → (chkI b x d n).1 = 0 → ((fI (spL d) x).length : Int) ≤ 5000 + 5000 * ((chkI b x d n).2 - n) ∧ d + depth x ≤ 5
  | .mk ln words block kids, d, n, hd, h => by
    simp only [chkI] at h ⊢
    cases h1 : stE words block kids.length == 0
    · rw [h1] at h
      simp only [cond_false] at h
      rw [h] at h1; cases h1
    · rw [h1] at h
      simp only [cond_true] at h ⊢
      have k1 := stE_len (by simpa using h1)
      have k2 := chkL_sz b kids (d + 1) n (by omega) h
      rw [show ((d + 1 : Nat) : Int) = (d : Int) + 1 from rfl] at k2
      have k3 := spL_len d
      simp only [fI, depth, List.length_append]
      refine ⟨?_, by omega⟩
      rw [k3]
      have k4 := k2.1
      simp only [spL] at k4
      have k5 : ((d : Int) + 1) = ((d + 1 : Nat) : Int) := rfl
      cases block
      · simp only [cond_false, List.length_cons, List.length_nil]
        have := k2.1
        omega
      · simp only [cond_true, List.length_append, List.length_cons, List.length_nil]
        rw [k3]
        omega
theorem chkL_sz (b : Int) : ∀ (l : List It) (d : Nat) (n : Int), d ≤ 5 → (chkL b l d n).1 = 0 → ((fL (spL d) l).length : Int) ≤ 5000 * ((chkL b l d n).2 - n) ∧ d + depthL l ≤ 5
  | [], d, n, hd, h => by simp only [fL, chkL, depthL, List.length_nil]; omega
  | x :: l, d, n, hd, h => by
    rw [chkL_cons] at h ⊢
    cases h1 : decide (n + 1 > 600)
    · cases h2 : decide ((d : Int) > 4)
      · rw [h1, h2] at h
        simp only [cond_false] at h ⊢
        cases h3 : (chkI b x d (n + 1)).1 == 0
        · rw [h3] at h
          simp only [cond_false] at h
          rw [h] at h3; cases h3
        · rw [h3] at h
          simp only [cond_true] at h ⊢
          rw [decide_eq_false_iff_not] at h2
          have k1 := chkI_sz b x d (n + 1) (by omega) (by simpa using h3)
          have k2 := chkL_sz b l d _ hd h
          simp only [fL, depthL, List.length_append]
          refine ⟨?_, by omega⟩
          omega
      · rw [h1, h2] at h; simp at h
    · rw [h1] at h; simp at h
end
theorem errD_sz {l : List It} (h : (chkL 0 l 0 0).1 = 0) : okF l 0 = true := by
  have k1 := chkL_sz 0 l 0 0 (by omega) h
  have k2 := chkL_bd 0 l 0 0 (by omega) h
  have k3 : chkL 0 l ((0 : Nat) : Int) 0 = chkL 0 l 0 0 := rfl
  rw [k3] at k1
  refine okF_true (d := 0) (by omega) ?_
  omega
/-- The text of statements, none if they have an error. -/
noncomputable def fmtD (x : D) : ByteArray := bif errD x == 0 then txt (itsOf x) 0 else ByteArray.empty
noncomputable def fT : Says
  | [.c (.s (.d x))] => some (.ite (okA x) (.ret (vS (fmtD x), [])) .fail)
  | _ => none
noncomputable def G14 : Ctx := { G29 with mprim := addPr G29.mprim 14 fT }
theorem goodG14 : Sx.Good Try.prog G14 := goodG29.prim1 14 fT fun args t r m h ht => by
  unfold fT at h
  split at h
  · rename_i x
    injection h with h; subst h
    obtain ⟨h1, h2⟩ := guard_run ht
    injection h2 with h3 h4; subst h3; subst h4
    refine goodG29.call (k := 100) ?_
    rw [← callF_eq]
    show (callF G29 100 14 [.s (.d x)] []).run = _
    rw [rformat_f, h1]
    unfold fmtD
    cases h5 : errD x == 0
    · rfl
    · have h6 : errD x = 0 := by simpa using h5
      have h7 : okF (itsOf x) 0 = true := errD_sz (by simpa [errD] using h6)
      rw [h7]; rfl
  · cases h
end Go.Proofs.Ytchgegcndcdleaa
