/- Plain words. -/
import Derived.Test.YtchgegcndcdleaaY5
set_option linter.unusedVariables false
set_option linter.unusedSimpArgs false
set_option linter.unusedSectionVars false
namespace Go.Proofs.Ytchgegcndcdleaa
open Go Go.Sx
abbrev vU (c : Int) : AV := .v (.int .u8 c)
theorem rplain_t (c : Int) : (callF G31 100 56 [vU c] []).run =
  bif (decide (c ≥ 97)) then bif (decide (c ≤ 122)) then some ((vB true), [])
    else bif (decide (c ≥ 65)) then bif (decide (c ≤ 90)) then some ((vB true), [])
      else bif (decide (c ≥ 48)) then bif (decide (c ≤ 57)) then some ((vB true), [])
        else bif (c == 95) then some ((vB true), [])
        else bif (c == 45) then some ((vB true), [])
        else bif (c == 43) then some ((vB true), [])
        else bif (c == 46) then some ((vB true), [])
        else bif (c == 47) then some ((vB true), [])
        else some ((vB (c == 58)), [])
      else bif (c == 95) then some ((vB true), [])
      else bif (c == 45) then some ((vB true), [])
      else bif (c == 43) then some ((vB true), [])
      else bif (c == 46) then some ((vB true), [])
      else bif (c == 47) then some ((vB true), [])
      else some ((vB (c == 58)), [])
    else bif (decide (c ≥ 48)) then bif (decide (c ≤ 57)) then some ((vB true), [])
      else bif (c == 95) then some ((vB true), [])
      else bif (c == 45) then some ((vB true), [])
      else bif (c == 43) then some ((vB true), [])
      else bif (c == 46) then some ((vB true), [])
      else bif (c == 47) then some ((vB true), [])
      else some ((vB (c == 58)), [])
    else bif (c == 95) then some ((vB true), [])
    else bif (c == 45) then some ((vB true), [])
    else bif (c == 43) then some ((vB true), [])
    else bif (c == 46) then some ((vB true), [])
    else bif (c == 47) then some ((vB true), [])
    else some ((vB (c == 58)), [])
  else bif (decide (c ≥ 65)) then bif (decide (c ≤ 90)) then some ((vB true), [])
    else bif (decide (c ≥ 48)) then bif (decide (c ≤ 57)) then some ((vB true), [])
      else bif (c == 95) then some ((vB true), [])
      else bif (c == 45) then some ((vB true), [])
      else bif (c == 43) then some ((vB true), [])
      else bif (c == 46) then some ((vB true), [])
      else bif (c == 47) then some ((vB true), [])
      else some ((vB (c == 58)), [])
    else bif (c == 95) then some ((vB true), [])
    else bif (c == 45) then some ((vB true), [])
    else bif (c == 43) then some ((vB true), [])
    else bif (c == 46) then some ((vB true), [])
    else bif (c == 47) then some ((vB true), [])
    else some ((vB (c == 58)), [])
  else bif (decide (c ≥ 48)) then bif (decide (c ≤ 57)) then some ((vB true), [])
    else bif (c == 95) then some ((vB true), [])
    else bif (c == 45) then some ((vB true), [])
    else bif (c == 43) then some ((vB true), [])
    else bif (c == 46) then some ((vB true), [])
    else bif (c == 47) then some ((vB true), [])
    else some ((vB (c == 58)), [])
  else bif (c == 95) then some ((vB true), [])
  else bif (c == 45) then some ((vB true), [])
  else bif (c == 43) then some ((vB true), [])
  else bif (c == 46) then some ((vB true), [])
  else bif (c == 47) then some ((vB true), [])
  else some ((vB (c == 58)), []) := by kernel_rfl
theorem rplain_s (c : Int) : (callF G31 100 56 [vU c] []).run = some (vB (plB c), []) := by
  rw [rplain_t]
  unfold plB
  simp only [ge_iff_le]
  generalize (c == 95) = a1
  generalize (c == 45) = a2
  generalize (c == 43) = a3
  generalize (c == 46) = a4
  generalize (c == 47) = a5
  generalize (c == 58) = a6
  cases decide (97 ≤ c) <;> cases decide (c ≤ 122) <;> cases decide (65 ≤ c) <;> cases decide (c ≤ 90) <;> cases decide (48 ≤ c) <;> cases decide (c ≤ 57) <;> cases a1 <;> cases a2 <;> cases a3 <;> cases a4 <;> cases a5 <;> cases a6 <;> rfl
def f56 : Says
  | [.c (.s (.d (.c (.int .u8 r))))] => some (.ret (vB (plB r), []))
  | _ => none
noncomputable def G56 : Ctx := { G31 with mprim := addPr G31.mprim 56 f56 }
theorem goodG56 : Sx.Good Try.prog G56 := goodG31.prim1 56 f56 fun args t r m h ht => by
  unfold f56 at h
  split at h
  · rename_i c
    injection h with h; subst h
    exact goodG31.told (rplain_s c) ht
  · cases h
def hd39 (s : ByteArray) (pos : Nat) : St := ⟨[vS s] ++ nas 5 ++ [.s (.it 0)] ++ nas 8, [.sit s pos]⟩
theorem plains_i (k : Nat) (s : ByteArray) (pos : Nat) : (loopF G56 (k + 1) 39 0 2 (hd39 s pos)).run =
  bif (decide (pos < s.size)) then bif (!plB ↑(Utf8.decode s pos).fst) then some (.rt, ⟨([(vS s), na, (vB false)] ++ nas 12), []⟩)
    else (loopF G56 k 39 0 2 ⟨([(vS s)] ++ nas 5 ++ [(.c (.s (.it 0)))] ++ nas 8), [(.sit s (pos + (Utf8.decode s pos).snd))]⟩).run
  else some ((.ex 0), ⟨([(vS s)] ++ nas 14), []⟩) := by kernel_rfl
/-! ### A word's bytes -/
def bAt (s : ByteArray) (i : Nat) : UInt8 := s.data.getD i 0
def allB (p : UInt8 → Bool) (s : ByteArray) (i : Nat) : Bool := (s.data.toList.drop i).all p
theorem allB_end {p : UInt8 → Bool} {s : ByteArray} {i : Nat} (h : s.size ≤ i) : allB p s i = true := by
  unfold allB
  rw [List.drop_of_length_le (by simpa using h)]
  rfl
theorem allB_step {p : UInt8 → Bool} {s : ByteArray} {i : Nat} (h : i < s.size) : allB p s i = (p (bAt s i) && allB p s (i + 1)) := by
  unfold allB
  have hl : i < s.data.toList.length := by simpa using h
  rw [List.drop_eq_getElem_cons hl, List.all_cons]
  congr 2
  have h2 : i < s.data.size := h
  simp only [bAt, Array.getD, dif_pos h2]
  rfl
def plU (b : UInt8) : Bool := plB (b.toNat : Int)
theorem plB_big {r : Int} (h : 128 ≤ r) : plB r = false := by
  unfold plB
  have h1 : decide (r ≤ 122) = false := by rw [decide_eq_false_iff_not]; omega
  have h2 : decide (r ≤ 90) = false := by rw [decide_eq_false_iff_not]; omega
  have h3 : decide (r ≤ 57) = false := by rw [decide_eq_false_iff_not]; omega
  have e1 : (r == 95) = false := by rw [beq_eq_false_iff_ne]; omega
  have e2 : (r == 45) = false := by rw [beq_eq_false_iff_ne]; omega
  have e3 : (r == 43) = false := by rw [beq_eq_false_iff_ne]; omega
  have e4 : (r == 46) = false := by rw [beq_eq_false_iff_ne]; omega
  have e5 : (r == 47) = false := by rw [beq_eq_false_iff_ne]; omega
  have e6 : (r == 58) = false := by rw [beq_eq_false_iff_ne]; omega
  rw [h1, h2, h3, e1, e2, e3, e4, e5, e6]
  simp
theorem get_bAt (s : ByteArray) (i : Nat) (h : i < s.size) : s.get! i = bAt s i := by
  have h' : i < s.data.size := h
  show s.data[i]! = s.data.getD i 0
  rw [getElem!_pos s.data i h']
  simp only [Array.getD, dif_pos h']
  rfl
theorem decode_small {s : ByteArray} {i : Nat} (h : i < s.size) (hb : (bAt s i).toNat < 128) : Utf8.decode s i = ((bAt s i).toNat, 1) := by
  unfold Utf8.decode
  simp only [Nat.add_zero, get_bAt s i h]
  rw [if_pos hb]
theorem decode_big {s : ByteArray} {i : Nat} (h : i < s.size) (hb : 128 ≤ (bAt s i).toNat) : 128 ≤ (Utf8.decode s i).1 := by
  unfold Utf8.decode
  simp only [Nat.add_zero, get_bAt s i h]
  rw [if_neg (by omega)]
  split
  · split
    · rename_i hc; exact hc
    · decide
  split
  · split
    · rename_i hc; simp only [Bool.and_eq_true, decide_eq_true_eq] at hc; omega
    · decide
  split
  · split
    · rename_i hc; simp only [Bool.and_eq_true, decide_eq_true_eq] at hc; omega
    · decide
  · decide
theorem rune_plain {s : ByteArray} {i : Nat} (h : i < s.size) : plB ((Utf8.decode s i).1 : Int) = plU (bAt s i) := by
  unfold plU
  by_cases hb : (bAt s i).toNat < 128
  · rw [decode_small h hb]
  · have := decode_big h (by omega)
    rw [plB_big (by omega), plB_big (by omega)]
def rsP (s : ByteArray) (n : Nat) (b : Bool) : T (Ex × St) := .ite b (.ret (.ex 0, ⟨[vS s] ++ nas (n + 2), []⟩)) (.ret (.rt, ⟨[vS s, na, vB false] ++ nas n, []⟩))
theorem plains_loop (s : ByteArray) : ∀ (m i : Nat), s.size ≤ i + m → (loopF G56 (m + 1) 39 0 2 (hd39 s i)).run = (rsP s 12 (allB plU s i)).run := by
  intro m
  induction m with
  | zero =>
    intro i h
    rw [plains_i, allB_end (by omega)]
    have : decide (i < s.size) = false := by rw [decide_eq_false_iff_not]; omega
    rw [this]; rfl
  | succ m ih =>
    intro i h
    rw [plains_i]
    by_cases hi : i < s.size
    · rw [rune_plain hi, allB_step hi, decide_eq_true hi]
      cases hp : plU (bAt s i)
      · rfl
      · have hb : (bAt s i).toNat < 128 := by
          by_cases hb : (bAt s i).toNat < 128
          · exact hb
          · have : plU (bAt s i) = false := plB_big (by omega)
            rw [this] at hp; cases hp
        rw [decode_small hi hb]
        exact ih (i + 1) (by omega)
    · rw [allB_end (by omega), decide_eq_false hi]; rfl
def strV : AV → ByteArray
  | .c (.s (.d (.c (.string s)))) => s
  | _ => ByteArray.empty
abbrev hdp39 (s : ByteArray) : St := hd39 s 0
noncomputable def L39 : Ctx := { G56 with lp := addLp G56.lp 39 2 0 (lpOf hdp39 (fun _ => True) fun s => rsP (strV (nthA s.env 0)) 12 (allB plU (strV (nthA s.env 0)) 0)) }
theorem goodL39 : Sx.Good Try.prog L39 :=
  goodG56.loop1 39 2 0 _ _ _ (by kernel_rfl) fun s _ => ⟨s.size + 1, plains_loop s s.size 0 (by omega)⟩
def plainS (s : ByteArray) : Bool := allB plU s 0 && !strEq s ByteArray.empty
theorem plains_f (s : ByteArray) : (callF L39 100 39 [vS s] []).run =
    bif isHd hdp39 (fun _ => True) (hdp39 s) then bif allB plU s 0 then some (vB (!strEq s ByteArray.empty), []) else some (vB false, []) else none := by kernel_rfl
theorem plains_s (s : ByteArray) : (callF L39 100 39 [vS s] []).run = some (vB (plainS s), []) := by
  rw [plains_f, isHd_true (hd := hdp39) (pre := fun _ => True) (a := s) trivial]
  unfold plainS
  cases allB plU s 0 <;> rfl
def fPl : Says
  | [.c (.s (.d (.c (.string s))))] => some (.ret (vB (plainS s), []))
  | _ => none
noncomputable def G39 : Ctx := { G56 with mprim := addPr G56.mprim 39 fPl }
theorem goodG39 : Sx.Good Try.prog G39 := goodG56.prim1 39 fPl fun args t r m h ht => by
  unfold fPl at h
  split at h
  · rename_i s
    injection h with h; subst h
    exact CallSome.glob_eq (X := L39) (X' := G56) rfl (goodL39.told (plains_s s) ht)
  · cases h
/-! ### The specification's -/
def hd51 (s : ByteArray) (i : Int) : St := ⟨[vS s, na, na, vI i] ++ nas 13, []⟩
theorem rplains_i (k : Nat) (s : ByteArray) (i : Int) : (loopF G39 (k + 1) 51 0 2 (hd51 s i)).run =
    bif decide (i < s.size) then bif decide (0 ≤ i) && decide (i < s.size) then bif !plB ((s.data.getD i.toNat 0).toNat : Int) then (rsP s 14 false).run
      else (loopF G39 k 51 0 2 (hd51 s (IntKind.i64.wrap (i + 1)))).run else none
    else (rsP s 14 true).run := by kernel_rfl
theorem rplains_loop (s : ByteArray) (hs : s.size ≤ 9223372036854775807) : ∀ (m i : Nat), i + m = s.size → (loopF G39 (m + 1) 51 0 2 (hd51 s i)).run = (rsP s 14 (allB plU s i)).run := by
  intro m
  induction m with
  | zero =>
    intro i h
    rw [rplains_i, allB_end (by omega)]
    have : decide ((i : Int) < s.size) = false := by rw [decide_eq_false_iff_not]; omega
    rw [this]; rfl
  | succ m ih =>
    intro i h
    have hi : i < s.size := by omega
    have e1 : decide ((i : Int) < s.size) = true := by rw [decide_eq_true_eq]; omega
    have e2 : decide ((0 : Int) ≤ i) = true := by rw [decide_eq_true_eq]; omega
    have e3 : IntKind.i64.wrap ((i : Int) + 1) = ((i + 1 : Nat) : Int) := by rw [wrap_id (by omega) (by omega)]; rfl
    rw [rplains_i, e3]
    simp only [e1, e2, Int.toNat_natCast, Bool.and_self, cond_true, ih (i + 1) (by omega)]
    rw [allB_step hi]
    show (bif !plU (bAt s i) then _ else _) = _
    cases plU (bAt s i) <;> rfl
abbrev hdp51 (s : ByteArray) : St := hd51 s 0
noncomputable def L51 : Ctx := { G39 with lp := addLp G39.lp 51 2 0 (lpOf hdp51 (fun s => s.size ≤ 9223372036854775807) fun s => rsP (strV (nthA s.env 0)) 14 (allB plU (strV (nthA s.env 0)) 0)) }
theorem goodL51 : Sx.Good Try.prog L51 :=
  goodG39.loop1 51 2 0 _ _ _ (by kernel_rfl) fun s hs => ⟨s.size + 1, rplains_loop s hs s.size 0 (by omega)⟩
theorem rplains_f (s : ByteArray) : (callF L51 100 51 [vS s] []).run =
    bif isHd hdp51 (fun s => s.size ≤ 9223372036854775807) (hdp51 s) then bif allB plU s 0 then some (vB (!strEq s ByteArray.empty), []) else some (vB false, []) else none := by kernel_rfl
noncomputable def fPl2 : Says
  | [.c (.s (.d (.c (.string s))))] => some (.ite (decide (s.size ≤ 9223372036854775807)) (.ret (vB (plainS s), [])) .fail)
  | _ => none
noncomputable def G51 : Ctx := { G39 with mprim := addPr G39.mprim 51 fPl2 }
theorem goodG51 : Sx.Good Try.prog G51 := goodG39.prim1 51 fPl2 fun args t r m h ht => by
  unfold fPl2 at h
  split at h
  · rename_i s
    injection h with h; subst h
    obtain ⟨h1, h2⟩ := guard_run ht
    injection h2 with h3 h4; subst h3; subst h4
    refine CallSome.glob_eq (X := L51) (X' := G39) rfl (goodL51.call (k := 100) ?_)
    rw [← callF_eq]
    show (callF L51 100 51 [vS s] []).run = _
    rw [rplains_f, isHd_true (hd := hdp51) (pre := fun s => s.size ≤ 9223372036854775807) (a := s) (of_decide_eq_true h1)]
    unfold plainS
    cases allB plU s 0 <;> rfl
  · cases h
end Go.Proofs.Ytchgegcndcdleaa
