/- The specification's text of statements. -/
import Derived.Test.YtchgegcndcdleaaY10
set_option linter.unusedVariables false
set_option linter.unusedSimpArgs false
set_option linter.unusedSectionVars false
namespace Go.Proofs.Ytchgegcndcdleaa
open Go Go.Sx
/-! ### The text -/
def bs (l : List UInt8) : ByteArray := ⟨⟨l⟩⟩
theorem bs_size (l : List UInt8) : (bs l).size = l.length := rfl
theorem bs_toL (s : ByteArray) : bs s.data.toList = s := rfl
theorem bs_app (a b : List UInt8) : bs a ++ bs b = bs (a ++ b) := by
  apply ByteArray.ext
  rw [ByteArray.data_append]
  simp [bs]
def wL (w : Wd) : List UInt8 := bif w.quoted then [34] ++ w.text.data.toList ++ [34] else w.text.data.toList
/-- Words, with a blank before each one or before each but the first one. -/
def wsJ : List Wd → Bool → List UInt8
  | [], _ => []
  | w :: l, b => (bif b then [32] else []) ++ wL w ++ wsJ l true
mutual
def fI (bl : List UInt8) : It → List UInt8
  | .mk _ ws bk kids => bl ++ wsJ ws false ++ bif bk then [32, 123, 10] ++ fL (bl ++ [32, 32]) kids ++ bl ++ [125, 10] else [59, 10]
def fL (bl : List UInt8) : List It → List UInt8
  | [] => []
  | x :: l => fI bl x ++ fL bl l
end
theorem fI_eq (bl : List UInt8) (x : It) : fI bl x = bl ++ wsJ x.words false ++ bif x.block then [32, 123, 10] ++ fL (bl ++ [32, 32]) x.kids ++ bl ++ [125, 10] else [59, 10] := by cases x; simp only [fI, It.words, It.block, It.kids]
def spL : Nat → List UInt8
  | 0 => []
  | n + 1 => spL n ++ [32, 32]
theorem spL_len (n : Nat) : (spL n).length = 2 * n := by
  induction n with
  | zero => rfl
  | succ n ih => simp [spL, ih]; omega
/-! ### Loops -/
def kp3 (f : FuncId) (k : Nat) : Option (List Nat) :=
  if f = 29 then (if k = 3 then some [0, 1, 5, 6] else if k = 3000003 then some [0, 1, 5] else if k = 8 then some [0, 1, 5, 7, 8] else if k = 3000008 then some [7]
    else if k = 12 then some [0, 1, 5, 7, 8, 9] else if k = 3000012 then some [0, 1, 5, 7, 8] else none)
  else kp2 f k
noncomputable def B11 : Ctx := { G13 with keep := kp3 }
theorem goodB11 : Sx.Good Try.prog B11 := goodG13.keep kp3
def szOk (a b : Nat) : Bool := decide (a + b ≤ 9223372036854775807)
theorem szOk_true {a b : Nat} (h : a + b ≤ 9223372036854775807) : szOk a b = true := by rw [szOk, decide_eq_true_eq]; exact h
def hdb29 (l : List It) (d : Int) (s : ByteArray) (i : Int) : St := ⟨[.s (.d (opnI l)), vI d, na, na, na, vS s, vI i] ++ nas 77, []⟩
theorem blank_i (k : Nat) (l : List It) (d : Int) (s : ByteArray) (i : Int) : (loopF B11 (k + 1) 29 0 3 (hdb29 l d s i)).run =
    bif decide (i < d) then bif szOk s.size 2 then (loopF B11 k 29 0 3 (hdb29 l d (s ++ bs [32, 32]) (IntKind.i64.wrap (i + 1)))).run else none
    else some (.ex 0, ⟨[.s (.d (opnI l)), vI d, na, na, na, vS s] ++ nas 78, []⟩) := by kernel_rfl
theorem blank_loop (l : List It) (d : Nat) (hd : d ≤ 1000) : ∀ (m i : Nat), i + m = d →
    (loopF B11 (m + 1) 29 0 3 (hdb29 l d (bs (spL i)) i)).run = some (.ex 0, ⟨[.s (.d (opnI l)), vI d, na, na, na, vS (bs (spL d))] ++ nas 78, []⟩) := by
  intro m
  induction m with
  | zero =>
    intro i h
    rw [blank_i]
    have : decide ((i : Int) < (d : Int)) = false := by rw [decide_eq_false_iff_not]; omega
    rw [this, show i = d by omega]
    rfl
  | succ m ih =>
    intro i h
    have e1 : decide ((i : Int) < (d : Int)) = true := by rw [decide_eq_true_eq]; omega
    have e3 : IntKind.i64.wrap ((i : Int) + 1) = ((i + 1 : Nat) : Int) := by rw [wrap_id (by omega) (by omega)]; rfl
    have e4 : szOk (bs (spL i)).size 2 = true := szOk_true (by rw [bs_size, spL_len]; omega)
    rw [blank_i, e1, e3, e4, bs_app]
    exact ih (i + 1) (by omega)
abbrev hdpb29 (p : List It × Nat) : St := hdb29 p.1 p.2 ByteArray.empty 0
noncomputable def Lb29 : Ctx := { B11 with lp := addLp B11.lp 29 3 0 (lpOf hdpb29 (fun p => p.2 ≤ 1000) fun s => .ret (.ex 0, ⟨[nthA s.env 0, nthA s.env 1, na, na, na, vS (bs (spL (intV (nthA s.env 1)).toNat))] ++ nas 78, []⟩)) }
theorem goodLb29 : Sx.Good Try.prog Lb29 :=
  goodB11.loop1 29 3 0 _ _ _ (by kernel_rfl) fun p hp => ⟨p.2 + 1, blank_loop p.1 p.2 hp p.2 0 (by omega)⟩
def hdw29 (l : List It) (d : Int) (bl out : ByteArray) (i j : Int) : St := ⟨[.s (.d (opnI l)), vI d, na, na, na, vS bl, na, vS out, vI i, vI j] ++ nas 74, []⟩
def rsw29 (l : List It) (d : Int) (bl out : ByteArray) (i : Int) : Ex × St := (.ex 4, ⟨[.s (.d (opnI l)), vI d, na, na, na, vS bl, na, vS out, vI i] ++ nas 75, []⟩)
def addW (W : Wd) (o : ByteArray) (rec : ByteArray → Option (Ex × St)) : Option (Ex × St) :=
  bif W.quoted then bif szOk o.size 1 then bif szOk (o ++ bs [34]).size W.text.size then bif szOk (o ++ bs [34] ++ W.text).size 1 then rec (o ++ bs [34] ++ W.text ++ bs [34]) else none else none else none
  else bif szOk o.size W.text.size then rec (o ++ W.text) else none
theorem rw_i (k : Nat) (l : List It) (d : Int) (bl out : ByteArray) (i j : Int) : (loopF Lb29 (k + 1) 29 0 12 (hdw29 l d bl out i j)).run =
    bif decide (0 ≤ i) && decide (i < l.length) then bif decide (j < (iAt l i.toNat).words.length) then bif decide (0 ≤ i) && decide (i < l.length) then bif decide (0 ≤ j) && decide (j < (iAt l i.toNat).words.length) then
      bif decide (j > 0) then bif szOk out.size 1 then addW (wAt (iAt l i.toNat).words j.toNat) (out ++ bs [32]) fun o => (loopF Lb29 k 29 0 12 (hdw29 l d bl o i (IntKind.i64.wrap (j + 1)))).run else none
      else addW (wAt (iAt l i.toNat).words j.toNat) out fun o => (loopF Lb29 k 29 0 12 (hdw29 l d bl o i (IntKind.i64.wrap (j + 1)))).run
    else none else none else some (rsw29 l d bl out i) else none := by kernel_rfl
theorem addW_ok (W : Wd) (o : List UInt8) (rec : ByteArray → Option (Ex × St)) (h : o.length + (wL W).length ≤ 9223372036854775807) : addW W (bs o) rec = rec (bs (o ++ wL W)) := by
  unfold addW
  have e0 : W.text = bs W.text.data.toList := rfl
  have e1 : W.text.size = W.text.data.toList.length := rfl
  unfold wL at h ⊢
  cases hq : W.quoted
  · rw [hq] at h
    simp only [cond_false] at h ⊢
    rw [szOk_true (by rw [bs_size, e1]; exact h), e0, bs_app]
    rfl
  · rw [hq] at h
    simp only [cond_true] at h ⊢
    simp only [List.length_append, List.length_cons, List.length_nil] at h
    rw [szOk_true (by rw [bs_size]; omega), bs_app, szOk_true (by rw [bs_size, e1, List.length_append, List.length_cons, List.length_nil]; omega)]
    generalize hx : W.text.data.toList = x at h ⊢
    have e2 : W.text = bs x := by rw [← hx]; rfl
    rw [e2, bs_app, szOk_true (by rw [bs_size, List.length_append, List.length_append, List.length_cons, List.length_nil]; omega), bs_app]
    simp only [cond_true, List.append_assoc]
theorem rw_loop (l : List It) (d : Int) (bl : ByteArray) (i : Nat) (hi : i < l.length) (hw : (iAt l i).words.length ≤ 9223372036854775807) : ∀ (m j : Nat) (out : List UInt8), j + m = (iAt l i).words.length →
    out.length + (wsJ ((iAt l i).words.drop j) (decide (j > 0))).length ≤ 9223372036854775807 →
    (loopF Lb29 (m + 1) 29 0 12 (hdw29 l d bl (bs out) i j)).run = some (rsw29 l d bl (bs (out ++ wsJ ((iAt l i).words.drop j) (decide (j > 0)))) i) := by
  have b1 : decide ((0 : Int) ≤ i) = true := by rw [decide_eq_true_eq]; omega
  have b2 : decide ((i : Int) < l.length) = true := by rw [decide_eq_true_eq]; omega
  intro m
  induction m with
  | zero =>
    intro j out h hs
    rw [rw_i]
    simp only [b1, b2, Int.toNat_natCast]
    have : decide ((j : Int) < (iAt l i).words.length) = false := by rw [decide_eq_false_iff_not]; omega
    rw [this, List.drop_of_length_le (by omega)]
    simp only [wsJ, List.append_nil]
    rfl
  | succ m ih =>
    intro j out h hs
    have hj : j < (iAt l i).words.length := by omega
    have e1 : decide ((j : Int) < (iAt l i).words.length) = true := by rw [decide_eq_true_eq]; omega
    have e2 : decide ((0 : Int) ≤ j) = true := by rw [decide_eq_true_eq]; omega
    have e3 : IntKind.i64.wrap ((j : Int) + 1) = ((j + 1 : Nat) : Int) := by rw [wrap_id (by omega) (by omega)]; rfl
    have e4 : decide ((j : Int) > 0) = decide (j > 0) := by rw [decide_eq_decide]; omega
    have e5 : decide (j + 1 > 0) = true := by rw [decide_eq_true_eq]; omega
    rw [drop_wAt _ _ hj] at hs ⊢
    rw [rw_i, e3, e4]
    simp only [b1, b2, e1, e2, Int.toNat_natCast, Bool.and_self, cond_true]
    have ih' := ih (j + 1)
    rw [e5] at ih'
    cases h0 : decide (j > 0)
    · rw [h0] at hs
      simp only [wsJ, cond_false, List.nil_append, List.length_append] at hs ⊢
      rw [addW_ok _ _ _ (by omega), ih' _ (by omega) (by rw [List.length_append]; omega), List.append_assoc]
    · rw [h0] at hs
      simp only [wsJ, cond_true, List.length_append, List.length_cons, List.length_nil] at hs ⊢
      rw [szOk_true (by rw [bs_size]; omega), bs_app, addW_ok _ _ _ (by rw [List.length_append, List.length_cons, List.length_nil]; omega), ih' _ (by omega) (by simp only [List.length_append, List.length_cons, List.length_nil]; omega)]
      simp only [cond_true, List.append_assoc]
structure FmA where
  l : List It
  d : Int
  bl : ByteArray
  out : ByteArray
  i : Int
abbrev hdpw29 (p : FmA) : St := hdw29 p.l p.d p.bl p.out p.i 0
def prew (p : FmA) : Prop := ∃ i : Nat, p.i = i ∧ i < p.l.length ∧ (iAt p.l i).words.length ≤ 9223372036854775807 ∧ p.out.size + (wsJ (iAt p.l i).words false).length ≤ 9223372036854775807
def outW (l : List It) (out : ByteArray) (i : Int) : ByteArray := bs (out.data.toList ++ wsJ (iAt l i.toNat).words false)
noncomputable def Lw29 : Ctx := { Lb29 with lp := addLp Lb29.lp 29 12 0 (lpOf hdpw29 prew fun s => .ret (.ex 4, ⟨[nthA s.env 0, nthA s.env 1, na, na, na, nthA s.env 5, na, vS (outW (lOf (nthA s.env 0)) (strV (nthA s.env 7)) (intV (nthA s.env 8))), nthA s.env 8] ++ nas 75, []⟩)) }
theorem goodLw29 : Sx.Good Try.prog Lw29 :=
  goodLb29.loop1 29 12 0 _ _ _ (by kernel_rfl) fun p hp => by
    obtain ⟨i, h1, h2, h3, h4⟩ := hp
    refine ⟨(iAt p.l i).words.length + 1, ?_⟩
    have := rw_loop p.l p.d p.bl i h2 h3 (iAt p.l i).words.length 0 p.out.data.toList (by omega) (by exact h4)
    rw [show hdpw29 p = hdw29 p.l p.d p.bl (bs p.out.data.toList) (i : Int) ((0 : Nat) : Int) by rw [hdpw29, h1, bs_toL]; rfl, this]
    show _ = some (rsw29 p.l p.d p.bl (outW (lOf (.s (.d (opnI p.l)))) (bs p.out.data.toList) (i : Int)) (i : Int))
    rw [lOf_opn]
    rfl
end Go.Proofs.Ytchgegcndcdleaa
