/- The functions of a zone's timer that the laws of chapter 30 call: what they answer. -/
import Derived.Test.YtgedeiegegodkaaSxc
import Derived.Test.YtgedeiegegodkaaProg
import Derived.KernelRfl
set_option linter.unusedVariables false
set_option linter.unusedSimpArgs false
set_option linter.unusedSectionVars false
namespace Go.Proofs.Ytgedeiegegodkaa
open Go Go.Sx
noncomputable def XZ : Ctx := X0 Try.prog [0, 31, 35, 39] [13, 14, 18, 19, 48, 49, 51, 52, 61, 62]
theorem good0 : Sx.Good Try.prog XZ := start_good (by kernel_rfl) (by kernel_rfl) (by kernel_rfl)
structure Zn where
  on : Bool
  fwd : Bool
  x : Int
  r : Int
  l : Int
  d : Int
def zc (z : Zn) : List C := [cB z.on, cB z.fwd, cI z.x, cI z.r, cI z.l, cI z.d]
def us (on fwd : Bool) (d : Int) : Bool := on && fwd && decide (0 ≤ d) && decide (d ≤ 500)
def dZ : Dec Zn := dMap (fun p => ⟨p.1, p.2.1, p.2.2.1, p.2.2.2.1, p.2.2.2.2.1, p.2.2.2.2.2⟩) (dThen dB (dThen dB (dThen dI (dThen dI (dThen dI dI)))))
theorem dZ_some {cs rest : List C} {z : Zn} (h : dZ cs = some (z, rest)) : cs = zc z ++ rest := by
  obtain ⟨a, h1, rfl⟩ := dMap_some h
  obtain ⟨l1, h2, h3⟩ := dThen_some h1
  obtain ⟨l2, h4, h5⟩ := dThen_some h3
  obtain ⟨l3, h6, h7⟩ := dThen_some h5
  obtain ⟨l4, h8, h9⟩ := dThen_some h7
  obtain ⟨l5, h10, h11⟩ := dThen_some h9
  rw [dB_some h2, dB_some h4, dI_some h6, dI_some h8, dI_some h10, dI_some h11]
  rfl
def dZZ : Dec (Zn × Zn × Zn) := dThen dZ (dThen dZ dZ)
theorem dZZ_some {cs : List C} {z : Zn × Zn × Zn} (h : dAll dZZ cs = some z) : cs = zc z.1 ++ zc z.2.1 ++ zc z.2.2 := by
  obtain ⟨l1, h1, h2⟩ := dThen_some (dAll_some h)
  obtain ⟨l2, h3, h4⟩ := dThen_some h2
  rw [dZ_some h1, dZ_some h3, dZ_some h4]
  simp
def dI3 : Dec (Int × Int × Int) := dThen dI (dThen dI dI)
theorem dI3_some {cs : List C} {z : Int × Int × Int} (h : dAll dI3 cs = some z) : cs = [cI z.1, cI z.2.1, cI z.2.2] := by
  obtain ⟨l1, h1, h2⟩ := dThen_some (dAll_some h)
  obtain ⟨l2, h3, h4⟩ := dThen_some h2
  rw [dI_some h1, dI_some h3, dI_some h4]
def dB3 : Dec (Bool × Bool × Bool) := dThen dB (dThen dB dB)
theorem dB3_some {cs : List C} {z : Bool × Bool × Bool} (h : dAll dB3 cs = some z) : cs = [cB z.1, cB z.2.1, cB z.2.2] := by
  obtain ⟨l1, h1, h2⟩ := dThen_some (dAll_some h)
  obtain ⟨l2, h3, h4⟩ := dThen_some h2
  rw [dB_some h1, dB_some h3, dB_some h4]
def lim (on fwd : Bool) (d : Int) : Int := if us on fwd d = true then d + 1 else 0
def lm (z : Zn) : Int := lim z.on z.fwd z.d
theorem us_range {on fwd : Bool} {d : Int} (h : us on fwd d = true) : 0 ≤ d ∧ d ≤ 500 := by
  simp only [us, Bool.and_eq_true, decide_eq_true_eq] at h
  exact ⟨h.1.2, h.2⟩
theorem wrap_id {n : Int} (h1 : -9223372036854775808 ≤ n) (h2 : n ≤ 9223372036854775807) : IntKind.i64.wrap n = n := by
  simp only [IntKind.wrap, IntKind.bits, IntKind.signed, Bool.true_and, ge_iff_le, decide_eq_true_eq]
  split <;> omega
theorem wrap_us {on fwd : Bool} {d : Int} (h : us on fwd d = true) : IntKind.i64.wrap (d + 1) = lim on fwd d := by
  have := us_range h
  rw [lim, if_pos h, wrap_id (by omega) (by omega)]
theorem lim_zero {on fwd : Bool} {d : Int} (h : us on fwd d = false) : lim on fwd d = 0 := by rw [lim, if_neg (by simp [h])]

/-! ### usable -/
theorem usable_t (z : Zn) : (callF XZ 10 17 [.agg (zc z)] []).run =
  bif z.on then bif z.fwd then bif (decide (z.d ≥ 0)) then some ((vB (decide (z.d ≤ 500))), [])
      else some ((vB false), [])
    else some ((vB false), [])
  else some ((vB false), []) := by kernel_rfl
theorem rusable_t (z : Zn) : (callF XZ 10 16 [.agg (zc z)] []).run =
  bif z.on then bif z.fwd then bif (decide (z.d ≥ 0)) then some ((vB (decide (z.d ≤ 500))), [])
      else some ((vB false), [])
    else some ((vB false), [])
  else some ((vB false), []) := by kernel_rfl
theorem us_tree (on fwd : Bool) (d : Int) : (bif on then bif fwd then bif (decide (d ≥ 0)) then some (vB (decide (d ≤ 500)), ([] : Mem)) else some (vB false, []) else some (vB false, []) else some (vB false, [])) = some (vB (us on fwd d), []) := by
  unfold us
  cases on <;> cases fwd <;> try rfl
  by_cases h : d ≥ 0
  · simp [h]
  · have h' : ¬ 0 ≤ d := h
    simp [h']
def prU : List AV → Option (T (AV × Mem))
  | [.agg cs] => (dAll dZ cs).map fun z => .ret (vB (us z.on z.fwd z.d), [])
  | _ => none
def onNil {α : Type} (mem : Mem) (o : Option α) : Option α := match mem with
  | [] => o
  | _ => none
theorem onNil_some {α : Type} {mem : Mem} {o : Option α} {a : α} (h : onNil mem o = some a) : mem = [] ∧ o = some a := by
  cases mem with
  | nil => exact ⟨rfl, h⟩
  | cons => cases h
theorem prU_some {args : List AV} {t : T (AV × Mem)} (h : prU args = some t) : ∃ z, args = [.agg (zc z)] ∧ t = .ret (vB (us z.on z.fwd z.d), []) := by
  unfold prU at h
  split at h
  · rename_i cs
    rw [Option.map_eq_some_iff] at h
    obtain ⟨z, h1, rfl⟩ := h
    exact ⟨z, by rw [dZ_some (dAll_some h1)]; simp, rfl⟩
  · cases h
def pr1 (g : FuncId) (args : List AV) (mem : Mem) : Option (T (AV × Mem)) := onNil mem (if g = 17 then prU args else if g = 16 then prU args else none)
noncomputable def X1 : Ctx := { XZ with mprim := pr1 }
/-- A run that answers is what is told. -/
theorem told {X : Ctx} (hX : Sx.Good Try.prog X) {k : Nat} {g : FuncId} {args : List AV} {r r' : AV} {mem' : Mem} (h : (callF X k g args []).run = some (r, [])) (ht : (T.ret (r, ([] : Mem))).run = some (r', mem')) : CallSome Try.prog X g args [] r' mem' := by
  injection ht with ht; injection ht with h1 h2; subst h1; subst h2
  rw [callF_eq] at h
  exact hX.call h
theorem good1 : Sx.Good Try.prog X1 := good0.prim pr1 fun g args mem t r mem' h ht => by
  obtain ⟨rfl, h2⟩ := onNil_some h
  clear h
  have h := h2
  right
  split at h
  · rename_i hg; subst hg
    obtain ⟨z, rfl, rfl⟩ := prU_some h
    exact told good0 ((usable_t z).trans (us_tree _ _ _)) ht
  · split at h
    · rename_i hg; subst hg
      obtain ⟨z, rfl, rfl⟩ := prU_some h
      exact told good0 ((rusable_t z).trans (us_tree _ _ _)) ht
    · cases h

/-! ### limits, ValidZones -/
theorem limits_t (z0 z1 z2 : Zn) : (callF X1 10 15 [.agg (zc z0 ++ zc z1 ++ zc z2)] []).run =
  bif (us z0.on z0.fwd z0.d) then bif (us z1.on z1.fwd z1.d) then bif (us z2.on z2.fwd z2.d) then some ((.agg [(cI (IntKind.i64.wrap (z0.d + 1))), (cI (IntKind.i64.wrap (z1.d + 1))), (cI (IntKind.i64.wrap (z2.d + 1)))]), [])
      else some ((.agg [(cI (IntKind.i64.wrap (z0.d + 1))), (cI (IntKind.i64.wrap (z1.d + 1))), (cI 0)]), [])
    else bif (us z2.on z2.fwd z2.d) then some ((.agg [(cI (IntKind.i64.wrap (z0.d + 1))), (cI 0), (cI (IntKind.i64.wrap (z2.d + 1)))]), [])
    else some ((.agg [(cI (IntKind.i64.wrap (z0.d + 1))), (cI 0), (cI 0)]), [])
  else bif (us z1.on z1.fwd z1.d) then bif (us z2.on z2.fwd z2.d) then some ((.agg [(cI 0), (cI (IntKind.i64.wrap (z1.d + 1))), (cI (IntKind.i64.wrap (z2.d + 1)))]), [])
    else some ((.agg [(cI 0), (cI (IntKind.i64.wrap (z1.d + 1))), (cI 0)]), [])
  else bif (us z2.on z2.fwd z2.d) then some ((.agg [(cI 0), (cI 0), (cI (IntKind.i64.wrap (z2.d + 1)))]), [])
  else some ((.agg [(cI 0), (cI 0), (cI 0)]), []) := by kernel_rfl
theorem rvalid_t (z0 z1 z2 : Zn) (c0 c1 c2 : Int) : (callF X1 10 14 [.agg (zc z0 ++ zc z1 ++ zc z2), .agg [cI c0, cI c1, cI c2]] []).run =
  bif (us z0.on z0.fwd z0.d) then bif (decide (c0 < 0)) then some ((vB false), [])
    else bif (decide (c0 > IntKind.i64.wrap (z0.d + 1))) then some ((vB false), [])
    else bif (us z1.on z1.fwd z1.d) then bif (decide (c1 < 0)) then some ((vB false), [])
      else bif (decide (c1 > IntKind.i64.wrap (z1.d + 1))) then some ((vB false), [])
      else bif (us z2.on z2.fwd z2.d) then bif (decide (c2 < 0)) then some ((vB false), [])
        else bif (decide (c2 > IntKind.i64.wrap (z2.d + 1))) then some ((vB false), [])
        else some ((vB true), [])
      else bif (decide (c2 < 0)) then some ((vB false), [])
      else bif (decide (c2 > 0)) then some ((vB false), [])
      else some ((vB true), [])
    else bif (decide (c1 < 0)) then some ((vB false), [])
    else bif (decide (c1 > 0)) then some ((vB false), [])
    else bif (us z2.on z2.fwd z2.d) then bif (decide (c2 < 0)) then some ((vB false), [])
      else bif (decide (c2 > IntKind.i64.wrap (z2.d + 1))) then some ((vB false), [])
      else some ((vB true), [])
    else bif (decide (c2 < 0)) then some ((vB false), [])
    else bif (decide (c2 > 0)) then some ((vB false), [])
    else some ((vB true), [])
  else bif (decide (c0 < 0)) then some ((vB false), [])
  else bif (decide (c0 > 0)) then some ((vB false), [])
  else bif (us z1.on z1.fwd z1.d) then bif (decide (c1 < 0)) then some ((vB false), [])
    else bif (decide (c1 > IntKind.i64.wrap (z1.d + 1))) then some ((vB false), [])
    else bif (us z2.on z2.fwd z2.d) then bif (decide (c2 < 0)) then some ((vB false), [])
      else bif (decide (c2 > IntKind.i64.wrap (z2.d + 1))) then some ((vB false), [])
      else some ((vB true), [])
    else bif (decide (c2 < 0)) then some ((vB false), [])
    else bif (decide (c2 > 0)) then some ((vB false), [])
    else some ((vB true), [])
  else bif (decide (c1 < 0)) then some ((vB false), [])
  else bif (decide (c1 > 0)) then some ((vB false), [])
  else bif (us z2.on z2.fwd z2.d) then bif (decide (c2 < 0)) then some ((vB false), [])
    else bif (decide (c2 > IntKind.i64.wrap (z2.d + 1))) then some ((vB false), [])
    else some ((vB true), [])
  else bif (decide (c2 < 0)) then some ((vB false), [])
  else bif (decide (c2 > 0)) then some ((vB false), [])
  else some ((vB true), []) := by kernel_rfl
def within (c n : Int) : Bool := decide (0 ≤ c) && decide (c ≤ n)
def ok1 (on fwd : Bool) (d c : Int) : Bool := within c (lim on fwd d)
def val (z0 z1 z2 : Zn) (c0 c1 c2 : Int) : Bool := ok1 z0.on z0.fwd z0.d c0 && ok1 z1.on z1.fwd z1.d c1 && ok1 z2.on z2.fwd z2.d c2
theorem limits_s (z0 z1 z2 : Zn) : (callF X1 10 15 [.agg (zc z0 ++ zc z1 ++ zc z2)] []).run = some (.agg [cI (lm z0), cI (lm z1), cI (lm z2)], []) := by
  rw [limits_t]
  unfold lm
  cases h0 : us z0.on z0.fwd z0.d <;> cases h1 : us z1.on z1.fwd z1.d <;> cases h2 : us z2.on z2.fwd z2.d <;> simp only [cond_true, cond_false] <;> (try rw [wrap_us h0]) <;> (try rw [wrap_us h1]) <;> (try rw [wrap_us h2]) <;> (try rw [lim_zero h0]) <;> (try rw [lim_zero h1]) <;> (try rw [lim_zero h2])
theorem two_cond {α : Type} (c n : Int) (a b : α) : (bif decide (c < 0) then a else bif decide (c > n) then a else b) = bif within c n then b else a := by
  unfold within
  by_cases h1 : c < 0
  · have : ¬ 0 ≤ c := by omega
    simp [h1, this]
  · have h1' : 0 ≤ c := by omega
    by_cases h2 : c > n
    · have : ¬ c ≤ n := by omega
      simp [h1, h2, this]
    · have : c ≤ n := by omega
      simp [h1, h2, this, h1']
theorem rvalid_s (z0 z1 z2 : Zn) (c0 c1 c2 : Int) : (callF X1 10 14 [.agg (zc z0 ++ zc z1 ++ zc z2), .agg [cI c0, cI c1, cI c2]] []).run = some (vB (val z0 z1 z2 c0 c1 c2), []) := by
  rw [rvalid_t]
  simp only [two_cond]
  unfold val ok1
  cases h0 : us z0.on z0.fwd z0.d <;> cases h1 : us z1.on z1.fwd z1.d <;> cases h2 : us z2.on z2.fwd z2.d <;> simp only [cond_true, cond_false] <;> (try rw [wrap_us h0]) <;> (try rw [wrap_us h1]) <;> (try rw [wrap_us h2]) <;> (try rw [lim_zero h0]) <;> (try rw [lim_zero h1]) <;> (try rw [lim_zero h2]) <;>
    (generalize within c0 _ = p; generalize within c1 _ = q; generalize within c2 _ = s; cases p <;> cases q <;> cases s <;> rfl)
def prL : List AV → Option (T (AV × Mem))
  | [.agg cs] => (dAll dZZ cs).map fun z => .ret (.agg [cI (lim z.1.on z.1.fwd z.1.d), cI (lim z.2.1.on z.2.1.fwd z.2.1.d), cI (lim z.2.2.on z.2.2.fwd z.2.2.d)], [])
  | _ => none
theorem prL_some {args : List AV} {t : T (AV × Mem)} (h : prL args = some t) : ∃ z0 z1 z2, args = [.agg (zc z0 ++ zc z1 ++ zc z2)] ∧ t = .ret (.agg [cI (lim z0.on z0.fwd z0.d), cI (lim z1.on z1.fwd z1.d), cI (lim z2.on z2.fwd z2.d)], []) := by
  unfold prL at h
  split at h
  · rename_i cs
    rw [Option.map_eq_some_iff] at h
    obtain ⟨z, h1, rfl⟩ := h
    exact ⟨z.1, z.2.1, z.2.2, by rw [dZZ_some h1], rfl⟩
  · cases h
def prV : List AV → Option (T (AV × Mem))
  | [.agg cs, .agg ds] => match dAll dZZ cs, dAll dI3 ds with
    | some z, some c => some (.ret (vB (ok1 z.1.on z.1.fwd z.1.d c.1 && ok1 z.2.1.on z.2.1.fwd z.2.1.d c.2.1 && ok1 z.2.2.on z.2.2.fwd z.2.2.d c.2.2), []))
    | _, _ => none
  | _ => none
theorem prV_some {args : List AV} {t : T (AV × Mem)} (h : prV args = some t) : ∃ z0 z1 z2 c0 c1 c2, args = [.agg (zc z0 ++ zc z1 ++ zc z2), .agg [cI c0, cI c1, cI c2]] ∧ t = .ret (vB (val z0 z1 z2 c0 c1 c2), []) := by
  unfold prV at h
  split at h
  · split at h
    · rename_i z c h1 h2
      injection h with h; subst h
      exact ⟨z.1, z.2.1, z.2.2, c.1, c.2.1, c.2.2, by rw [dZZ_some h1, dI3_some h2], rfl⟩
    · cases h
  · cases h
def pr2 (g : FuncId) (args : List AV) (mem : Mem) : Option (T (AV × Mem)) := onNil mem (if g = 15 then prL args else if g = 14 then prV args else pr1 g args [])
noncomputable def X2 : Ctx := { X1 with mprim := pr2 }
theorem good2 : Sx.Good Try.prog X2 := good1.prim pr2 fun g args mem t r mem' h ht => by
  obtain ⟨rfl, h2⟩ := onNil_some h
  clear h
  have h := h2
  split at h
  · rename_i hg; subst hg
    right
    obtain ⟨z0, z1, z2, rfl, rfl⟩ := prL_some h
    exact told good1 (limits_s z0 z1 z2) ht
  · split at h
    · rename_i hg; subst hg
      right
      obtain ⟨z0, z1, z2, c0, c1, c2, rfl, rfl⟩ := prV_some h
      exact told good1 (rvalid_s z0 z1 z2 c0 c1 c2) ht
    · exact .inl h

/-! ### Valid -/
theorem valid_t (z0 z1 z2 : Zn) (c0 c1 c2 : Int) : (callF X2 10 13 [.agg (zc z0 ++ zc z1 ++ zc z2), .agg [cI c0, cI c1, cI c2]] []).run =
  some ((vB ((if lim z0.on z0.fwd z0.d < if 0 > c0 then 0 else c0 then lim z0.on z0.fwd z0.d else if 0 > c0 then 0 else c0) == c0 && ((if lim z1.on z1.fwd z1.d < if 0 > c1 then 0 else c1 then lim z1.on z1.fwd z1.d else if 0 > c1 then 0 else c1) == c1 && ((if lim z2.on z2.fwd z2.d < if 0 > c2 then 0 else c2 then lim z2.on z2.fwd z2.d else if 0 > c2 then 0 else c2) == c2 && true)))), []) := by kernel_rfl
theorem lim_nonneg (on fwd : Bool) (d : Int) : 0 ≤ lim on fwd d := by
  unfold lim
  split
  · rename_i h; have := us_range h; omega
  · omega
theorem clamp {c n : Int} (hn : 0 ≤ n) : ((if n < if 0 > c then 0 else c then n else if 0 > c then 0 else c) == c) = within c n := by
  unfold within
  rw [Bool.eq_iff_iff]
  simp only [beq_iff_eq, Bool.and_eq_true, decide_eq_true_eq]
  split <;> split at * <;> omega
theorem valid_s (z0 z1 z2 : Zn) (c0 c1 c2 : Int) : (callF X2 10 13 [.agg (zc z0 ++ zc z1 ++ zc z2), .agg [cI c0, cI c1, cI c2]] []).run = some (vB (val z0 z1 z2 c0 c1 c2), []) := by
  rw [valid_t]
  rw [clamp (lim_nonneg _ _ _), clamp (lim_nonneg _ _ _), clamp (lim_nonneg _ _ _), Bool.and_true]
  unfold val ok1
  rw [Bool.and_assoc]
def pr3 (g : FuncId) (args : List AV) (mem : Mem) : Option (T (AV × Mem)) := onNil mem (if g = 13 then prV args else pr2 g args [])
noncomputable def X3 : Ctx := { X2 with mprim := pr3 }
theorem good3 : Sx.Good Try.prog X3 := good2.prim pr3 fun g args mem t r mem' h ht => by
  obtain ⟨rfl, h2⟩ := onNil_some h
  clear h
  have h := h2
  split at h
  · rename_i hg; subst hg
    right
    obtain ⟨z0, z1, z2, c0, c1, c2, rfl, rfl⟩ := prV_some h
    exact told good2 (valid_s z0 z1 z2 c0 c1 c2) ht
  · exact .inl h

end Go.Proofs.Ytgedeiegegodkaa
