/- The functions of a zone's timer: what is told of them all. -/
import Derived.Test.YtgedeiegegodkaaZ3
set_option linter.unusedVariables false
set_option linter.unusedSimpArgs false
set_option linter.unusedSectionVars false
namespace Go.Proofs.Ytgedeiegegodkaa
open Go Go.Sx
def prS (f : Zn → Zn → Zn → Int → Int → Int → Bool → Bool → Bool → Bool → Bool → Bool → T (AV × Mem)) : List AV → Option (T (AV × Mem))
  | [.agg cs, .agg ds, .agg ps, .agg bs] => match dAll dZZ cs, dAll dI3 ds, dAll dB3 ps, dAll dB3 bs with
    | some z, some c, some p, some b => some (f z.1 z.2.1 z.2.2 c.1 c.2.1 c.2.2 p.1 p.2.1 p.2.2 b.1 b.2.1 b.2.2)
    | _, _, _, _ => none
  | _ => none
theorem prS_some {f : Zn → Zn → Zn → Int → Int → Int → Bool → Bool → Bool → Bool → Bool → Bool → T (AV × Mem)} {args : List AV} {t : T (AV × Mem)} (h : prS f args = some t) :
    ∃ z0 z1 z2 c0 c1 c2 p0 p1 p2 b0 b1 b2, args = [.agg (zc z0 ++ zc z1 ++ zc z2), .agg [cI c0, cI c1, cI c2], .agg [cB p0, cB p1, cB p2], .agg [cB b0, cB b1, cB b2]] ∧ t = f z0 z1 z2 c0 c1 c2 p0 p1 p2 b0 b1 b2 := by
  unfold prS at h
  split at h
  · split at h
    · rename_i z c p b h1 h2 h3 h4
      injection h with h; subst h
      exact ⟨z.1, z.2.1, z.2.2, c.1, c.2.1, c.2.2, p.1, p.2.1, p.2.2, b.1, b.2.1, b.2.2, by rw [dZZ_some h1, dI3_some h2, dB3_some h3, dB3_some h4], rfl⟩
    · cases h
  · cases h
def pr4 (g : FuncId) (args : List AV) (mem : Mem) : Option (T (AV × Mem)) := onNil mem (if g = 9 then prS stepA args else if g = 11 then prS stepA args else if g = 10 then prS untilA args else if g = 12 then prS untilA args else pr3 g args [])
noncomputable def X4 : Ctx := { X3 with mprim := pr4 }
theorem toldT {X : Ctx} (hX : Sx.Good Try.prog X) {k : Nat} {g : FuncId} {args : List AV} {t : T (AV × Mem)} {r' : AV} {mem' : Mem} (h : (callF X k g args []).run = t.run) (ht : t.run = some (r', mem')) : CallSome Try.prog X g args [] r' mem' := by
  rw [ht, callF_eq] at h
  exact hX.call h
theorem good4 : Sx.Good Try.prog X4 := good3.prim pr4 fun g args mem t r mem' h ht => by
  obtain ⟨rfl, h2⟩ := onNil_some h
  clear h
  have h := h2
  split at h
  · rename_i hg; subst hg
    right
    obtain ⟨z0, z1, z2, c0, c1, c2, p0, p1, p2, b0, b1, b2, rfl, rfl⟩ := prS_some h
    exact toldT good3 (step_s z0 z1 z2 c0 c1 c2 p0 p1 p2 b0 b1 b2) ht
  split at h
  · rename_i hg; subst hg
    right
    obtain ⟨z0, z1, z2, c0, c1, c2, p0, p1, p2, b0, b1, b2, rfl, rfl⟩ := prS_some h
    exact toldT good3 (zones_s z0 z1 z2 c0 c1 c2 p0 p1 p2 b0 b1 b2) ht
  split at h
  · rename_i hg; subst hg
    right
    obtain ⟨z0, z1, z2, c0, c1, c2, p0, p1, p2, b0, b1, b2, rfl, rfl⟩ := prS_some h
    exact toldT good3 (until_s z0 z1 z2 c0 c1 c2 p0 p1 p2 b0 b1 b2) ht
  split at h
  · rename_i hg; subst hg
    right
    obtain ⟨z0, z1, z2, c0, c1, c2, p0, p1, p2, b0, b1, b2, rfl, rfl⟩ := prS_some h
    exact toldT good3 (runtil_s z0 z1 z2 c0 c1 c2 p0 p1 p2 b0 b1 b2) ht
  · exact .inl h
theorem known_s : (callF X4 100 8 [] []).run = some (vB true, []) := by kernel_rfl
def pr5 (g : FuncId) (args : List AV) (mem : Mem) : Option (T (AV × Mem)) := onNil mem (if g = 8 then (match args with | [] => some (.ret (vB true, [])) | _ => none) else pr4 g args [])
noncomputable def X5 : Ctx := { X4 with mprim := pr5 }
theorem good5 : Sx.Good Try.prog X5 := good4.prim pr5 fun g args mem t r mem' h ht => by
  obtain ⟨rfl, h2⟩ := onNil_some h
  clear h
  have h := h2
  split at h
  · rename_i hg; subst hg
    right
    split at h
    · injection h with h; subst h
      exact toldT good4 known_s ht
    · cases h
  · exact .inl h
theorem examples_s : (callF X5 100 5 [] []).run = some (vB true, []) := by kernel_rfl
end Go.Proofs.Ytgedeiegegodkaa
