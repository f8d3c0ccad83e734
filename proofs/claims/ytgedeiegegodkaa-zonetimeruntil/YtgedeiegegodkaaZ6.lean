/- The law that Valid, Step and Until are what is specified. -/
import Derived.Test.YtgedeiegegodkaaZ4
set_option linter.unusedVariables false
set_option linter.unusedSimpArgs false
set_option linter.unusedSectionVars false
namespace Go.Proofs.Ytgedeiegegodkaa
open Go Go.Sx
theorem ok1_zero (on fwd : Bool) (d : Int) : ok1 on fwd d 0 = true := by
  have := lim_nonneg on fwd d
  simp only [ok1, within, Bool.and_eq_true, decide_eq_true_eq]
  omega
theorem ok1_nx {on fwd : Bool} {d c : Int} {p b : Bool} (hc : ok1 on fwd d c = true) : ok1 on fwd d (nx on fwd d c p b) = true := by
  cases ha : act on fwd d p b
  · rw [nx_zero ha]; exact ok1_zero on fwd d
  · have h1 := us_range (act_us ha)
    have h2 := ok1_range hc
    simp only [ok1, within, Bool.and_eq_true, decide_eq_true_eq]
    rw [nx, if_pos ha, lim, if_pos (act_us ha)] at *
    split <;> omega
theorem steps_t (z0 z1 z2 : Zn) (c0 c1 c2 : Int) (p0 p1 p2 b0 b1 b2 : Bool) : (callF X5 100 6 [.agg (zc z0 ++ zc z1 ++ zc z2), .agg [cI c0, cI c1, cI c2], .agg [cB p0, cB p1, cB p2, cB b0, cB b1, cB b2]] []).run =
  bif (sel (ok1 z0.on z0.fwd z0.d c0 && ok1 z1.on z1.fwd z1.d c1 && ok1 z2.on z2.fwd z2.d c2) (nx z0.on z0.fwd z0.d c0 p0 b0) == sel (ok1 z0.on z0.fwd z0.d c0 && ok1 z1.on z1.fwd z1.d c1 && ok1 z2.on z2.fwd z2.d c2) (nx z0.on z0.fwd z0.d c0 p0 b0) && (sel (ok1 z0.on z0.fwd z0.d c0 && ok1 z1.on z1.fwd z1.d c1 && ok1 z2.on z2.fwd z2.d c2) (nx z1.on z1.fwd z1.d c1 p1 b1) == sel (ok1 z0.on z0.fwd z0.d c0 && ok1 z1.on z1.fwd z1.d c1 && ok1 z2.on z2.fwd z2.d c2) (nx z1.on z1.fwd z1.d c1 p1 b1) && (sel (ok1 z0.on z0.fwd z0.d c0 && ok1 z1.on z1.fwd z1.d c1 && ok1 z2.on z2.fwd z2.d c2) (nx z2.on z2.fwd z2.d c2 p2 b2) == sel (ok1 z0.on z0.fwd z0.d c0 && ok1 z1.on z1.fwd z1.d c1 && ok1 z2.on z2.fwd z2.d c2) (nx z2.on z2.fwd z2.d c2 p2 b2) && true))) then bif ((ok1 z0.on z0.fwd z0.d c0 && ok1 z1.on z1.fwd z1.d c1 && ok1 z2.on z2.fwd z2.d c2 && tr z0.on z0.fwd z0.d c0 p0 b0) == (ok1 z0.on z0.fwd z0.d c0 && ok1 z1.on z1.fwd z1.d c1 && ok1 z2.on z2.fwd z2.d c2 && tr z0.on z0.fwd z0.d c0 p0 b0) && ((ok1 z0.on z0.fwd z0.d c0 && ok1 z1.on z1.fwd z1.d c1 && ok1 z2.on z2.fwd z2.d c2 && tr z1.on z1.fwd z1.d c1 p1 b1) == (ok1 z0.on z0.fwd z0.d c0 && ok1 z1.on z1.fwd z1.d c1 && ok1 z2.on z2.fwd z2.d c2 && tr z1.on z1.fwd z1.d c1 p1 b1) && ((ok1 z0.on z0.fwd z0.d c0 && ok1 z1.on z1.fwd z1.d c1 && ok1 z2.on z2.fwd z2.d c2 && tr z2.on z2.fwd z2.d c2 p2 b2) == (ok1 z0.on z0.fwd z0.d c0 && ok1 z1.on z1.fwd z1.d c1 && ok1 z2.on z2.fwd z2.d c2 && tr z2.on z2.fwd z2.d c2 p2 b2) && true))) then bif ((ok1 z0.on z0.fwd z0.d c0 && ok1 z1.on z1.fwd z1.d c1 && ok1 z2.on z2.fwd z2.d c2) == (ok1 z0.on z0.fwd z0.d c0 && ok1 z1.on z1.fwd z1.d c1 && ok1 z2.on z2.fwd z2.d c2)) then bif (sel (ok1 z0.on z0.fwd z0.d c0 && ok1 z1.on z1.fwd z1.d c1 && ok1 z2.on z2.fwd z2.d c2) (unt (act z0.on z0.fwd z0.d p0 b0) (um z0.d c0) (act z1.on z1.fwd z1.d p1 b1) (um z1.d c1) (act z2.on z2.fwd z2.d p2 b2) (um z2.d c2)) == sel (ok1 z0.on z0.fwd z0.d c0 && ok1 z1.on z1.fwd z1.d c1 && ok1 z2.on z2.fwd z2.d c2) (unt (act z0.on z0.fwd z0.d p0 b0) (um z0.d c0) (act z1.on z1.fwd z1.d p1 b1) (um z1.d c1) (act z2.on z2.fwd z2.d p2 b2) (um z2.d c2))) then bif ((ok1 z0.on z0.fwd z0.d c0 && ok1 z1.on z1.fwd z1.d c1 && ok1 z2.on z2.fwd z2.d c2 && (act z0.on z0.fwd z0.d p0 b0 || act z1.on z1.fwd z1.d p1 b1 || act z2.on z2.fwd z2.d p2 b2)) == (ok1 z0.on z0.fwd z0.d c0 && ok1 z1.on z1.fwd z1.d c1 && ok1 z2.on z2.fwd z2.d c2 && (act z0.on z0.fwd z0.d p0 b0 || act z1.on z1.fwd z1.d p1 b1 || act z2.on z2.fwd z2.d p2 b2))) then some ((vB (ok1 z0.on z0.fwd z0.d (sel (ok1 z0.on z0.fwd z0.d c0 && ok1 z1.on z1.fwd z1.d c1 && ok1 z2.on z2.fwd z2.d c2) (nx z0.on z0.fwd z0.d c0 p0 b0)) && ok1 z1.on z1.fwd z1.d (sel (ok1 z0.on z0.fwd z0.d c0 && ok1 z1.on z1.fwd z1.d c1 && ok1 z2.on z2.fwd z2.d c2) (nx z1.on z1.fwd z1.d c1 p1 b1)) && ok1 z2.on z2.fwd z2.d (sel (ok1 z0.on z0.fwd z0.d c0 && ok1 z1.on z1.fwd z1.d c1 && ok1 z2.on z2.fwd z2.d c2) (nx z2.on z2.fwd z2.d c2 p2 b2)))), [])
          else some ((vB false), [])
        else some ((vB false), [])
      else some ((vB false), [])
    else some ((vB false), [])
  else some ((vB false), []) := by kernel_rfl
theorem steps_s (z0 z1 z2 : Zn) (c0 c1 c2 : Int) (p0 p1 p2 b0 b1 b2 : Bool) : (callF X5 100 6 [.agg (zc z0 ++ zc z1 ++ zc z2), .agg [cI c0, cI c1, cI c2], .agg [cB p0, cB p1, cB p2, cB b0, cB b1, cB b2]] []).run = some (vB true, []) := by
  rw [steps_t]
  simp only [beq_self_eq_true, Bool.and_true, cond_true]
  cases hv : (ok1 z0.on z0.fwd z0.d c0 && ok1 z1.on z1.fwd z1.d c1 && ok1 z2.on z2.fwd z2.d c2)
  · simp only [sel, cond_false, ok1_zero, Bool.and_self]
  · simp only [Bool.and_eq_true] at hv
    simp only [sel, cond_true, ok1_nx hv.1.1, ok1_nx hv.1.2, ok1_nx hv.2, Bool.and_self]
end Go.Proofs.Ytgedeiegegodkaa
