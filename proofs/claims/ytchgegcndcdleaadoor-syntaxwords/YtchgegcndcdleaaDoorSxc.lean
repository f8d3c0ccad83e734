/- An interpreter of the model's code over values without addresses, and its soundness: part 3. -/
import Derived.Test.YtchgegcndcdleaaDoorSxb
import Derived.WideShapes
import Derived.RowKit3
import Derived.Carry
import Derived.ChangeOld
import Derived.ChangeSame
import Derived.Laws.Externs
import Derived.Lib.Bytealg
set_option linter.unusedVariables false
set_option linter.unusedSimpArgs false
set_option linter.unusedSectionVars false
/- A plain interpreter of the model's code over values without addresses: data that are read off the world. -/
namespace Go.Sx
open Go.WideShapes
theorem mapM_some {α β : Type} {f : α → Option β} : ∀ {l : List α} {ys : List β}, l.mapM f = some ys → All2 (fun a y => f a = some y) l ys
  | [], ys, h => by
    simp only [List.mapM_nil] at h
    injection h with h; subst h; exact .nil
  | a :: l, ys, h => by
    rw [List.mapM_cons] at h
    cases h1 : f a with
    | none => rw [h1] at h; cases h
    | some y =>
      rw [h1] at h
      cases h2 : l.mapM f with
      | none => rw [h2] at h; cases h
      | some ys' =>
        rw [h2] at h
        injection h with h; subst h
        exact .cons h1 (mapM_some h2)
/-- A property of what is read that bounds its strings and slices. -/
structure SmallP {H : Type} (S : DataW H → Prop) (N : Nat) : Prop where
  str : ∀ l : List UInt8, S (.lit (.string l)) → l.length ≤ maxLen → l.length ≤ N
  len : ∀ el sp, S (.slice el sp) → el.length ≤ maxLen → el.length ≤ N
  elem : ∀ el sp d, S (.slice el sp) → d ∈ el → S d
  part : ∀ ps d, S (.agg ps) → d ∈ ps → S d
theorem smallP_all {H : Type} : SmallP (H := H) (fun _ => True) maxLen := ⟨fun _ _ h => h, fun _ _ _ h => h, fun _ _ _ _ _ => trivial, fun _ _ _ _ => trivial⟩
section
variable {H : Type} {enc : TypeId × Value → H} {P : Program} {w : World} {L : List TypeId} {N : Nat} [F : Fr] {M : Mut} {S : DataW H → Prop} {sp : Nat → Bool}
theorem cells_some {w : World} {a : Addr} {n : Nat} {l : List Value} (h : w.cells? 0 a n = some l) : l.length = n ∧ ∀ j, j < n → ∃ v, l[j]? = some v ∧ w.cell? (a.add j) = some v := by
  unfold World.cells? at h
  rw [if_pos (Nat.zero_le _)] at h
  have h1 := mapM_some h
  have hl := h1.length
  rw [List.length_range] at hl
  refine ⟨hl.symm, fun j hj => ?_⟩
  obtain ⟨v, h2, h3⟩ := h1.get j (List.getElem?_range hj)
  exact ⟨v, h2, h3⟩
theorem struct_build {f : Nat} {cs : List Value} {tot : Nat} : ∀ (fs : List Field) (n : Nat), laidFields P L n fs = some tot → cs.length = tot →
    (∀ fd, fd ∈ fs → L.contains fd.type = true → ∃ ds, Fits P N f fd.type ds ∧ All2 (DR w M) ds ((cs.drop fd.offset).take (P.cellsOf fd.type))) →
    ∃ ds, All2 (DR w M) ds (cs.drop n) ∧ n ≤ tot ∧ ∀ fd, fd ∈ fs → n ≤ fd.offset ∧ Fits P N f fd.type ((ds.drop (fd.offset - n)).take (P.cellsOf fd.type))
  | [], n, h, hl, _ => by
    simp only [laidFields, Option.some.injEq] at h
    exact ⟨[], by rw [List.drop_of_length_le (by omega)]; exact .nil, by omega, fun fd hfd => by cases hfd⟩
  | fd :: fs, n, h, hl, hall => by
    simp only [laidFields] at h
    split at h
    · rename_i hc
      obtain ⟨ds', h1, h2, h3⟩ := struct_build fs _ h hl fun fd' hfd => hall fd' (by simp [hfd])
      obtain ⟨ds, h4, h5⟩ := hall fd (by simp) hc.2
      have hds := h4.length
      refine ⟨ds ++ ds', ?_, by omega, fun fd' hfd => ?_⟩
      · have := h5.append h1
        rw [hc.1, ← List.drop_drop, List.take_append_drop] at this
        exact this
      · rcases List.mem_cons.1 hfd with rfl | hfd
        · refine ⟨by omega, ?_⟩
          rw [hc.1, Nat.sub_self, List.drop_zero, List.take_left' hds]
          exact h4
        · obtain ⟨h6, h7⟩ := h3 fd' hfd
          refine ⟨by omega, ?_⟩
          rw [List.drop_append, hds, List.drop_of_length_le (by omega), List.nil_append, show fd'.offset - n - P.cellsOf fd.type = fd'.offset - (n + P.cellsOf fd.type) by omega]
          exact h7
    · cases h
theorem arr_build {f : Nat} {cs : List Value} {e : TypeId} {n : Nat} (hl : cs.length = n * P.cellsOf e)
    (h : ∀ i, i < n → ∃ ds, Fits P N f e ds ∧ All2 (DR w M) ds ((cs.drop (i * P.cellsOf e)).take (P.cellsOf e))) : ∀ (m i : Nat), i + m = n →
    ∃ ds, All2 (DR w M) ds (cs.drop (i * P.cellsOf e)) ∧ ∀ j, j < m → Fits P N f e ((ds.drop (j * P.cellsOf e)).take (P.cellsOf e))
  | 0, i, hi => ⟨[], by rw [List.drop_of_length_le (by rw [hl, show i = n by omega]; exact Nat.le_refl _)]; exact .nil, fun j hj => by omega⟩
  | m + 1, i, hi => by
    obtain ⟨ds', h1, h2⟩ := arr_build hl h m (i + 1) (by omega)
    obtain ⟨ds, h4, h5⟩ := h i (by omega)
    have hds := h4.length
    refine ⟨ds ++ ds', ?_, fun j hj => ?_⟩
    · have := h5.append h1
      rw [Nat.add_mul, Nat.one_mul, ← List.drop_drop, List.take_append_drop] at this
      exact this
    · cases j with
      | zero =>
        rw [Nat.zero_mul, List.drop_zero, List.take_left' hds]
        exact h4
      | succ j =>
        rw [List.drop_append, hds, Nat.add_mul, Nat.one_mul, List.drop_of_length_le (by omega), List.nil_append, Nat.add_sub_cancel]
        exact h2 j (by omega)
/-- What is read off the world is data that fit. -/
theorem trod_fits (hS : SmallP S N) (hL : dataTys P L = true) (hN : ∀ b o, NM M b o) : ∀ (fuel : Nat) (t : TypeId) (cs : List Value) (x : DataW H × List MemPlace), L.contains t = true → S x.1 →
    DataW.trod enc P w 0 sp true fuel t cs = some x → ∃ ds, Fits P N fuel t ds ∧ All2 (DR w M) ds cs := by
  intro fuel
  induction fuel with
  | zero => intro t cs x _ _ h; cases h
  | succ fuel ih =>
    intro t cs x ht hx h
    have hd := dataTys_at hL ht
    unfold dataTy at hd
    unfold DataW.trod at h
    unfold Fits
    split at h
    · rename_i b hu
      simp only [hu] at hd ⊢
      exact ⟨[.c (.bool b)], ⟨(beq_iff_eq.1 hd).symm, b, rfl⟩, .cons (.c _) .nil⟩
    · rename_i k k' n hu
      simp only [hu] at hd ⊢
      split at h
      · rename_i hc
        exact ⟨[.c (.int k n)], ⟨(beq_iff_eq.1 hd).symm, n, rfl, hc.2⟩, .cons (hc.1 ▸ .c _) .nil⟩
      · cases h
    · rename_i hu; simp only [hu] at hd; cases hd
    · rename_i s hu
      simp only [hu] at hd ⊢
      split at h
      · rename_i hc
        injection h with h; subst h
        refine ⟨[.c (.string s)], ⟨(beq_iff_eq.1 hd).symm, s, rfl, ?_⟩, .cons (.c _) .nil⟩
        have := hS.str s.data.toList hx (by simpa using hc)
        simpa using this
      · cases h
    · rename_i hu; simp only [hu] at hd; cases hd
    · rename_i hu; simp only [hu] at hd; cases hd
    · rename_i e hu
      simp only [hu] at hd ⊢
      simp only [Bool.and_eq_true, beq_iff_eq, decide_eq_true_eq] at hd
      exact ⟨[.fs (P.cellsOf e) 0 fun _ => []], ⟨hd.1.1.symm, 0, fun _ => [], rfl, Nat.zero_le _, fun i hi => by omega⟩, .cons (.fs0 ..) .nil⟩
    · rename_i e a len cap hu
      simp only [hu] at hd ⊢
      simp only [Bool.and_eq_true, beq_iff_eq, decide_eq_true_eq] at hd
      split at h
      · rename_i hc
        rw [Option.bind_eq_some_iff] at h
        obtain ⟨elems, h1, h2⟩ := h
        rw [Option.map_eq_some_iff] at h2
        obtain ⟨rest, _, h3⟩ := h2
        subst h3
        have h4 := mapM_some h1
        have hlen := h4.length
        rw [List.length_range] at hlen
        have key : ∀ i, i < len → ∃ l y, w.cells? 0 (a.add (i * P.cellsOf e)) (P.cellsOf e) = some l ∧ elems[i]? = some y ∧ DataW.trod enc P w 0 sp true fuel e l = some y := fun i hi => by
          obtain ⟨y, h5, h6⟩ := h4.get i (List.getElem?_range hi)
          rw [Option.bind_eq_some_iff] at h6
          obtain ⟨l, h7, h8⟩ := h6
          exact ⟨l, y, h7, h5, h8⟩
        have row : ∀ i, i < len → ∃ ds l, w.cells? 0 (a.add (i * P.cellsOf e)) (P.cellsOf e) = some l ∧ Fits P N fuel e ds ∧ All2 (DR w M) ds l := fun i hi => by
          obtain ⟨l, y, h5, h6, h7⟩ := key i hi
          obtain ⟨ds, h8, h9⟩ := ih e l y hd.1.2 (hS.elem _ _ _ hx (List.mem_map.2 ⟨y, List.mem_of_getElem? h6, rfl⟩)) h7
          exact ⟨ds, l, h5, h8, h9⟩
        have hn : len ≤ N := by
          have := hS.len _ _ hx (by simp; omega)
          simp at this; omega
        by_cases h0 : len = 0
        · subst h0
          exact ⟨[.fs (P.cellsOf e) 0 fun _ => []], ⟨hd.1.1.symm, 0, fun _ => [], rfl, Nat.zero_le _, fun i hi => by omega⟩, .cons (.fs0 ..) .nil⟩
        · have hspot : a = at_ a.block a.off := by
            obtain ⟨ds, l, h5, _, _⟩ := row 0 (by omega)
            obtain ⟨_, h6⟩ := cells_some h5
            obtain ⟨v, _, h7⟩ := h6 0 hd.2
            have : (a.add (0 * P.cellsOf e)).add 0 = a := by simp [Addr.add]
            rw [this] at h7
            unfold World.cell? at h7
            split at h7
            · split at h7
              · cases h7
              · rename_i hsp
                cases a with | mk b o s => cases s with
                  | none => rfl
                  | some => simp at hsp
            · cases h7
          rw [hspot] at row ⊢
          let rw_ : Nat → List D := fun i => if hi : i < len then (row i hi).choose else []
          have hrow : ∀ i, i < len → ∃ l, w.cells? 0 ((at_ a.block a.off).add (i * P.cellsOf e)) (P.cellsOf e) = some l ∧ Fits P N fuel e (rw_ i) ∧ All2 (DR w M) (rw_ i) l := fun i hi => by
            have := (row i hi).choose_spec
            simp only [rw_, dif_pos hi]
            exact this
          refine ⟨[.fs (P.cellsOf e) len rw_], ⟨hd.1.1.symm, len, rw_, rfl, hn, fun i hi => (hrow i hi).choose_spec.2.1⟩, .cons ?_ .nil⟩
          have hcell : ∀ i k, i < len → k < P.cellsOf e → ∃ v, w.cell? (at_ a.block (a.off + (i * P.cellsOf e + k))) = some v ∧ ∀ x, (rw_ i)[k]? = some x → DR w M x v := fun i k hi hk => by
            obtain ⟨l, h5, h6, h7⟩ := hrow i hi
            obtain ⟨h8, h9⟩ := cells_some h5
            obtain ⟨v, h10, h11⟩ := h9 k hk
            rw [at_add, at_add] at h11
            refine ⟨v, by rw [← h11, Nat.add_assoc], fun x hx => ?_⟩
            obtain ⟨v', h12, h13⟩ := h7.get k hx
            rw [h10] at h12
            injection h12 with h12; subst h12
            exact h13
          refine .fs (P.cellsOf e) len rw_ cap a.block a.off (fun j => (w.cell? (at_ a.block (a.off + j))).getD undef) hc.2.1 (fun i hi => (hrow i hi).choose_spec.2.1.length) (fun j hj => ?_) (fun j _ => hN _ _) fun i k x hi hk => ?_
          · have h5 : j / P.cellsOf e < len := Nat.div_lt_of_lt_mul (by rwa [Nat.mul_comm])
            obtain ⟨v, h6, _⟩ := hcell (j / P.cellsOf e) (j % P.cellsOf e) h5 (Nat.mod_lt _ hd.2)
            rw [Nat.div_add_mod'] at h6
            rw [h6]; rfl
          · have hk' : k < P.cellsOf e := by
              have h5 := (List.getElem?_eq_some_iff.1 hk).1
              rwa [(hrow i hi).choose_spec.2.1.length] at h5
            obtain ⟨v, h6, h7⟩ := hcell i k hi hk'
            rw [h6]
            exact h7 x hk
      · cases h
    · rename_i fs hu
      simp only [hu] at hd ⊢
      split at h
      · rename_i hlen
        rw [Option.map_eq_some_iff] at h
        obtain ⟨xs, h1, h2⟩ := h
        subst h2
        have h4 := mapM_some h1
        split at hd
        · rename_i tot ht2
          have htot : P.cellsOf t = tot := by simpa using hd
          obtain ⟨ds, h5, _, h6⟩ := struct_build (w := w) (M := M) (N := N) (f := fuel) _ _ ht2 (hlen.trans htot) fun fd hfd hc => by
            obtain ⟨i, hi⟩ := List.getElem?_of_mem hfd
            obtain ⟨y, h7, h8⟩ := h4.get i hi
            exact ih fd.type _ y hc (hS.part _ _ hx (List.mem_map.2 ⟨y, List.mem_of_getElem? h7, rfl⟩)) h8
          rw [List.drop_zero] at h5
          exact ⟨ds, ⟨by rw [h5.length, hlen], fun fd hfd => (h6 fd hfd).2⟩, h5⟩
        · cases hd
      · cases h
    · rename_i n e hu
      simp only [hu] at hd ⊢
      simp only [Bool.and_eq_true, beq_iff_eq] at hd
      split at h
      · rename_i hlen
        rw [Option.map_eq_some_iff] at h
        obtain ⟨xs, h1, h2⟩ := h
        subst h2
        have h4 := mapM_some h1
        obtain ⟨ds, h5, h6⟩ := arr_build (w := w) (M := M) (N := N) (f := fuel) (e := e) (n := n) (hlen.trans hd.1) (fun i hi => by
          obtain ⟨y, h7, h8⟩ := h4.get i (List.getElem?_range hi)
          exact ih e _ y hd.2 (hS.part _ _ hx (List.mem_map.2 ⟨y, List.mem_of_getElem? h7, rfl⟩)) h8) n 0 (by omega)
        rw [Nat.zero_mul, List.drop_zero] at h5
        exact ⟨ds, ⟨by rw [h5.length, hlen], fun i hi => h6 i (by omega)⟩, h5⟩
      · cases h
    all_goals first
      | (cases h; done)
      | (rename_i hu; simp only [hu] at hd; cases hd; done)

/-- An argument, its form laid open to some depth. -/
def argA (P : Program) (k : Nat) (t : TypeId) (cs : List D) : AV := match P.underlying t with
  | some (.struct _) | some (.array _ _) => .agg ((openD P k t cs 0).map C.d)
  | _ => match openD P k t cs 0 with
    | [x] => .c (.d x)
    | _ => .any
def argsA (P : Program) (k : Nat) : List TypeId → List (List D) → List AV
  | t :: ts, cs :: css => argA P k t cs :: argsA P k ts css
  | _, _ => []
def FitsAll (P : Program) (N : Nat) : List TypeId → List (List D) → Prop
  | [], [] => True
  | t :: ts, cs :: css => (∃ f, Fits P N f t cs) ∧ FitsAll P N ts css
  | _, _ => False
end
end Go.Sx

/- A plain interpreter of the model's code over values without addresses: from a run of the interpreter to what a law owes. -/
namespace Go.Sx
open Go.WideShapes Go.RowKit
structure Good (P : Program) (X : Ctx) : Prop where
  ok : Ok P X
  prims : PrimsOk P X
  fns : FnOk P X
theorem Good.call {P : Program} {X : Ctx} (h : Good P X) {k : Nat} {g : FuncId} {args : List AV} {mem : Mem} {r : AV} {mem' : Mem} (hr : (callE X k g args mem).run = some (r, mem')) : CallSome P X g args mem r mem' :=
  callE_sound h.ok h.prims h.fns k g args mem r mem' hr

/-! ### More is told -/
theorem AllLoops.mono {p q : Code → Prop} (h : ∀ b, p b → q b) : ∀ {c : Code}, AllLoops p c → AllLoops q c := by
  intro c
  induction c with
  | seq a b iha ihb => intro hc; exact ⟨iha hc.1, ihb hc.2⟩
  | cond _ a b iha ihb => intro hc; exact ⟨iha hc.1, ihb hc.2⟩
  | block _ b ih => intro hc; exact ih hc
  | loop b ih => intro hc; exact ⟨h b hc.1, ih hc.2⟩
  | scope b ih => intro hc; exact ih hc
  | _ => intro _; trivial
theorem AllLoops.of {p : Code → Prop} (h : ∀ b, p b) : ∀ (c : Code), AllLoops p c := by
  intro c
  induction c with
  | seq a b iha ihb => exact ⟨iha, ihb⟩
  | cond _ a b iha ihb => exact ⟨iha, ihb⟩
  | block _ b ih => exact ih
  | loop b ih => exact ⟨h b, ih⟩
  | scope b ih => exact ih
  | _ => trivial
def loopsOf : Code → List Code
  | .seq a b => loopsOf a ++ loopsOf b
  | .cond _ a b => loopsOf a ++ loopsOf b
  | .block _ b => loopsOf b
  | .loop b => b :: loopsOf b
  | .scope b => loopsOf b
  | _ => []
theorem AllLoops.iff {p : Code → Prop} : ∀ {c : Code}, AllLoops p c ↔ ∀ b, b ∈ loopsOf c → p b := by
  intro c
  induction c with
  | seq a b iha ihb => simp only [AllLoops, loopsOf, List.mem_append, iha, ihb]; exact ⟨fun h b hb => hb.elim (h.1 b) (h.2 b), fun h => ⟨fun b hb => h b (.inl hb), fun b hb => h b (.inr hb)⟩⟩
  | cond _ a b iha ihb => simp only [AllLoops, loopsOf, List.mem_append, iha, ihb]; exact ⟨fun h b hb => hb.elim (h.1 b) (h.2 b), fun h => ⟨fun b hb => h b (.inl hb), fun b hb => h b (.inr hb)⟩⟩
  | block _ b ih => exact ih
  | loop b ih => simp only [AllLoops, loopsOf, List.mem_cons, ih]; exact ⟨fun h b' hb => hb.elim (fun e => e ▸ h.1) (h.2 b'), fun h => ⟨h b (.inl rfl), fun b' hb => h b' (.inr hb)⟩⟩
  | scope b ih => exact ih
  | _ => simp [AllLoops, loopsOf]
theorem loops_sub : ∀ {c b : Code}, b ∈ loopsOf c → ∀ b', b' ∈ loopsOf b → b' ∈ loopsOf c := by
  intro c
  induction c with
  | seq a b iha ihb => intro x hx y hy; simp only [loopsOf, List.mem_append] at hx ⊢; exact hx.imp (fun h => iha h y hy) fun h => ihb h y hy
  | cond _ a b iha ihb => intro x hx y hy; simp only [loopsOf, List.mem_append] at hx ⊢; exact hx.imp (fun h => iha h y hy) fun h => ihb h y hy
  | block _ b ih => intro x hx y hy; exact ih hx y hy
  | loop b ih =>
    intro x hx y hy
    simp only [loopsOf, List.mem_cons] at hx ⊢
    rcases hx with rfl | hx
    · exact .inr hy
    · exact .inr (ih hx y hy)
  | scope b ih => intro x hx y hy; exact ih hx y hy
  | _ => intro x hx; simp [loopsOf] at hx
section layer
variable {P : Program} {X : Ctx}
theorem SI.glob_eq {X' : Ctx} (he : X'.glob = X.glob) [F : Fr] {B : Base} {s : St} {a : Act} {w : World} {ρ : Locs} (h : SI X B s a w ρ) : SI X' B s a w ρ :=
  ⟨h.mem, h.env, fun g cs hc => h.glob g cs (he ▸ hc), h.evo, h.keep, h.len, h.defers⟩
theorem Inv.glob_eq {X' : Ctx} (he : X'.glob = X.glob) [F : Fr] {B : Base} {s : St} {a : Act} {w : World} (h : Inv X B s a w) : Inv X' B s a w :=
  let ⟨ρ, h⟩ := h
  ⟨ρ, h.glob_eq he⟩
theorem CallSome.glob_eq {X' : Ctx} (he : X'.glob = X.glob) {g : FuncId} {args : List AV} {mem : Mem} {r : AV} {mem' : Mem} (h : CallSome P X g args mem r mem') : CallSome P X' g args mem r mem' :=
  fun F w ρ vs h1 h2 h3 => h F w ρ vs h1 (fun g cs hc => h2 g cs (he.symm ▸ hc)) h3
theorem LoopGood.of_eq {X' : Ctx} {g : FuncId} {b : Code} (he : X'.glob = X.glob) (hl : X'.lp = X.lp) (h : LoopGood P X g b) : LoopGood P X' g b :=
  fun m f s r h1 h2 F B a w hB hi fr k cs => by
    rw [hl] at h1
    obtain ⟨e, a', w', ⟨h3, h4⟩, h5⟩ := h m f s r h1 h2 F B a w hB (hi.glob_eq he.symm) fr k cs
    exact ⟨e, a', w', ⟨h3, h4.glob_eq he⟩, h5⟩
/-- A function is told: at these arguments it answers so. -/
theorem Good.prim (h : Good P X) (pr : FuncId → List AV → Mem → Option (T (AV × Mem)))
    (hp : ∀ g args mem t r mem', pr g args mem = some t → t.run = some (r, mem') → X.mprim g args mem = some t ∨ CallSome P X g args mem r mem') : Good P { X with mprim := pr } where
  ok := ⟨h.ok.ti, h.ok.mixed⟩
  prims := ⟨h.prims.prim, fun g args mem t r mem' h1 h2 => CallSome.glob_eq (X := X) rfl ((hp g args mem t r mem' h1 h2).elim (fun h3 => h.prims.mprim g args mem t r mem' h3 h2) id)⟩
  fns := ⟨h.fns.fn, h.fns.name, fun g f c h1 h2 => (h.fns.loops g f c h1 h2).mono fun _ hb => LoopGood.of_eq (X := X) (X' := { X with mprim := pr }) rfl rfl hb⟩
/-- What else the interpreter keeps and how it lays things out does not matter. -/
theorem Good.keep (h : Good P X) (kp : FuncId → Nat → Option (List Nat)) : Good P { X with keep := kp } where
  ok := ⟨h.ok.ti, h.ok.mixed⟩
  prims := ⟨h.prims.prim, fun g args mem t r mem' h1 h2 => CallSome.glob_eq (X := X) rfl (h.prims.mprim g args mem t r mem' h1 h2)⟩
  fns := ⟨h.fns.fn, h.fns.name, fun g f c h1 h2 => (h.fns.loops g f c h1 h2).mono fun _ hb => LoopGood.of_eq (X := X) (X' := { X with keep := kp }) rfl rfl hb⟩
theorem Good.gsv (h : Good P X) (gv : FuncId → Bool) : Good P { X with gsv := gv } where
  ok := ⟨h.ok.ti, h.ok.mixed⟩
  prims := ⟨h.prims.prim, fun g args mem t r mem' h1 h2 => CallSome.glob_eq (X := X) rfl (h.prims.mprim g args mem t r mem' h1 h2)⟩
  fns := ⟨h.fns.fn, h.fns.name, fun g f c h1 h2 => (h.fns.loops g f c h1 h2).mono fun _ hb => LoopGood.of_eq (X := X) (X' := { X with gsv := gv }) rfl rfl hb⟩
theorem Good.arrs (h : Good P X) (ar : FuncId → Nat → Nat) : Good P { X with arrs := ar } where
  ok := ⟨h.ok.ti, h.ok.mixed⟩
  prims := ⟨h.prims.prim, fun g args mem t r mem' h1 h2 => CallSome.glob_eq (X := X) rfl (h.prims.mprim g args mem t r mem' h1 h2)⟩
  fns := ⟨h.fns.fn, h.fns.name, fun g f c h1 h2 => (h.fns.loops g f c h1 h2).mono fun _ hb => LoopGood.of_eq (X := X) (X' := { X with arrs := ar }) rfl rfl hb⟩

/-- The body of a function. -/
def bodyAt (X : Ctx) (g : FuncId) : Code := ((X.fn g).bind (·.body)).getD .skip
def loopAt (X : Ctx) (g : FuncId) (key : Nat) : Code := ((loopsOf (bodyAt X g)).find? fun b => firstRegion b == some key).getD .skip
def keysApart : List (Option Nat) → Bool
  | [] => true
  | k :: l => k.isSome && !l.contains k && keysApart l
theorem find_apart {key : Nat} : ∀ {l : List Code} {b : Code}, keysApart (l.map firstRegion) = true → b ∈ l → firstRegion b = some key → l.find? (fun b => firstRegion b == some key) = some b
  | a :: l, b, hk, hb, hf => by
    simp only [List.map_cons, keysApart, Bool.and_eq_true, Bool.not_eq_true', List.contains_eq_mem, decide_eq_false_iff_not] at hk
    rcases List.mem_cons.1 hb with rfl | hb
    · simp [hf]
    · rw [List.find?_cons]
      have : (firstRegion a == some key) = false := by
        rw [beq_eq_false_iff_ne]
        intro he
        exact hk.1.2 (he ▸ hf ▸ List.mem_map.2 ⟨b, hb, rfl⟩)
      rw [this]
      exact find_apart hk.2 hb hf
/-- A loop with what is forgotten behind it. -/
def loopR (X : Ctx) (k : Nat) (g : FuncId) (m key : Nat) (s : St) : T (Ex × St) :=
  (ev X k g m (.loop (loopAt X g key)) s).bind (forget X g m (1000000 + key))
/-- A loop is told: from these states on it ends so. -/
theorem Good.loop (h : Good P X) (lp : FuncId → Option Nat → Nat → Option (St → T (Ex × St)))
    (hl : ∀ g o m f, lp g o m = some f → X.lp g o m = some f ∨ ∃ key, o = some key ∧ keysApart ((loopsOf (bodyAt X g)).map firstRegion) = true ∧ ∀ s r, (f s).run = some r → ∃ k, (loopR X k g m key s).run = some r) :
    Good P { X with lp := lp } where
  ok := ⟨h.ok.ti, h.ok.mixed⟩
  prims := ⟨h.prims.prim, fun g args mem t r mem' h1 h2 => CallSome.glob_eq (X := X) rfl (h.prims.mprim g args mem t r mem' h1 h2)⟩
  fns := ⟨h.fns.fn, h.fns.name, fun g fn c h1 h2 => AllLoops.iff.2 fun b hb => by
    intro m f s r h3 h4 F B a w hB hi fr kk cs
    have hall := h.fns.loops g fn c h1 h2
    rcases hl g _ m f h3 with h5 | ⟨key, h5, h6, h7⟩
    · obtain ⟨e, a', w', ⟨h8, h9⟩, h10⟩ := AllLoops.iff.1 hall b hb m f s r h5 h4 F B a w hB (hi.glob_eq (X := { X with lp := lp }) (X' := X) rfl) fr kk cs
      exact ⟨e, a', w', ⟨h8, h9.glob_eq (X := X) (X' := { X with lp := lp }) rfl⟩, h10⟩
    · have hbody : bodyAt X g = c := by unfold bodyAt; rw [show X.fn g = some fn from h1]; simp [h2]
      rw [hbody] at h6
      have hat : loopAt X g key = b := by unfold loopAt; rw [hbody, find_apart h6 hb h5]; rfl
      obtain ⟨k, h8⟩ := h7 s r h4
      unfold loopR at h8
      rw [hat] at h8
      obtain ⟨⟨e, s1⟩, h9, h10⟩ := bind_some h8
      obtain ⟨s2, h11, h12⟩ := bind_some h10
      injection h12 with h12; subst h12
      have hrec := ev_sound h.ok h.prims (fun k hk => enterA_sound h.ok h.fns hk) k g m (.loop b) s (e, s1) ⟨AllLoops.iff.1 hall b hb, AllLoops.iff.2 fun b' hb' => AllLoops.iff.1 hall b' (loops_sub hb b' hb')⟩ h9 F B a w hB (hi.glob_eq (X := { X with lp := lp }) (X' := X) rfl)
      obtain ⟨e', a', w', ⟨h13, h14⟩, h15⟩ := hrec fr kk cs
      exact ⟨e', a', w', ⟨h13, (h14.canon (hB ▸ h11)).glob_eq (X := X) (X' := { X with lp := lp }) rfl⟩, h15⟩⟩
end layer

/-! ### A law -/
theorem argA_sound {P : Program} {N : Nat} {L : List TypeId} (hL : dataTys P L = true) [F : Fr] {w W : World} {ρ : Locs} {M : Mut} {r : Reach} {base k : Nat} {t : TypeId} {cs : List D} {v : Value} (ht : L.contains t = true)
    (hf : ∃ f, Fits P N f t cs) (hv : Value.okWide P W r base t v) (hd : All2 (DR w M) cs v.cells.toList) : AR w ρ M (argA P k t cs) v := by
  obtain ⟨f, hf⟩ := hf
  have hlen := hf.length
  have e : (cs.drop 0).take (P.cellsOf t) = cs := by rw [List.drop_zero, List.take_of_length_le (by omega)]
  have ho := open_sound (w := w) (M := M) hL k f t cs 0 v.cells.toList ht (by rw [e]; exact hf) (by rw [e]; exact hd)
  have agg : ∀ xs : Array Value, v = .agg xs → AR w ρ M (.agg ((openD P k t cs 0).map C.d)) v := fun xs hx => by
    subst hx
    refine ⟨xs, rfl, ?_⟩
    simp only [Value.cells] at ho
    have : ∀ (l : List D) (vs : List Value), All2 (DR w M) l vs → All2 (CR w ρ M) (l.map C.d) vs := fun l vs h => by
      induction h with
      | nil => exact .nil
      | cons h _ ih => exact .cons h ih
    exact this _ _ ho
  have one : v.cells = #[v] → AR w ρ M (match openD P k t cs 0 with | [x] => .c (.d x) | _ => .any) v := fun h1 => by
    rw [h1] at ho
    split
    · rename_i x hx
      rw [hx] at ho
      cases ho with
      | cons h2 _ => exact h2
    · trivial
  have hty := dataTys_at hL ht
  unfold dataTy at hty
  unfold argA
  unfold Value.okWide at hv
  split at hty
  · rename_i hu; simp only [hu] at hv ⊢
    obtain ⟨b, rfl⟩ := okWide_bool hu (show Value.okWide P W r base t v by unfold Value.okWide; simp only [hu]; exact hv)
    exact one rfl
  · rename_i kk hu; simp only [hu] at hv ⊢
    obtain ⟨b, rfl⟩ := okWide_int hu (show Value.okWide P W r base t v by unfold Value.okWide; simp only [hu]; exact hv)
    exact one rfl
  · rename_i hu; simp only [hu] at hv ⊢
    obtain ⟨b, rfl⟩ := okWide_string hu (show Value.okWide P W r base t v by unfold Value.okWide; simp only [hu]; exact hv)
    exact one rfl
  · rename_i e hu; simp only [hu] at hv ⊢
    obtain ⟨b, l, c, rfl⟩ := okWide_slice hu (show Value.okWide P W r base t v by unfold Value.okWide; simp only [hu]; exact hv)
    exact one rfl
  · rename_i fs hu; simp only [hu] at hv ⊢
    obtain ⟨xs, h1, _⟩ := hv
    exact agg xs h1
  · rename_i n e hu; simp only [hu] at hv ⊢
    obtain ⟨xs, h1, _⟩ := hv
    exact agg xs h1
  · cases hty
theorem bound_arg {P : Program} {N : Nat} {L : List TypeId} (hL : dataTys P L = true) (k : Nat) {t : TypeId} {cs : List D} (ht : L.contains t = true) (hf : ∃ f, Fits P N f t cs) : boundD P N k t cs 0 := by
  obtain ⟨f, hf⟩ := hf
  refine bound_of_fits hL k f t cs 0 ht ?_
  rw [List.drop_zero, List.take_of_length_le (by rw [hf.length]; exact Nat.le_refl _)]
  exact hf
theorem callFunc_enter {P : Program} {g : FuncId} {fn : Func} (h1 : P.funcs[g]? = some fn) (h2 : (fn.name == "runtime.NumGoroutine") = false) (h3 : fn.body.isSome = true) (vs : Array Value) (w : World) :
    (callFunc g vs).run P w = .ok (.enter g vs) w := by
  have e3 : (program).run P w = .ok P w := rfl
  have e4 : fn.body.isNone = false := by cases hb : fn.body <;> simp_all
  unfold callFunc
  rw [Sem.run_bind, e3]
  simp only [Result.andThen_ok]
  rw [h1]
  simp only [h2, e4, Bool.false_eq_true, if_false, Sem.run_pure]
section law
variable {H : Type} {enc : TypeId × Value → H} {P : Program} {X : Ctx} {L : List TypeId}
abbrev noFr : Fr := ⟨fun _ _ => False⟩
theorem args_sound (hL : dataTys P L = true) {N : Nat} {S : DataW H → Prop} (hS : SmallP S N) {W : World} {base k : Nat} : ∀ (ts : List TypeId) (vs : List Value) (ds : List (DataW H)) (ps : List MemPlace),
    DataW.TrodAll enc P W 0 (fun _ => true) true ts vs ds ps → (∀ d, d ∈ ds → S d) → (∀ (j : Nat) t v, ts[j]? = some t → vs[j]? = some v → Value.okWide P W .any base t v) → (∀ t, t ∈ ts → L.contains t = true) →
    ∃ css, FitsAll P N ts css ∧ All2 (@AR noFr W (fun _ => none) (MuOf (fun _ => none) [])) (argsA P k ts css) vs
  | [], [], [], _, _, _, _, _ => ⟨[], trivial, .nil⟩
  | t :: ts, v :: vs, d :: ds, ps, h, hs, hok, ht => by
    obtain ⟨p, q, ⟨fuel, h1⟩, h2, _⟩ := h
    obtain ⟨css, h3, h4⟩ := args_sound hL hS (k := k) ts vs ds q h2 (fun d hd => hs d (by simp [hd])) (fun j t v hj hv => hok (j + 1) t v (by simpa using hj) (by simpa using hv)) fun t h => ht t (by simp [h])
    have hN : ∀ b o, @NM noFr (MuOf (fun _ => none) []) b o := fun b o => ⟨fun ⟨i, bk, l, h, _⟩ => by simp at h, fun h => h⟩
    obtain ⟨cs, h5, h6⟩ := @trod_fits H enc P W L N noFr _ S (fun _ => true) hS hL hN fuel t v.cells.toList (d, p) (ht t (by simp)) (hs d (by simp)) h1
    exact ⟨cs :: css, ⟨⟨fuel, h5⟩, h3⟩, .cons (@argA_sound P N L hL noFr W W _ _ _ _ _ _ _ _ (ht t (by simp)) ⟨fuel, h5⟩ (hok 0 t v rfl rfl) h6) h4⟩
  | [], _ :: _, _, _, h, _, _, _ => h.elim
  | [], [], _ :: _, _, h, _, _, _ => h.elim
  | _ :: _, [], _, _, h, _, _, _ => h.elim
  | _ :: _, _ :: _, [], _, h, _, _, _ => h.elim
theorem back_sound (hlo : laidOutB P = true) {W W' : World} (hb : Below W.heap.size W W') : ∀ (ts : List TypeId) (vs : List Value) (ds : List (DataW H)) (ps : List MemPlace),
    DataW.TrodAll enc P W 0 (fun _ => true) true ts vs ds ps → (∀ t, t ∈ ts → P.readableRec t = true ∧ t < P.types.size) →
    DataW.TrodAll enc P W' 0 (fun b => decide (b < W.heap.size)) true ts vs ds ps
  | [], [], [], _, h, _ => h
  | t :: ts, v :: vs, d :: ds, ps, h, ht => by
    obtain ⟨p, q, h1, h2, h3⟩ := h
    obtain ⟨k1, k2⟩ := ht t (by simp)
    refine ⟨p, q, Below.trod hlo k1 k2 h1 hb ?_, back_sound hlo hb ts vs ds q h2 fun t h => ht t (by simp [h]), h3⟩
    obtain ⟨fuel, h4⟩ := h1
    exact DataW.trod_lt fuel t _ _ h4
  | [], _ :: _, _, _, h, _ => h.elim
  | [], [], _ :: _, _, h, _ => h.elim
  | _ :: _, [], _, _, h, _ => h.elim
  | _ :: _, _ :: _, [], _, h, _ => h.elim
theorem law_calls (hX : Good P X) (hglob : ∀ g, X.glob g = none) {g : FuncId} {fn : Func} (hfn : P.funcs[g]? = some fn) (hname : (fn.name == "runtime.NumGoroutine") = false) (hbody : fn.body.isSome = true) {K : Nat} {args : List AV} {mem' : Mem} {b : Bool}
    (hrun : (callE X K g args []).run = some (.v (.bool b), mem')) {W : World} {vs : Array Value} (ha : All2 (@AR noFr W (fun _ => none) (MuOf (fun _ => none) [])) args vs.toList) :
    Calls P g vs W fun e W' => e = .returned (.bool b) ∧ Below W.heap.size W W' := by
  have h := hX.call hrun noFr W (fun _ => none) vs (@MemR.mk noFr _ _ _ (fun i b h => by simp at h) (fun i j bi bj li lj n h => by simp at h) (fun _ _ => rfl) (fun _ _ h => h.elim) (fun i b l n h => by simp at h)) (fun g cs hc => by rw [hglob] at hc; cases hc) ha
  unfold GoesTo at h
  rw [callFunc_enter hfn hname hbody] at h
  refine Calls.mono h fun e W' he => ?_
  cases e with
  | returned v =>
    obtain ⟨ρ', _, _, he, _, hr⟩ := he
    cases hr
    refine ⟨rfl, he.os, he.tape, he.output, he.size, fun k hk => he.obj k hk fun o ⟨i, b, l, h, _⟩ => by simp at h⟩
  | panicked => exact he.elim
  | outgrown => exact he.elim
/-- A law's contract, out of a run of the interpreter at every argument, put more openly. -/
theorem law_contract_le (hX : Good P X) (hglob : ∀ g, X.glob g = none) {g : FuncId} {fn : Func} (hfn : P.funcs[g]? = some fn) (hname : (fn.name == "runtime.NumGoroutine") = false) (hbody : fn.body.isSome = true)
    (hL : dataTys P L = true) (hlo : laidOutB P = true) (hps : fn.params.toList.all (fun t => L.contains t && P.readableRec t && decide (t < P.types.size)) = true)
    {tb : TypeId} (hres : fn.resultTypes = #[tb]) (htb : P.underlying tb = some .bool) {s : ChangeSpec} (hvars : s.vars = [])
    (hspec : ∀ ds : List (DataW H), ds.length = fn.params.size → s.fn H ds = { results := [.lit (.bool true)], args := ds }) {N : Nat} {S : DataW H → Prop} (hS : SmallP S N) (k : Nat)
    (hpure : ∀ css, FitsAll P N fn.params.toList css → ∃ args', (∀ (F : Fr) (w : World) (ρ : Locs) (M : Mut) (vs : List Value), All2 (@AR F w ρ M) (argsA P k fn.params.toList css) vs → All2 (@AR F w ρ M) args' vs) ∧ ∃ K mem', (callE X K g args' []).run = some (.v (.bool true), mem'))
    (W : World) (base : Nat) (args : Array Value) (ds gs : List (DataW H)) (before : List MemPlace)
    (hval : ∀ (j : Nat) t v, fn.params[j]? = some t → args[j]? = some v → Value.okWide P W .any base t v)
    (hW : DataW.Whole enc P fn.params.toList s.vars false W args.toList ds gs before) (hsm : ∀ d, d ∈ ds → S d) :
    Calls P g args W fun e W' => ∃ v, e = .returned v ∧ s.post enc P fn false true false false W args v W' := by
  have hW' := hW
  obtain ⟨p, q, hA, hV, rfl, hfz, hnd⟩ := hW
  rw [hvars] at hV
  have hgs : gs = [] ∧ q = [] := by
    cases gs with
    | nil => exact ⟨rfl, hV⟩
    | cons => exact hV.elim
  obtain ⟨rfl, rfl⟩ := hgs
  have hps' := List.all_eq_true.1 hps
  simp only [Bool.and_eq_true, decide_eq_true_eq] at hps'
  obtain ⟨css, h1, h2⟩ := args_sound hL hS (k := k) fn.params.toList args.toList ds p hA hsm (fun j t v hj hv => hval j t v (by simpa using hj) (by simpa using hv)) fun t ht => (hps' t ht).1.1
  obtain ⟨args', hle, K, mem', h3⟩ := hpure css h1
  have hlen : ds.length = fn.params.size := by
    have : ∀ (ts : List TypeId) (vs : List Value) (ds : List (DataW H)) ps, DataW.TrodAll enc P W 0 (fun _ => true) true ts vs ds ps → ds.length = ts.length := by
      intro ts
      induction ts with
      | nil => intro vs ds ps h; cases vs <;> cases ds <;> first | rfl | exact h.elim
      | cons t ts ih => intro vs ds ps h; cases vs <;> cases ds <;> first | exact h.elim | (obtain ⟨p, q, _, h, _⟩ := h; simp [ih _ _ _ h])
    simpa using this _ _ _ _ hA
  refine (law_calls hX hglob hfn hname hbody h3 (hle _ _ _ _ _ h2)).mono fun e W' ⟨he, hbel⟩ => ⟨_, he, ?_⟩
  have hsp := hspec ds hlen
  have hback := back_sound hlo hbel _ _ _ _ hA fun t ht => ⟨(hps' t ht).1.2, (hps' t ht).2⟩
  refine ⟨ds, [], p ++ [], [], p, [], hW', ?_, ?_, ?_, hbel.frame _, fun h => by cases h⟩
  · rw [hres, List.append_nil, hsp]
    exact ⟨[], [], ⟨1, by simp [DataW.trod, Value.cells, htb]⟩, rfl, rfl⟩
  · rw [List.append_nil, hsp]; exact hback
  · rw [hvars, List.append_nil, hsp]; rfl
/-- A law's contract, out of a run of the interpreter at every argument. -/
theorem law_contract (hX : Good P X) (hglob : ∀ g, X.glob g = none) {g : FuncId} {fn : Func} (hfn : P.funcs[g]? = some fn) (hname : (fn.name == "runtime.NumGoroutine") = false) (hbody : fn.body.isSome = true)
    (hL : dataTys P L = true) (hlo : laidOutB P = true) (hps : fn.params.toList.all (fun t => L.contains t && P.readableRec t && decide (t < P.types.size)) = true)
    {tb : TypeId} (hres : fn.resultTypes = #[tb]) (htb : P.underlying tb = some .bool) {s : ChangeSpec} (hvars : s.vars = [])
    (hspec : ∀ ds : List (DataW H), ds.length = fn.params.size → s.fn H ds = { results := [.lit (.bool true)], args := ds }) {N : Nat} {S : DataW H → Prop} (hS : SmallP S N) (k : Nat)
    (hpure : ∀ css, FitsAll P N fn.params.toList css → ∃ K mem', (callE X K g (argsA P k fn.params.toList css) []).run = some (.v (.bool true), mem'))
    (W : World) (base : Nat) (args : Array Value) (ds gs : List (DataW H)) (before : List MemPlace)
    (hval : ∀ (j : Nat) t v, fn.params[j]? = some t → args[j]? = some v → Value.okWide P W .any base t v)
    (hW : DataW.Whole enc P fn.params.toList s.vars false W args.toList ds gs before) (hsm : ∀ d, d ∈ ds → S d) :
    Calls P g args W fun e W' => ∃ v, e = .returned v ∧ s.post enc P fn false true false false W args v W' := by
  exact law_contract_le hX hglob hfn hname hbody hL hlo hps hres htb hvars hspec hS k (fun css h => ⟨_, fun _ _ _ _ _ h => h, hpure css h⟩) W base args ds gs before hval hW hsm
end law
end Go.Sx

/- A plain interpreter of the model's code over values without addresses: the tables of a program. -/
namespace Go.Sx
def tiOf (P : Program) (bad np : List TypeId) (t : TypeId) : Option TI := if bad.contains t then none else match P.types.toList[t]? with
  | some i => match i.zero with
    | some z => some { size := i.size, bytes := i.bytes, agg := (match P.underlying t with
        | some d => isAggD d
        | none => false), zero := z.cells.toList, desc := i.desc, plain := !np.contains t }
    | none => none
  | none => none
/-- The interpreter's tables, nothing told. -/
def X0 (P : Program) (bad np : List TypeId) : Ctx := { ti := tiOf P bad np, fn := fun g => P.funcs.toList[g]?, glob := fun _ => none, prim := fun _ _ => none, keep := fun _ _ => none, mprim := fun _ _ _ => none, arrs := fun _ _ => 0, lp := fun _ _ _ => none }
def tyGood (P : Program) (bad np : List TypeId) (t : TypeId) : Bool := bad.contains t || match P.types.toList[t]? with
  | some i => match i.zero, P.underlying t with
    | some z, some d => (match z with
        | .agg c => isAggD d && c.size == i.size
        | .tuple _ => false
        | _ => !isAggD d && i.size == 1) && (np.contains t || (!P.stoodInHeld t && !P.eqGuardType P.depth t))
    | none, _ => true
    | _, none => false
  | none => true
def tysGood (P : Program) (bad np : List TypeId) : Bool := (List.range P.types.size).all (tyGood P bad np)
def fnsGood (P : Program) : Bool := P.funcs.toList.all fun f => !(f.name == "runtime.NumGoroutine")
theorem start_good {P : Program} {bad np : List TypeId} (h1 : tysGood P bad np = true) (h2 : fnsGood P = true) (h3 : P.follows .mixedOrders = true) : Good P (X0 P bad np) where
  ok := ⟨fun t i h => (by
    have ht : t < P.types.size ∨ ¬ t < P.types.size := Nat.lt_or_ge _ _ |>.imp id Nat.not_lt.2
    simp only [X0, tiOf] at h
    split at h
    · cases h
    rename_i hbad
    split at h
    · rename_i f hf
      have hlt : t < P.types.size := by have := (List.getElem?_eq_some_iff.1 hf).1; simpa using this
      have hg := List.all_eq_true.1 h1 t (by simpa using hlt)
      unfold tyGood at hg
      rw [Bool.or_eq_true, or_iff_right hbad] at hg
      simp only [hf] at hg
      split at h
      · rename_i z hz
        injection h with h; subst h
        simp only [hz] at hg
        split at hg
        · rename_i z' d hz' hd
          injection hz' with hz'; subst hz'
          simp only [Bool.and_eq_true, Bool.or_eq_true, Bool.not_eq_true'] at hg
          obtain ⟨hg1, hg2⟩ := hg
          have hinfo : P.info? t = some f := by
            rw [Array.getElem?_toList] at hf
            unfold Tables.info?
            rw [if_pos hlt]; exact hf
          refine ⟨⟨f, hinfo, rfl, rfl, rfl, z, hz, rfl, ?_⟩, ⟨d, hd, by simp [hd]⟩, ?_, fun hp => ?_⟩
          · simp only [hd]
            split at hg1
            · rename_i c
              simp only [Bool.and_eq_true] at hg1
              rw [if_pos hg1.1]
              exact ⟨c, rfl⟩
            · cases hg1
            · rename_i hna _
              simp only [Bool.and_eq_true, Bool.not_eq_true'] at hg1
              rw [if_neg (by simp [hg1.1])]
              cases z <;> first | rfl | exact absurd rfl (hna _)
          · show z.cells.toList.length = f.size
            split at hg1
            · simp only [Bool.and_eq_true, beq_iff_eq] at hg1
              simpa [Value.cells] using hg1.2
            · cases hg1
            · rename_i hna _
              simp only [Bool.and_eq_true, beq_iff_eq] at hg1
              rw [hg1.2]
              cases z <;> first | rfl | exact absurd rfl (hna _)
          · simp only [Bool.not_eq_true'] at hp
            rcases hg2 with h5 | h5
            · rw [h5] at hp; cases hp
            · exact h5
        · rename_i hz'; cases hz'
        · cases hg
      · cases h
    · cases h), h3⟩
  prims := ⟨fun _ _ _ h => (by simp [X0] at h), fun _ _ _ _ _ _ h => (by simp [X0] at h)⟩
  fns := ⟨fun g f h => by simpa [X0] using h, fun g f h => by
    have := List.all_eq_true.1 h2 f (List.mem_of_getElem? (i := g) (by simpa [X0] using h))
    simpa using this, fun g f c _ _ => AllLoops.of (fun b m fn s r h => by simp [X0] at h) c⟩
end Go.Sx

/- A plain interpreter of the model's code over values without addresses: the same interpreter, laid out so that the kernel runs it fast. -/
namespace Go.Sx

/-! ### Lists with an open spine -/
noncomputable def spineK {α β : Type} (l : List α) : (List α → β) → β :=
  List.rec (motive := fun _ => (List α → β) → β) (fun k => k []) (fun a _ ih k => ih fun l' => k (a :: l')) l
theorem spineK_eq {α β : Type} : ∀ (l : List α) (k : List α → β), spineK l k = k l
  | [], _ => rfl
  | a :: l, k => spineK_eq l fun l' => k (a :: l')
noncomputable def setK {α β : Type} (l : List α) : Nat → α → (List α → β) → β :=
  List.rec (motive := fun _ => Nat → α → (List α → β) → β) (fun _ _ k => k [])
    (fun a l ih n => Nat.rec (motive := fun _ => α → (List α → β) → β) (fun v k => k (v :: l)) (fun n _ v k => ih n v fun l' => k (a :: l')) n) l
theorem setK_eq {α β : Type} : ∀ (l : List α) (n : Nat) (v : α) (k : List α → β), setK l n v k = k (l.set n v)
  | [], _, _, _ => rfl
  | _ :: _, 0, _, _ => rfl
  | a :: l, n + 1, v, k => setK_eq l n v fun l' => k (a :: l')
noncomputable def nthA (l : Env) : Nat → AV :=
  List.rec (motive := fun _ => Nat → AV) (fun _ => .undef) (fun a _ ih n => Nat.rec (motive := fun _ => AV) a (fun n _ => ih n) n) l
theorem nthA_eq : ∀ (l : Env) (n : Nat), nthA l n = l.getD n .undef
  | [], _ => rfl
  | _ :: _, 0 => rfl
  | _ :: l, n + 1 => nthA_eq l n
noncomputable def nthO {α : Type} (l : List α) : Nat → Option α :=
  List.rec (motive := fun _ => Nat → Option α) (fun _ => none) (fun a _ ih n => Nat.rec (motive := fun _ => Option α) (some a) (fun n _ => ih n) n) l
theorem nthO_eq {α : Type} : ∀ (l : List α) (n : Nat), nthO l n = l[n]?
  | [], _ => rfl
  | _ :: _, 0 => rfl
  | _ :: l, n + 1 => nthO_eq l n
noncomputable def T.bindF {α β : Type} (x : T α) (f : α → T β) : T β :=
  T.rec (motive := fun _ => T β) f .fail (fun b _ _ t e => .ite b t e) x
theorem T.bindF_eq {α β : Type} (x : T α) (f : α → T β) : x.bindF f = x.bind f := by
  induction x with
  | ret a => rfl
  | fail => rfl
  | ite b t e iht ihe =>
    show T.ite b (t.bindF f) (e.bindF f) = T.ite b (t.bind f) (e.bind f)
    rw [iht, ihe]
/-- A value, its outer form open. -/
noncomputable def forceA {β : Type} (v : AV) (k : AV → β) : β := match v with
  | .c (.s (.d x)) => k (.c (.s (.d x)))
  | .c (.s .any) => k (.c (.s .any))
  | .c (.s (.ptr a b)) => k (.c (.s (.ptr a b)))
  | .c (.s (.eptr a b c)) => k (.c (.s (.eptr a b c)))
  | .c (.s x) => k (.c (.s x))
  | .c x => k (.c x)
  | .agg cs => spineK cs fun cs => k (.agg cs)
  | .tup vs => spineK vs fun vs => k (.tup vs)
theorem forceA_eq {β : Type} (v : AV) (k : AV → β) : forceA v k = k v := by
  unfold forceA
  split <;> first | rfl | exact spineK_eq _ _
noncomputable def putK {β : Type} (env : Env) (dst : Option Tmp) (v : AV) (k : Env → β) : β := match dst with
  | some t => forceA v fun v => setK env t v k
  | none => k env
theorem putK_eq {β : Type} (env : Env) (dst : Option Tmp) (v : AV) (k : Env → β) : putK env dst v k = k (setE env dst v) := by
  cases dst with
  | none => rfl
  | some t => simp only [putK, forceA_eq, setK_eq]; rfl
noncomputable def updsK {β : Type} (mem : Mem) : List (Nat × Blk) → (Mem → β) → β
  | [], k => k mem
  | (i, b) :: l, k => setK mem i b fun mem => updsK mem l k
theorem updsK_eq {β : Type} : ∀ (l : List (Nat × Blk)) (mem : Mem) (k : Mem → β), updsK mem l k = k (upds mem l)
  | [], _, _ => rfl
  | (i, b) :: l, mem, k => by simp only [updsK, setK_eq, updsK_eq l]; rfl
noncomputable def newK {β : Type} (mem : Mem) (new : List Blk) (k : Mem → β) : β := match new with
  | [] => k mem
  | b :: l => spineK (mem ++ b :: l) k
theorem newK_eq {β : Type} (mem : Mem) (new : List Blk) (k : Mem → β) : newK mem new k = k (mem ++ new) := by
  cases new with
  | nil => simp [newK]
  | cons b l => exact spineK_eq _ _
noncomputable def layK {β : Type} (mem : Mem) (fresh : Nat) : List Blk → (Mem → β) → β
  | [], k => k mem
  | b :: l, k => setK mem fresh b fun mem => layK mem (fresh + 1) l k
theorem layK_eq {β : Type} : ∀ (l : List Blk) (mem : Mem) (n : Nat) (k : Mem → β), layK mem n l k = k (lay mem n l)
  | [], _, _, _ => rfl
  | b :: l, mem, n, k => by simp only [layK, setK_eq, layK_eq l]; rfl

/-! ### Operations, each for itself -/
noncomputable def evalF (X : Ctx) (env : Env) : Operand → AV
  | .tmp t => nthA env t
  | .const v => match v with
    | .agg cs => .agg (cs.toList.map fun x => .s (.d (.c x)))
    | .tuple _ => .any
    | x => .v x
  | .global g => match X.glob g with
    | some cs => .s (.rptr cs)
    | none => .any
  | .func f => .c (.f (.func f) [] [])
theorem evalF_eq (X : Ctx) (env : Env) : evalF X env = evalO X env := by
  funext x
  cases x with
  | tmp t => exact nthA_eq env t
  | _ => rfl
abbrev Rho := Operand → AV
def gPick (c a b : AV) : T OR := match boolOf c with
  | some v => .ite v (.ret { r := a }) (.ret { r := b })
  | none => .fail
def gAlloc (X : Ctx) (e : TypeId) (fresh : Nat) : T OR := match X.ti e with
  | some i => .ret { r := .s (.ptr fresh 0), new := [.cells (i.zero.map fun v => .d (.c v)) (some e)] }
  | none => .fail
def gBox (x : AV) (fresh : Nat) : T OR := match x.cells with
  | some cs => if solid cs then .ret { r := .s (.ptr fresh 0), new := [.cells cs] } else .fail
  | none => .fail
def gBuild (X : Ctx) (t : TypeId) (ps : List (Nat × AV)) : T OR := match X.ti t, under X t with
  | some i, some (.struct fs) => if !(fs.toList.all fun f => (X.ti f.type).isSome) then .fail else match fillA (structPlace X fs) (i.zero.map fun v => .d (.c v)) ps with
    | some cs => .ret { r := .agg cs }
    | none => .fail
  | some i, some (.array _ e) => match X.ti e with
    | some j => match fillA (fun i => some (i * j.size, j.size)) (i.zero.map fun v => .d (.c v)) ps with
      | some cs => .ret { r := .agg cs }
      | none => .fail
    | none => .fail
  | _, _ => .fail
def gBuildSlice (X : Ctx) (arr : Nat) (t : TypeId) (len : Nat) (ps : List (Nat × AV)) (mem : Mem) (fresh : Nat) : T OR := match under X t with
  | some (.slice e) => match X.ti e with
    | some j => if j.size == 0 || len * j.size > 16777216 then .fail else
      match fillA (fun i => some (i * j.size, j.size)) ((List.replicate len j.zero).flatten.map fun v => .d (.c v)) ps with
      | some cs => if arr == 2 then .ret { r := .s (.as fresh), new := [.arr j.size (chunk j.size len cs)] } else
        match allD mem cs with
        | some (ds, us) => .ret (if arr == 1 then { r := .s (.as fresh), upd := us, new := [.arrD j.size (chunk j.size len ds)] }
            else { r := .s (.gs fresh), upd := us, new := [.grow j.size (chunk j.size len ds)] })
        | none => .fail
      | none => .fail
    | none => .fail
  | _ => .fail
def gLoad (X : Ctx) (t : TypeId) (a : AV) (mem : Mem) : T OR := match X.ti t with
  | some i => match loadA i a mem with
    | some v => .ret { r := v }
    | none => .fail
  | none => .fail
def gStore (X : Ctx) (t : TypeId) (a x : AV) (mem : Mem) : T OR := match X.ti t with
  | some i => (storeT i a x mem).bind fun upd => .ret { r := .undef, upd }
  | none => .fail
def gNil (x : AV) : T OR := match x with
  | .c (.s (.ptr id off)) => .ret { r := .s (.ptr id off) }
  | .c (.s (.eptr id row off)) => .ret { r := .s (.eptr id row off) }
  | .c (.s (.rptr cs)) => .ret { r := .s (.rptr cs) }
  | .c (.f (.func g) a b) => .ret { r := .c (.f (.func g) a b) }
  | _ => .fail
def gIface (X : Ctx) (t : TypeId) (x : AV) : T OR := match x with
  | .c (.s y) => match under X t with
    | some (.interface _) | none => .fail
    | some _ => .ret { r := .c (.ifc t y) }
  | _ => .fail
def gFunc (fn : Fn) (a b : List AV) : T OR := match sList a, sList b with
  | some a, some b => .ret { r := .c (.f fn a b) }
  | _, _ => .fail
def gMap (r : Bool) (fresh : Nat) : T OR := if r then .fail else .ret { r := .s (.map fresh), new := [.map []] }
def gMakeSlice (X : Ctx) (t : TypeId) (l c : AV) (fresh : Nat) : T OR := match under X t, intOf l, intOf c with
  | some (.slice e), some (_, n), some (_, m) => match X.ti e with
    | some j => if j.size == 0 then .fail else
      .guard (decide (0 ≤ n) && decide (n ≤ m) && decide (m.toNat * (j.bytes + 1) ≤ lim)) (
        if n = 0 then .ret { r := .s (.gs fresh), new := [.grow j.size []] }
        else if n = m then .ret { r := .s (.ms fresh 0 n.toNat), new := [.cells ((List.replicate n.toNat j.zero).flatten.map fun v => .d (.c v))] }
        else .fail)
    | none => .fail
  | _, _, _ => .fail
def gField (X : Ctx) (t : TypeId) (x : AV) (f : Nat) : T OR := match under X t with
  | some (.struct fs) => match fs.toList[f]? with
    | some fd => match X.ti fd.type, x with
      | some j, .agg cs => match readPart j cs fd.offset with
        | some v => .ret { r := v }
        | none => .fail
      | _, _ => .fail
    | none => .fail
  | _ => .fail
def gIndex (X : Ctx) (t : TypeId) (x ix : AV) : T OR := match intOf ix, under X t, x with
  | some (_, i), some (.array n e), .agg cs => match X.ti e with
    | some j => .guard (inRange i n) (match readPart j cs (i.toNat * j.size) with
      | some v => .ret { r := v }
      | none => .fail)
    | none => .fail
  | some (_, i), some .string, .c (.s (.d (.c (.string s)))) => .guard (inRange i s.size) (.ret { r := .v (.int .u8 (s.data.getD i.toNat 0).toNat) })
  | _, _, _ => .fail
def gLookup (X : Ctx) (t : TypeId) (x ix : AV) (ok : Bool) (mem : Mem) : T OR := match under X t with
  | some (.map kt e) => match under X kt, X.ti e, mapOf x mem, atomAV ix with
    | some kd, some j, some es, some k => if keyFits kd k then (findA k es).bind fun r =>
        let (v, b) := match r with
          | some v => (v, true)
          | none => (zeroAV j, false)
        if ok then match v.tv with
          | some tv => .ret { r := .tup [tv, .c (.d (.c (.bool b)))] }
          | none => .fail
        else .ret { r := v }
      else .fail
    | _, _, _, _ => .fail
  | _ => .fail
def gInsert (X : Ctx) (t : TypeId) (m : AV) (k : Operand) (x : AV) (mem : Mem) : T OR := match under X t with
  | some (.map kt _) => match under X kt, m, k with
    | some kd, .c (.s (.map id)), .const k => if keyFits kd k && solidAV x then match mem[id]? with
        | some (.map es) => if freshKey k es then .ret { r := .undef, upd := [(id, .map (insS k x es))] } else .fail
        | _ => .fail
      else .fail
    | _, _, _ => .fail
  | _ => .fail
def gUpdate (X : Ctx) (t : TypeId) (m k x : AV) (mem : Mem) : T OR := match under X t with
  | some (.map kt _) => match under X kt, m, atomAV k with
    | some kd, .c (.s (.map id)), some k => if keyFits kd k && solidAV x then match mem[id]? with
        | some (.map es) => (setA k x es).bind fun es' => .ret { r := .undef, upd := [(id, .map es')] }
        | _ => .fail
      else .fail
    | _, _, _ => .fail
  | _ => .fail
def gRange (X : Ctx) (t : TypeId) (x : AV) (fresh : Nat) : T OR := match under X t, x with
  | some .string, .c (.s (.d (.c (.string s)))) => .ret { r := .s (.it fresh), new := [.sit s 0] }
  | _, _ => .fail
def gNext (it : AV) (mem : Mem) : T OR := match it with
  | .c (.s (.it id)) => match mem[id]? with
    | some (.sit s pos) => .ite (decide (pos < s.size))
        (.ret { r := .tup [.c (.d (.c (.bool true))), .c (.d (.c (.int .i64 pos))), .c (.d (.c (.int .i32 (Utf8.decode s pos).1)))], upd := [(id, .sit s (pos + (Utf8.decode s pos).2))] })
        (.ret { r := .tup [.c (.d (.c (.bool false)))] })
    | _ => .fail
  | _ => .fail
def gExtract (t : AV) (i : Nat) : T OR := match t with
  | .tup vs => match vs[i]? with
    | some v => .ret { r := v.av }
    | none => .fail
  | _ => .fail
def gBuiltin (X : Ctx) (arr : Nat) (b : Builtin) (ts : Array TypeId) (args : List AV) (mem : Mem) (fresh : Nat) : T OR := match b, args with
  | .len, [x] => match ts.toList[0]? with
    | some t => opLen X t x mem
    | none => .fail
  | .append, [s, x] => opAppend X arr ts s x mem fresh
  | .unsafeSliceData, [x] => opUData x mem
  | .unsafeString, [p, n] => opUString X ts p n mem
  | .min, a :: rest => match minmaxA false a rest with
    | some v => .ret { r := v }
    | none => .fail
  | .max, a :: rest => match minmaxA true a rest with
    | some v => .ret { r := v }
    | none => .fail
  | _, _ => .fail
def gCall (X : Ctx) (K : CallSem) (f : AV) (args : List AV) (mem : Mem) (fresh : Nat) : T OR := match f with
  | .c (.f (.func g) first captured) => callA X K g (first.map AV.s ++ args ++ captured.map AV.s) mem fresh
  | _ => .fail
def opIndexAddrF (X : Ctx) (t : TypeId) (x ix : AV) (mem : Mem) : T OR :=
  match intOf ix with
  | none => .fail
  | some (_, i) =>
    match under X t, x with
    | some (.array n e), .c (.s (.ptr id off)) => match X.ti e with
      | some j => .guard (inRange i n) (.ret { r := .s (.ptr id (off + i.toNat * j.size)) })
      | none => .fail
    | some (.array n e), .c (.s (.rptr cs)) => match X.ti e with
      | some j => .guard (inRange i n) (.ret { r := .s (.rptr (cs.drop (i.toNat * j.size))) })
      | none => .fail
    | some (.slice e), .c (.s a) => match X.ti e with
      | none => .fail
      | some j => match a with
        | .ms id off n => .guard (inRange i n) (.ret { r := .s (.ptr id (off + i.toNat * j.size)) })
        | a => match isArr a mem with
          | some (id, sz, n) => if sz = j.size then .guard (inRange i n) (.ret { r := .s (.eptr id i.toNat 0) }) else .fail
          | none => match sliceRow a mem with
            | some (sz, n, row) => if sz = j.size ∨ n = 0 then .guard (inRange i n) (.ret { r := .s (.rptr (row i.toNat)) }) else .fail
            | none => .fail
    | _, _ => .fail

def opSliceF (X : Ctx) (arr : Nat) (t : TypeId) (x : AV) (lo hi mx : Option AV) (mem : Mem) (fresh : Nat) : T OR :=
  if mx.isSome then .fail else
  match under X t, x with
  | some .string, .c (.s (.d (.c (.string s)))) => (boundsA s.size lo hi).bind fun (l, h) => .ret { r := .v (.string (s.extract l h)) }
  | some (.slice e), .c (.s a) => match X.ti e with
    | none => .fail
    | some j => match a with
      | .ms id off n => (boundsA n lo hi).bind fun (l, h) => .ret { r := .s (.ms id (off + l * j.size) (h - l)) }
      | a => match isArr a mem with
        | some (id, sz, n) => if arr == 0 ∨ sz ≠ j.size then .fail else (boundsA n lo hi).bind fun (l, h) => .guard (l == 0) (match mem[id]? with
          | some (.arr sz rows) => .ret { r := .s (.as fresh), upd := [(id, .dead)], new := [.arr sz (rows.take h)] }
          | some (.arrD sz rows _) => .ret { r := .s (.as fresh), upd := [(id, .dead)], new := [.arrD sz (rows.take h)] }
          | _ => .fail)
        | none => match sliceRow a mem with
          | some (sz, n, row) => if sz = j.size ∨ n = 0 then (boundsA n lo hi).bind fun (l, h) => .ret { r := .s (.d (subD l h n row j.size)) } else .fail
          | none => .fail
  | some (.array n e), x => match X.ti e with
    | none => .fail
    | some j => match x with
      | .c (.s (.ptr id off)) => (boundsA n lo hi).bind fun (l, h) => .ret { r := .s (.ms id (off + l * j.size) (h - l)) }
      | .c (.s (.rptr cs)) => if n * j.size ≤ cs.length then (boundsA n lo hi).bind fun (l, h) => .ret { r := .s (.d (.fs j.size (h - l) fun i => (cs.drop ((l + i) * j.size)).take j.size)) } else .fail
      | _ => .fail
  | _, _ => .fail

def opConvertF (X : Ctx) (src dst : TypeId) (x : AV) (mem : Mem) (fresh : Nat) : T OR :=
  match under X src, under X dst, x with
  | some _, some (.int k), .c (.s (.d (.c (.int _ n)))) => .ret { r := .v (.int k (k.wrap n)) }
  | some (.int _), some .string, .c (.s (.d (.c (.int _ n)))) => .ret { r := .v (.string (Utf8.encode n)) }
  | some .string, some .string, .c (.s (.d (.c (.string s)))) => .ret { r := .v (.string s) }
  | some .string, some (.slice e), .c (.s (.d (.c (.string s)))) => match under X e with
    | some (.int .u8) => .ret { r := .s (.d (.fs 1 s.size fun i => [.c (.int .u8 (s.data.getD i 0).toNat)])) }
    | _ => .fail
  | some (.slice e), some .string, .c (.s a) => match under X e, X.ti e with
    | some (.int .u8), some j => if j.size = 1 then match a with
      | .ms id off n => match mem[id]? with
        | some (.cells cs _) => if off + n ≤ cs.length then match numsOfCells ((cs.drop off).take n) with
            | some xs => .ret { r := .v (.string (strNums xs)) }
            | none => .fail
          else .fail
        | _ => .fail
      | a => match sliceRow a mem with
        | some (sz, n, row) => if sz = 1 ∨ n = 0 then match numsOf ((List.range n).map row) with
          | some xs => .ret { r := .v (.string (strNums xs)) }
          | none => .fail
          else .fail
        | none => .fail
      else .fail
    | _, _ => .fail
  | some (.pointer e), some .unsafePointer, .c (.s (.ptr id off)) => match X.ti e, mem[id]? with
    | some j, some (.cells cs _) => if j.size ≠ 0 ∧ off < cs.length then .ret { r := .s (.ptr id off) } else .fail
    | _, _ => .fail
  | some .unsafePointer, some (.pointer u), .c (.s (.ptr id off)) => match X.ti u, mem[id]? with
    | some j, some (.cells cs (some t)) => if t = u ∧ off = 0 ∧ j.size ≠ 0 ∧ cs.length = j.size then .ret { r := .s (.ptr id off) } else .fail
    | _, _ => .fail
  | _, _, _ => .fail

theorem opIndexAddrF_eq (X : Ctx) (t : TypeId) (x ix : AV) (mem : Mem) : opIndexAddrF X t x ix mem = opIndexAddr X t x ix mem := by
  have e : ∀ (n sz s : Nat), (sz = s ∨ n = 0) = (n = 0 ∨ sz = s) := fun n sz s => propext Or.comm
  unfold opIndexAddrF opIndexAddr
  simp only [e]
  rfl
theorem opSliceF_eq (X : Ctx) (arr : Nat) (t : TypeId) (x : AV) (lo hi mx : Option AV) (mem : Mem) (fresh : Nat) : opSliceF X arr t x lo hi mx mem fresh = opSlice X arr t x lo hi mx mem fresh := by
  have e : ∀ (n sz s : Nat), (sz = s ∨ n = 0) = (n = 0 ∨ sz = s) := fun n sz s => propext Or.comm
  unfold opSliceF opSlice
  simp only [e]
  rfl
theorem opConvertF_eq (X : Ctx) (src dst : TypeId) (x : AV) (mem : Mem) (fresh : Nat) : opConvertF X src dst x mem fresh = opConvert X src dst x mem fresh := by
  have e : ∀ (n sz : Nat), (sz = 1 ∨ n = 0) = (n = 0 ∨ sz = 1) := fun n sz => propext Or.comm
  unfold opConvertF opConvert
  simp only [e]
  rfl
def gArr (X : Ctx) (fid : FuncId) (dst : Option Tmp) : Nat := match dst with
  | some t => X.arrs fid t
  | none => 0
noncomputable def opSemG (X : Ctx) (K : CallSem) (fid : FuncId) (dst : Option Tmp) (ρ : Rho) (mem : Mem) (fresh : Nat) (op : Op) : T OR :=
  match op with
  | .move x | .assign x => .ret { r := ρ x }
  | .pick c a b => gPick (ρ c) (ρ a) (ρ b)
  | .alloc e => gAlloc X e fresh
  | .box _ x => gBox (ρ x) fresh
  | .build t parts => gBuild X t (parts.toList.map fun p => (p.1, ρ p.2))
  | .buildSlice t len parts => gBuildSlice X (gArr X fid dst) t len (parts.toList.map fun p => (p.1, ρ p.2)) mem fresh
  | .load t a => gLoad X t (ρ a) mem
  | .store t a x => gStore X t (ρ a) (ρ x) mem
  | .nilCheck x => gNil (ρ x)
  | .binOp op t x y _ => opBin X op t (isConstO x || isConstO y) (ρ x) (ρ y) mem
  | .unOp op _ x => opUn op (ρ x)
  | .convert s d x => opConvertF X s d (ρ x) mem fresh
  | .makeInterface t x => gIface X t (ρ x)
  | .makeFunc fn first captured => gFunc fn (first.toList.map ρ) (captured.toList.map ρ)
  | .makeMap _ r => gMap r.isSome fresh
  | .makeSlice t l c => gMakeSlice X t (ρ l) (ρ c) fresh
  | .slice t x lo hi mx => opSliceF X (gArr X fid dst) t (ρ x) (lo.map ρ) (hi.map ρ) (mx.map ρ) mem fresh
  | .fieldAddr t x f => opFieldAddr X t (ρ x) f
  | .field t x f => gField X t (ρ x) f
  | .indexAddr t x ix => opIndexAddrF X t (ρ x) (ρ ix) mem
  | .index t x ix => gIndex X t (ρ x) (ρ ix)
  | .lookup t x ix ok => gLookup X t (ρ x) (ρ ix) ok mem
  | .insert t m k x => gInsert X t (ρ m) k (ρ x) mem
  | .mapUpdate t m k x => gUpdate X t (ρ m) (ρ k) (ρ x) mem
  | .range t x => gRange X t (ρ x) fresh
  | .next it b => if b then gNext (ρ it) mem else .fail
  | .extract t i => gExtract (ρ t) i
  | .call c => match c.callee with
    | .builtin b => gBuiltin X (gArr X fid dst) b c.argTypes (c.args.toList.map ρ) mem fresh
    | .value f => gCall X K (ρ f) (c.args.toList.map ρ) mem fresh
    | .invoke .. => .fail
  | _ => .fail
noncomputable def opSemF (X : Ctx) (K : CallSem) (fid : FuncId) (o : Oper) (env : Env) (mem : Mem) (fresh : Nat) : T OR := opSemG X K fid o.dst (evalF X env) mem fresh o.op
theorem opSemF_eq (X : Ctx) (K : CallSem) (fid : FuncId) (o : Oper) (env : Env) (mem : Mem) (fresh : Nat) : opSemF X K fid o env mem fresh = opSem X K fid o env mem fresh := by
  unfold opSemF
  rw [evalF_eq]
  unfold opSemG opSem
  simp only [opIndexAddrF_eq, opSliceF_eq, opConvertF_eq]
  cases o.op with
  | next it b => cases b <;> rfl
  | call c =>
    simp only
    cases c.callee <;> rfl
  | _ => rfl

/-! ### Regions -/
noncomputable def guardF (ops : List Oper) (o : Oper) (env : Env) {α : Type} (yes no : Env → T α) : T α :=
  match o.guard with
  | none => yes env
  | some (j, want) => match opDst ops j with
    | none => .fail
    | some t => match nthO env t with
      | some (.tup _) => no env
      | some v => match boolOf v with
        | some b => .ite b (setK env t (.v (.bool true)) fun env => if want then yes env else no env)
            (setK env t (.v (.bool false)) fun env => if want then no env else yes env)
        | none => .fail
      | none => .fail
theorem guardF_eq (ops : List Oper) (o : Oper) (env : Env) {α : Type} (yes no : Env → T α) : guardF ops o env yes no = guarded ops o env yes no := by
  unfold guardF guarded
  simp only [T.bindF_eq, setK_eq, nthO_eq]
  rfl
noncomputable def evOpsF (X : Ctx) (K : CallSem) (fid : FuncId) (ops : List Oper) : List Oper → Env → Mem → T St
  | [], env, mem => .ret ⟨env, mem⟩
  | o :: rest, env, mem => guardF ops o env
      (fun env => (opSemF X K fid o env mem mem.length).bindF fun r =>
        putK env o.dst r.r fun env => updsK mem r.upd fun mem => newK mem r.new fun mem => evOpsF X K fid ops rest env mem)
      (fun env => putK env o.dst .undef fun env => evOpsF X K fid ops rest env mem)
theorem evOpsF_eq (X : Ctx) (K : CallSem) (fid : FuncId) (ops : List Oper) : ∀ (l : List Oper) (env : Env) (mem : Mem), evOpsF X K fid ops l env mem = evOps X K fid ops l ⟨env, mem⟩
  | [], _, _ => rfl
  | o :: rest, env, mem => by
    simp only [T.bindF_eq, evOpsF, evOps, guardF_eq, opSemF_eq, putK_eq, updsK_eq, newK_eq, evOpsF_eq X K fid ops rest]
noncomputable def evDrawF (X : Ctx) (K : CallSem) (fid : FuncId) (ops : List Oper) : List Oper → (i fresh : Nat) → Env → Mem → List Tr → T (St × List Tr)
  | [], _, _, env, mem, tr => .ret (⟨env, mem⟩, tr)
  | o :: rest, i, fresh, env, mem, tr => guardF ops o env
      (fun env => (opSemF X K fid o env mem (slotOf o mem fresh)).bindF fun r =>
        match opReads X o env mem with
        | some rd => if r.new.length ≤ allocW o.op then
          putK env o.dst r.r fun env' => updsK mem r.upd fun mem' => layK mem' (slotOf o mem fresh) r.new fun mem' =>
            evDrawF X K fid ops rest (i + 1) (fresh + allocW o.op) env' mem' (⟨i, rd, r.upd.map (·.1) ++ (List.range r.new.length).map (slotOf o mem fresh + ·)⟩ :: tr)
          else .fail
        | none => .fail)
      (fun env => putK env o.dst .undef fun env => evDrawF X K fid ops rest (i + 1) (fresh + allocW o.op) env mem (⟨i, [], []⟩ :: tr))
theorem evDrawF_eq (X : Ctx) (K : CallSem) (fid : FuncId) (ops : List Oper) : ∀ (l : List Oper) (i fresh : Nat) (env : Env) (mem : Mem) (tr : List Tr), evDrawF X K fid ops l i fresh env mem tr = evDraw X K fid ops l i fresh ⟨env, mem⟩ tr
  | [], _, _, _, _, _ => rfl
  | o :: rest, i, fresh, env, mem, tr => by
    simp only [T.bindF_eq, evDrawF, evDraw, guardF_eq, opSemF_eq, putK_eq, updsK_eq, layK_eq, evDrawF_eq X K fid ops rest]
    rfl
noncomputable def evRegionF (X : Ctx) (K : CallSem) (fid : FuncId) (ops : List Oper) (draw : Bool) (s : St) : T St :=
  if draw then
    spineK (s.mem ++ List.replicate (ops.map fun o => allocW o.op).sum .dead) fun mem =>
    (evDrawF X K fid ops ops 0 s.mem.length s.env mem []).bindF fun r =>
      if drawOk ops r.2 then .ret r.1 else .fail
  else evOpsF X K fid ops ops s.env s.mem
theorem evRegionF_eq (X : Ctx) (K : CallSem) (fid : FuncId) (ops : List Oper) (draw : Bool) (s : St) : evRegionF X K fid ops draw s = evRegion X K fid ops draw s := by
  unfold evRegionF evRegion
  simp only [T.bindF_eq, spineK_eq, evDrawF_eq, evOpsF_eq]
noncomputable def evAnyF (X : Ctx) (K : CallSem) (fid : FuncId) (ops : List Oper) : Nat → Array Bool → Env → Mem → T (List St)
  | 0, listed, env, mem => match Region.ready .any ops.toArray listed with
    | [] => .ret [⟨env, mem⟩]
    | _ => .fail
  | n + 1, listed, env, mem => match Region.ready .any ops.toArray listed with
    | [] => .ret [⟨env, mem⟩]
    | is => evEach (fun i => match ops[i]? with
      | none => .fail
      | some o => guardF ops o env
        (fun env => (opSemF X K fid o env mem mem.length).bindF fun r =>
          putK env o.dst r.r fun env => updsK mem r.upd fun mem => newK mem r.new fun mem => evAnyF X K fid ops n (listed.setIfInBounds i true) env mem)
        (fun env => putK env o.dst .undef fun env => evAnyF X K fid ops n (listed.setIfInBounds i true) env mem)) is
theorem evAnyF_eq (X : Ctx) (K : CallSem) (fid : FuncId) (ops : List Oper) : ∀ (n : Nat) (listed : Array Bool) (env : Env) (mem : Mem), evAnyF X K fid ops n listed env mem = evAny X K fid ops n listed ⟨env, mem⟩
  | 0, _, _, _ => rfl
  | n + 1, listed, env, mem => by
    simp only [T.bindF_eq, evAnyF, evAny, guardF_eq, opSemF_eq, putK_eq, updsK_eq, newK_eq, evAnyF_eq X K fid ops n]
    rfl

/-! ### Control -/
noncomputable def canonF (X : Ctx) (fid : FuncId) (m : Nat) (key : Option Nat) (s : St) : T St :=
  let env := match key.bind (X.keep fid) with
    | some ks => keepEnv ks 0 s.env
    | none => s.env
  match reach s.mem reachFuel (List.range m ++ env.flatMap AV.ids) [] with
  | none => .fail
  | some seen => spineK (env.map (AV.ren fun j => posOf j seen)) fun env => spineK (subMem s.mem seen) fun mem => .ret { env, mem }
theorem canonF_eq (X : Ctx) (fid : FuncId) (m : Nat) (key : Option Nat) (s : St) : canonF X fid m key s = canon X fid m key s := by
  unfold canonF canon
  simp only [T.bindF_eq, spineK_eq]
  rfl
noncomputable def forgetF (X : Ctx) (fid m key : Nat) (r : Ex × St) : T (Ex × St) := (canonF X fid m (some (2000000 + key)) r.2).bindF fun s => .ret (r.1, s)
theorem forgetF_eq (X : Ctx) (fid m key : Nat) (r : Ex × St) : forgetF X fid m key r = forget X fid m key r := by
  unfold forgetF forget
  rw [canonF_eq, T.bindF_eq]
theorem forgetF_fun (X : Ctx) (fid m key : Nat) : forgetF X fid m key = forget X fid m key := funext fun r => forgetF_eq X fid m key r
noncomputable def condF (c : Operand) (v : Bool) (s : St) {β : Type} (k : St → β) : β := match c with
  | .tmp t => setK s.env t (.v (.bool v)) fun env => k { env, mem := s.mem }
  | _ => k s
noncomputable def evCF (X : Ctx) (K : CallSem) (L : Rec) (fid : FuncId) (m : Nat) : Code → St → T (Ex × St)
  | .skip, s => .ret (.nm, s)
  | .label _, s => .ret (.nm, s)
  | .region _ ops draw, s => (evRegionF X K fid ops.toList draw s).bindF fun s => .ret (.nm, s)
  | .seq a b, s => match drawMode a with
    | some key => (evAnyF X K fid (regionOps a) (regionOps a).length (Array.replicate (regionOps a).length false) s.env s.mem).bindF fun ss =>
      match ss.map fun st => ((evCF X K L fid m b st).bindF (forgetF X fid m key)).run with
      | some p :: rest => if rest.all fun q => match q with
          | some q => avs p q
          | none => false then .ret p else .fail
      | _ => .fail
    | none => (evCF X K L fid m a s).bindF fun r => match r.1 with
      | .nm => evCF X K L fid m b r.2
      | _ => .ret r
  | .cond c a b, s => match boolOf (evalF X s.env c) with
    | some v => .ite v (condF c true s fun s => evCF X K L fid m a s) (condF c false s fun s => evCF X K L fid m b s)
    | none => .fail
  | .block id b, s => (evCF X K L fid m b s).bindF fun r => match r.1 with
    | .ex i => if i = id then .ret (.nm, r.2) else .ret r
    | _ => .ret r
  | .loop b, s => (canonF X fid m (firstRegion b) s).bindF fun s => match X.lp fid (firstRegion b) m with
    | some f => f s
    | none => L (.loop b) s
  | .scope b, s => L (.scope b b) s
  | .exit id, s => .ret (.ex id, s)
  | .goto l, s => .ret (.gt l, s)
  | .ret, s => .ret (.rt, s)
  | _, _ => .fail
theorem evCF_eq (X : Ctx) (K : CallSem) (L : Rec) (fid : FuncId) (m : Nat) : ∀ (c : Code) (s : St), evCF X K L fid m c s = evC X K L fid m c s := by
  intro c
  induction c with
  | region id ops draw => intro s; simp only [T.bindF_eq, evCF, evC, evRegionF_eq]
  | seq a b iha ihb => intro s; simp only [T.bindF_eq, evCF, evC, evAnyF_eq, iha, ihb, forgetF_fun]; rfl
  | cond c a b iha ihb =>
    intro s
    simp only [T.bindF_eq, evCF, evC, evalF_eq, iha, ihb]
    cases c <;> simp only [condF, setK_eq] <;> rfl
  | block id b ih => intro s; simp only [T.bindF_eq, evCF, evC, ih]; rfl
  | loop b ih => intro s; simp only [T.bindF_eq, evCF, evC, canonF_eq]; rfl
  | _ => intro s; rfl
noncomputable def enterF (X : Ctx) (go : FuncId → Nat → Rec) (g : FuncId) (args : List AV) (mem : Mem) : T (AV × Mem) :=
  match X.fn g with
  | none => .fail
  | some fn => match fn.body with
    | none => .fail
    | some c => spineK (args ++ List.replicate (fn.ntmps - args.length) .undef) fun env => (go g mem.length (.code c) { env, mem }).bindF fun r => match r.1 with
      | .rt | .nm => finish X fn mem.length r.2
      | _ => .fail
theorem enterF_eq (X : Ctx) (go : FuncId → Nat → Rec) (g : FuncId) (args : List AV) (mem : Mem) : enterF X go g args mem = enterA X go g args mem := by
  unfold enterF enterA
  simp only [T.bindF_eq, spineK_eq]
  rfl
noncomputable def evF (X : Ctx) : Nat → FuncId → Nat → Rec
  | 0, _, _, _, _ => .fail
  | k + 1, fid, m, t, s => match t with
    | .code c => evCF X (enterF X (evF X k)) (evF X k fid m) fid m c s
    | .loop b => (evCF X (enterF X (evF X k)) (evF X k fid m) fid m b s).bindF fun r => match r.1 with
      | .nm => (canonF X fid m (firstRegion b) r.2).bindF fun s => evF X k fid m (.loop b) s
      | _ => .ret r
    | .scope b c => (evCF X (enterF X (evF X k)) (evF X k fid m) fid m c s).bindF fun r => match r.1 with
      | .gt l => match findLabel b l with
        | some c' => (canonF X fid m (some (1000000 + l)) r.2).bindF fun s => evF X k fid m (.scope b c') s
        | none => .ret r
      | _ => .ret r
theorem evF_eq (X : Ctx) : ∀ (k : Nat), evF X k = ev X k
  | 0 => rfl
  | k + 1 => by
    have ih := evF_eq X k
    have ihE : enterF X (ev X k) = enterA X (ev X k) := by
      funext g args mem
      rw [enterF_eq]
    funext fid m t s
    cases t with
    | code c => simp only [T.bindF_eq, evF, ev, evCF_eq, ih, ihE]
    | loop b => simp only [T.bindF_eq, evF, ev, evCF_eq, ih, ihE, canonF_eq]; rfl
    | scope b c => simp only [T.bindF_eq, evF, ev, evCF_eq, ih, ihE, canonF_eq]; rfl
noncomputable def callF (X : Ctx) (k : Nat) : CallSem := enterF X (evF X k)
theorem callF_eq (X : Ctx) (k : Nat) : callF X k = callE X k := by
  funext g args mem
  unfold callF callE
  rw [enterF_eq, evF_eq]
noncomputable def loopF (X : Ctx) (k : Nat) (g : FuncId) (m key : Nat) (s : St) : T (Ex × St) :=
  (evF X k g m (.loop (loopAt X g key)) s).bindF (forgetF X g m (1000000 + key))
theorem loopF_eq (X : Ctx) (k : Nat) (g : FuncId) (m key : Nat) (s : St) : loopF X k g m key s = loopR X k g m key s := by
  unfold loopF loopR
  rw [evF_eq, T.bindF_eq]
  congr 1
  funext r
  exact forgetF_eq ..
end Go.Sx

/- A plain interpreter of the model's code over values without addresses: reading forms off cells. -/
namespace Go.Sx
abbrev Dec (α : Type) := List C → Option (α × List C)
def dB : Dec Bool
  | .s (.d (.c (.bool b))) :: l => some (b, l)
  | _ => none
def dI : Dec Int
  | .s (.d (.c (.int .i64 n))) :: l => some (n, l)
  | _ => none
def dS : Dec ByteArray
  | .s (.d (.c (.string s))) :: l => some (s, l)
  | _ => none
abbrev cB (b : Bool) : C := C.d (.c (.bool b))
abbrev cI (n : Int) : C := C.d (.c (.int .i64 n))
abbrev cS (s : ByteArray) : C := C.d (.c (.string s))
theorem dB_some {cs rest : List C} {b : Bool} (h : dB cs = some (b, rest)) : cs = cB b :: rest := by
  unfold dB at h
  split at h
  · injection h with h; injection h with h1 h2; subst h1; subst h2; rfl
  · cases h
theorem dI_some {cs rest : List C} {b : Int} (h : dI cs = some (b, rest)) : cs = cI b :: rest := by
  unfold dI at h
  split at h
  · injection h with h; injection h with h1 h2; subst h1; subst h2; rfl
  · cases h
theorem dS_some {cs rest : List C} {b : ByteArray} (h : dS cs = some (b, rest)) : cs = cS b :: rest := by
  unfold dS at h
  split at h
  · injection h with h; injection h with h1 h2; subst h1; subst h2; rfl
  · cases h
def dMap {α β : Type} (f : α → β) (d : Dec α) : Dec β := fun cs => match d cs with
  | some (a, l) => some (f a, l)
  | none => none
def dThen {α β : Type} (d : Dec α) (e : Dec β) : Dec (α × β) := fun cs => match d cs with
  | some (a, l) => match e l with
    | some (b, l) => some ((a, b), l)
    | none => none
  | none => none
theorem dThen_some {α β : Type} {d : Dec α} {e : Dec β} {cs rest : List C} {x : α × β} (h : dThen d e cs = some (x, rest)) : ∃ l, d cs = some (x.1, l) ∧ e l = some (x.2, rest) := by
  unfold dThen at h
  split at h
  · rename_i a l h1
    split at h
    · rename_i b l' h2
      injection h with h; injection h with h3 h4; subst h3; subst h4
      exact ⟨l, h1, h2⟩
    · cases h
  · cases h
theorem dMap_some {α β : Type} {f : α → β} {d : Dec α} {cs rest : List C} {x : β} (h : dMap f d cs = some (x, rest)) : ∃ a, d cs = some (a, rest) ∧ x = f a := by
  unfold dMap at h
  split at h
  · rename_i a l h1
    injection h with h; injection h with h3 h4; subst h3; subst h4
    exact ⟨a, h1, rfl⟩
  · cases h
/-- All of the cells. -/
def dAll {α : Type} (d : Dec α) (cs : List C) : Option α := match d cs with
  | some (a, []) => some a
  | _ => none
theorem dAll_some {α : Type} {d : Dec α} {cs : List C} {a : α} (h : dAll d cs = some a) : d cs = some (a, []) := by
  unfold dAll at h
  split at h
  · rename_i a' h1; injection h with h; subst h; exact h1
  · cases h
abbrev na : AV := .c (.s .any)
def nas (n : Nat) : List AV := List.replicate n na
abbrev vB (b : Bool) : AV := .v (.bool b)
abbrev vI (n : Int) : AV := .v (.int .i64 n)
abbrev vS (s : ByteArray) : AV := .v (.string s)
end Go.Sx

/- A plain interpreter of the model's code over values without addresses: functions without a body. -/
namespace Go.Sx
theorem callSome_value {P : Program} {X : Ctx} {g : FuncId} {args : List AV} {mem : Mem} {r : AV}
    (h : ∀ (F : Fr) (w : World) (ρ : Locs) (vs : Array Value), All2 (@AR F w ρ (MuOf ρ mem)) args vs.toList → ∃ v, (callFunc g vs).run P w = .ok (.value v) w ∧ @AR F w ρ (MuOf ρ mem) r v) : CallSome P X g args mem r mem := by
  intro F w ρ vs hm hg ha
  obtain ⟨v, h1, h2⟩ := h F w ρ vs ha
  unfold GoesTo
  rw [h1]
  exact ⟨ρ, fun _ _ => rfl, Nat.le_refl _, Evo.refl _ _, hm, h2⟩
theorem indexByte_told {P : Program} {X : Ctx} {g : FuncId} {fn : Func} (hf : P.funcs[g]? = some fn) (hname : (fn.name == "runtime.NumGoroutine") = false) (hb : fn.body.isNone = true)
    (hn : Extern.findNext fn = none) (he : Extern.find fn = some Extern.BytealgIndexByte.indexByte) (s : ByteArray) (c : Int) :
    CallSome P X g [vS s, .v (.int .u8 c)] [] (vI (Lib.indexByte s.data.toList c.toNat.toUInt8)) [] := by
  refine callSome_value fun F w ρ vs ha => ?_
  have hvs : vs = #[.string s, .int .u8 c] := by
    rw [← Array.toArray_toList (xs := vs)]
    generalize vs.toList = l at ha
    cases ha with
    | cons h1 h2 => cases h2 with
      | cons h3 h4 =>
        cases h4
        cases h1; cases h3; rfl
  subst hvs
  refine ⟨.int .i64 (Lib.indexByte s.data.toList c.toNat.toUInt8), ?_, DR.c _⟩
  rw [run_callFunc_extern hf hname hb hn he, Lib.run_indexByteString]
  rfl
end Go.Sx

/- A plain interpreter of the model's code over values without addresses: functions and loops that are told, one at a time. -/
namespace Go.Sx
variable {P : Program} {X : Ctx}
def onNil {α : Type} (mem : Mem) (o : Option α) : Option α := match mem with
  | [] => o
  | _ => none
theorem onNil_some {α : Type} {mem : Mem} {o : Option α} {a : α} (h : onNil mem o = some a) : mem = [] ∧ o = some a := by
  cases mem with
  | nil => exact ⟨rfl, h⟩
  | cons => cases h
abbrev Says := List AV → Option (T (AV × Mem))
def addPr (pr : FuncId → List AV → Mem → Option (T (AV × Mem))) (g : FuncId) (f : Says) : FuncId → List AV → Mem → Option (T (AV × Mem)) :=
  fun g' args mem => bif Nat.beq g' g then onNil mem (f args) else pr g' args mem
theorem Good.prim1 (h : Sx.Good P X) (g : FuncId) (f : Says) (hf : ∀ args t r mem', f args = some t → t.run = some (r, mem') → CallSome P X g args [] r mem') : Sx.Good P { X with mprim := addPr X.mprim g f } :=
  h.prim _ fun g' args mem t r mem' h1 h2 => by
    unfold addPr at h1
    cases hg : Nat.beq g' g
    · rw [hg] at h1; exact .inl h1
    · rw [hg] at h1
      obtain ⟨h3, h4⟩ := onNil_some (show onNil mem (f args) = some t from h1)
      subst h3
      have := Nat.eq_of_beq_eq_true hg
      subst this
      exact .inr (hf args t r mem' h4 h2)
def addLp (lp : FuncId → Option Nat → Nat → Option (St → T (Ex × St))) (g key m : Nat) (f : St → T (Ex × St)) : FuncId → Option Nat → Nat → Option (St → T (Ex × St)) :=
  fun g' o m' => match o with
    | some k => bif Nat.beq g' g && (Nat.beq k key && Nat.beq m' m) then some f else lp g' o m'
    | none => lp g' o m'
/-- The states at a loop's head from which the loop is told. -/
noncomputable def isHd {α : Type} (hd : α → St) (pre : α → Prop) (s : St) : Bool := @decide (∃ a, pre a ∧ s = hd a) (Classical.propDecidable _)
theorem isHd_true {α : Type} {hd : α → St} {pre : α → Prop} {a : α} (h : pre a) : isHd hd pre (hd a) = true := by
  simp only [isHd, decide_eq_true_eq]
  exact ⟨a, h, rfl⟩
noncomputable def lpOf {α : Type} (hd : α → St) (pre : α → Prop) (res : St → T (Ex × St)) (s : St) : T (Ex × St) := .ite (isHd hd pre s) (res s) .fail
theorem Good.loop1 (h : Sx.Good P X) (g key m : Nat) {α : Type} (hd : α → St) (pre : α → Prop) (res : St → T (Ex × St)) (hk : keysApart ((loopsOf (bodyAt X g)).map firstRegion) = true)
    (hr : ∀ a, pre a → ∃ k, (loopF X k g m key (hd a)).run = (res (hd a)).run) : Sx.Good P { X with lp := addLp X.lp g key m (lpOf hd pre res) } :=
  h.loop _ fun g' o m' f hf => by
    unfold addLp at hf
    cases o with
    | none => exact .inl hf
    | some k =>
      simp only at hf
      cases hg : Nat.beq g' g && (Nat.beq k key && Nat.beq m' m)
      · rw [hg] at hf; exact .inl hf
      · rw [hg] at hf
        simp only [Bool.and_eq_true] at hg
        have e1 := Nat.eq_of_beq_eq_true hg.1
        have e2 := Nat.eq_of_beq_eq_true hg.2.1
        have e3 := Nat.eq_of_beq_eq_true hg.2.2
        subst e1; subst e2; subst e3
        injection hf with hf; subst hf
        refine .inr ⟨k, rfl, hk, fun s r hs => ?_⟩
        unfold lpOf at hs
        simp only [T.run] at hs
        cases hi : isHd hd pre s
        · rw [hi] at hs; cases hs
        · rw [hi] at hs
          simp only [isHd, decide_eq_true_eq] at hi
          obtain ⟨a, ha, rfl⟩ := hi
          obtain ⟨j, hj⟩ := hr a ha
          exact ⟨j, by rw [← loopF_eq]; exact hj.trans hs⟩
theorem Good.told (hX : Sx.Good P X) {k : Nat} {g : FuncId} {args : List AV} {t : T (AV × Mem)} {r' : AV} {mem' : Mem} (h : (callF X k g args []).run = t.run) (ht : t.run = some (r', mem')) : CallSome P X g args [] r' mem' := by
  rw [ht, callF_eq] at h
  exact hX.call h
theorem guard_run {α : Type} {b : Bool} {a r : α} (h : (T.ite b (.ret a) .fail).run = some r) : b = true ∧ a = r := by
  cases b
  · cases h
  · injection h with h; exact ⟨rfl, h⟩
/-- A call's arguments may be put more openly. -/
theorem CallSome.le {g : FuncId} {args args' : List AV} {mem : Mem} {r : AV} {mem' : Mem} (h : CallSome P X g args' mem r mem')
    (hle : ∀ (F : Fr) (w : World) (ρ : Locs) (M : Mut) (vs : List Value), All2 (@AR F w ρ M) args vs → All2 (@AR F w ρ M) args' vs) : CallSome P X g args mem r mem' :=
  fun F w ρ vs h1 h2 h3 => h F w ρ vs h1 h2 (hle F w ρ _ _ h3)
section recur
variable {g : FuncId} {f : Nat → Says} (h : Sx.Good P X) (h0 : ∀ args t r m, f 0 args = some t → t.run = some (r, m) → False)
  (hs : ∀ d, Sx.Good P { X with mprim := addPr X.mprim g (f d) } → ∀ args t r m, f (d + 1) args = some t → t.run = some (r, m) → CallSome P X g args [] r m)
include h h0 hs
/-- A function that calls itself: at arguments of each depth. -/
theorem Good.rec1 : ∀ d, Sx.Good P { X with mprim := addPr X.mprim g (f d) }
  | 0 => h.prim1 g (f 0) fun args t r m h1 h2 => (h0 args t r m h1 h2).elim
  | d + 1 => h.prim1 g (f (d + 1)) (hs d (Good.rec1 d))
theorem Good.recAll (f' : Says) (hf : ∀ args t r m, f' args = some t → t.run = some (r, m) → ∃ d t', f d args = some t' ∧ t'.run = some (r, m)) : Sx.Good P { X with mprim := addPr X.mprim g f' } :=
  h.prim1 g f' fun args t r m h1 h2 => by
    obtain ⟨d, t', h3, h4⟩ := hf args t r m h1 h2
    cases d with
    | zero => exact (h0 args t' r m h3 h4).elim
    | succ d => exact hs d (Good.rec1 h h0 hs d) args t' r m h3 h4
end recur
end Go.Sx

