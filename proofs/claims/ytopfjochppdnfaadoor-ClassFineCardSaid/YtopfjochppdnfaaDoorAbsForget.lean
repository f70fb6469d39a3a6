/- What a call made for itself is forgotten: a function of values alone leaves the heap as it was. -/
import Derived.Test.YtopfjochppdnfaaDoorAbsRun
set_option linter.unusedVariables false
set_option linter.unusedSimpArgs false
namespace Go.Abs
open Go.RowKit

mutual
/-- All objects that a value names are of a kind. -/
def idsIn (D : Nat → Prop) : AV → Prop
  | .ptr id _ => D id
  | .iptr cs => idsInL D cs
  | .isl _ es => idsInE D es
  | .gsl id _ es => D id ∧ idsInE D es
  | .sl id _ _ _ => D id
  | .mapv id => D id
  | .yld id => D id
  | .fn _ a b => idsInL D a ∧ idsInL D b
  | .ifc _ a => idsIn D a
  | .agg cs => idsInL D cs
  | .tup vs => idsInL D vs
  | _ => True
def idsInL (D : Nat → Prop) : List AV → Prop
  | [] => True
  | a :: as => idsIn D a ∧ idsInL D as
def idsInE (D : Nat → Prop) : List (List AV) → Prop
  | [] => True
  | e :: es => idsInL D e ∧ idsInE D es
end

section
variable {c c' : Ctx} {w : World} {D : Nat → Prop}

mutual
theorem VRel.move (hm : ∀ id, D id → c'.m id = c.m id) (him : ∀ b o, c.im b o → c'.im b o) : ∀ {a : AV} {v : Value}, idsIn D a → VRel c w a v → VRel c' w a v
  | .und, _, _, _ => by simp [VRel]
  | .int .., _, _, h => by simpa [VRel] using h
  | .bool .., _, _, h => by simpa [VRel] using h
  | .unkb, _, _, h => by simpa [VRel] using h
  | .str .., _, _, h => by simpa [VRel] using h
  | .flt .., _, _, h => by simpa [VRel] using h
  | .nilp, _, _, h => by simpa [VRel] using h
  | .ptr id off, _, i, h => by
    simp only [VRel, idsIn] at h i ⊢
    obtain ⟨b, h1, h2⟩ := h
    exact ⟨b, by rw [hm _ i]; exact h1, h2⟩
  | .iptr cs, _, i, h => by
    simp only [VRel, idsIn] at h i ⊢
    obtain ⟨b, off, h1, h2⟩ := h
    exact ⟨b, off, h1, MRel.move hm him i h2⟩
  | .nils, _, _, h => by simpa [VRel] using h
  | .eml, _, _, h => by simpa [VRel] using h
  | .isl sz es, _, i, h => by
    simp only [VRel, idsIn] at h i ⊢
    obtain ⟨a, cap, h1, h2, h2b, h3⟩ := h
    refine ⟨a, cap, h1, h2, h2b, fun hne => ?_⟩
    obtain ⟨b, off, h4, h5⟩ := h3 hne
    exact ⟨b, off, h4, ERel.move hm him i h5⟩
  | .gsl id sz es, _, i, h => by
    simp only [VRel, idsIn] at h i ⊢
    obtain ⟨b, cap, ty, h1, h2, h3, h4, h5, h6⟩ := h
    exact ⟨b, cap, ty, by rw [hm _ i.1]; exact h1, h2, h3, h4, h5, ERel.move hm him i.2 h6⟩
  | .sl .., _, i, h => by
    simp only [VRel, idsIn] at h i ⊢
    obtain ⟨b, cap, ty, h1, h2, h3, h4, h5⟩ := h
    exact ⟨b, cap, ty, by rw [hm _ i]; exact h1, h2, h3, h4, h5⟩
  | .nilm, _, _, h => by simpa [VRel] using h
  | .mapv .., _, i, h => by
    simp only [VRel, idsIn] at h i ⊢
    obtain ⟨b, h1, h2⟩ := h
    exact ⟨b, by rw [hm _ i]; exact h1, h2⟩
  | .yld .., _, i, h => by
    simp only [VRel, idsIn] at h i ⊢
    obtain ⟨b, h1, h2⟩ := h
    exact ⟨b, by rw [hm _ i]; exact h1, h2⟩
  | .nilf, _, _, h => by simpa [VRel] using h
  | .fn f first captured, _, i, h => by
    simp only [VRel, idsIn] at h i ⊢
    obtain ⟨fs, cs, h1, h2, h3⟩ := h
    exact ⟨fs, cs, h1, LRel.move hm him i.1 h2, LRel.move hm him i.2 h3⟩
  | .nili, _, _, h => by simpa [VRel] using h
  | .ifc t a, _, i, h => by
    simp only [VRel, idsIn] at h i ⊢
    obtain ⟨u, h1, h2⟩ := h
    exact ⟨u, h1, VRel.move hm him i h2⟩
  | .agg cs, _, i, h => by
    simp only [VRel, idsIn] at h i ⊢
    obtain ⟨vs, h1, h2, h3⟩ := h
    exact ⟨vs, h1, LRel.move hm him i h2, h3⟩
  | .tup cs, _, i, h => by
    simp only [VRel, idsIn] at h i ⊢
    obtain ⟨vs, h1, h2⟩ := h
    exact ⟨vs, h1, LRel.move hm him i h2⟩
theorem LRel.move (hm : ∀ id, D id → c'.m id = c.m id) (him : ∀ b o, c.im b o → c'.im b o) : ∀ {as : List AV} {vs : List Value}, idsInL D as → LRel c w as vs → LRel c' w as vs
  | [], _, _, h => by simpa [LRel] using h
  | a :: as, _, i, h => by
    simp only [LRel, idsInL] at h i ⊢
    obtain ⟨v, vs', h1, h2, h3⟩ := h
    exact ⟨v, vs', h1, VRel.move hm him i.1 h2, LRel.move hm him i.2 h3⟩
theorem MRel.move (hm : ∀ id, D id → c'.m id = c.m id) (him : ∀ b o, c.im b o → c'.im b o) : ∀ {as : List AV} {b off : Nat}, idsInL D as → MRel c w as b off → MRel c' w as b off
  | [], _, _, _, _ => by simp [MRel]
  | a :: as, b, off, i, h => by
    simp only [MRel, idsInL] at h i ⊢
    obtain ⟨h1, ⟨u, h2, h3, h4⟩, h5⟩ := h
    exact ⟨him _ _ h1, ⟨u, h2, h3, VRel.move hm him i.1 h4⟩, MRel.move hm him i.2 h5⟩
theorem ERel.move (hm : ∀ id, D id → c'.m id = c.m id) (him : ∀ b o, c.im b o → c'.im b o) {sz : Nat} : ∀ {es : List (List AV)} {b off : Nat}, idsInE D es → ERel c w sz es b off → ERel c' w sz es b off
  | [], _, _, _, _ => by simp [ERel]
  | e :: es, b, off, i, h => by
    simp only [ERel, idsInE] at h i ⊢
    exact ⟨h.1, MRel.move hm him i.1 h.2.1, ERel.move hm him i.2 h.2.2⟩
end

mutual
theorem VRel.ids : ∀ {a : AV} {v : Value}, VRel c w a v → idsIn (fun id => c.m id ≠ none) a
  | .und, _, _ => by simp [idsIn]
  | .int .., _, _ => by simp [idsIn]
  | .bool .., _, _ => by simp [idsIn]
  | .unkb, _, _ => by simp [idsIn]
  | .str .., _, _ => by simp [idsIn]
  | .flt .., _, _ => by simp [idsIn]
  | .nilp, _, _ => by simp [idsIn]
  | .ptr .., _, h => by
    simp only [VRel, idsIn] at h ⊢
    obtain ⟨b, h1, -⟩ := h; rw [h1]; simp
  | .iptr cs, _, h => by
    simp only [VRel, idsIn] at h ⊢
    obtain ⟨b, off, h1, h2⟩ := h; exact MRel.ids h2
  | .yld .., _, h => by
    simp only [VRel, idsIn] at h ⊢
    obtain ⟨b, h1, -⟩ := h; rw [h1]; simp
  | .nils, _, _ => by simp [idsIn]
  | .eml, _, _ => by simp [idsIn]
  | .isl sz [], _, h => by simp [idsIn, idsInE]
  | .isl sz (e :: es), _, h => by
    simp only [VRel, idsIn] at h ⊢
    obtain ⟨a, cap, h1, h2, h2b, h3⟩ := h
    obtain ⟨b, off, h4, h5⟩ := h3 (by simp)
    exact ERel.ids h5
  | .gsl .., _, h => by
    simp only [VRel, idsIn] at h ⊢
    obtain ⟨b, cap, ty, h1, h2, h3, h4, h5, h6⟩ := h
    exact ⟨by rw [h1]; simp, ERel.ids h6⟩
  | .sl .., _, h => by
    simp only [VRel, idsIn] at h ⊢
    obtain ⟨b, cap, ty, h1, -⟩ := h; rw [h1]; simp
  | .nilm, _, _ => by simp [idsIn]
  | .mapv .., _, h => by
    simp only [VRel, idsIn] at h ⊢
    obtain ⟨b, h1, -⟩ := h; rw [h1]; simp
  | .nilf, _, _ => by simp [idsIn]
  | .fn f first captured, _, h => by
    simp only [VRel, idsIn] at h ⊢
    obtain ⟨fs, cs, h1, h2, h3⟩ := h
    exact ⟨LRel.ids h2, LRel.ids h3⟩
  | .nili, _, _ => by simp [idsIn]
  | .ifc t a, _, h => by
    simp only [VRel, idsIn] at h ⊢
    obtain ⟨u, h1, h2⟩ := h; exact VRel.ids h2
  | .agg cs, _, h => by
    simp only [VRel, idsIn] at h ⊢
    obtain ⟨vs, h1, h2, h3⟩ := h; exact LRel.ids h2
  | .tup cs, _, h => by
    simp only [VRel, idsIn] at h ⊢
    obtain ⟨vs, h1, h2⟩ := h; exact LRel.ids h2
theorem LRel.ids : ∀ {as : List AV} {vs : List Value}, LRel c w as vs → idsInL (fun id => c.m id ≠ none) as
  | [], _, _ => by simp [idsInL]
  | a :: as, _, h => by
    simp only [LRel, idsInL] at h ⊢
    obtain ⟨v, vs', h1, h2, h3⟩ := h
    exact ⟨VRel.ids h2, LRel.ids h3⟩
theorem MRel.ids : ∀ {as : List AV} {b off : Nat}, MRel c w as b off → idsInL (fun id => c.m id ≠ none) as
  | [], _, _, _ => by simp [idsInL]
  | a :: as, b, off, h => by
    simp only [MRel, idsInL] at h ⊢
    obtain ⟨h1, ⟨u, h2, h3, h4⟩, h5⟩ := h
    exact ⟨VRel.ids h4, MRel.ids h5⟩
theorem ERel.ids {sz : Nat} : ∀ {es : List (List AV)} {b off : Nat}, ERel c w sz es b off → idsInE (fun id => c.m id ≠ none) es
  | [], _, _, _ => by simp [idsInE]
  | e :: es, b, off, h => by
    simp only [ERel, idsInE] at h ⊢
    exact ⟨MRel.ids h.2.1, ERel.ids h.2.2⟩
end

end

/-- What was made since is forgotten. -/
theorem WRel.forget {B : Nat} {c c' : Ctx} {h h' : AHeap} {w w' : World} (W : WRel B c h w) (E : Ext B c w c' w') (W' : WRel B c' h' w') (K : Keeps h h' (fun _ => False)) {v : AV} {u : Value} (hv : idsIn (fun _ => False) v) (V : VRel c' w' v u) :
    ∃ c2, Ext B c w c2 w' ∧ WRel B c2 h w' ∧ VRel c2 w' v u := by
  refine ⟨⟨c.m, c'.im⟩, ⟨⟨fun id b hb => hb, E.im, E.below, E.cells, E.shp⟩, E.oth⟩, ⟨fun id b hb => ⟨(W.mlt id b hb).1, (W'.mlt id b (E.m id b hb)).2⟩, fun i j b hi hj ho1 ho2 => W.inj i j b hi hj ho1 ho2, fun id b o hb ho => ?_, W'.im, W.fresh, W'.base, fun g => MRel.move (c := c') (c' := ⟨c.m, c'.im⟩) (D := fun id => c.m id ≠ none) (fun k hk => by
      cases hk2 : c.m k with
      | none => exact absurd hk2 hk
      | some bk => exact (E.m k bk hk2).symm) (fun _ _ h => h) (W.gl g).ids (W'.gl g)⟩, ?_⟩
  · have hlt := (W.mlt id b hb).1
    have ho' : h'.objs id = some o := by rw [K.objs id hlt (by simp)]; exact ho
    have R := W'.obj id b o (E.m id b hb) ho'
    cases o with
    | tok ty n => exact R
    | row ty cs =>
      obtain ⟨C, h1, h2, h3, h4, h5⟩ := R
      refine ⟨C, h1, h2, ?_, h4, h5⟩
      obtain ⟨C0, -, -, g3, -⟩ := W.obj id b _ hb ho
      refine LRel.move (c := c') (c' := ⟨c.m, c'.im⟩) (D := fun id => c.m id ≠ none) (fun k hk => ?_) (fun _ _ h => h) g3.ids h3
      cases hk2 : c.m k with
      | none => exact absurd hk2 hk
      | some bk => exact (E.m k bk hk2).symm
    | loop st pe N ps asn bd fr =>
      obtain ⟨L, h1, h2, h3, h4, h5, h6, h7, h8⟩ := R
      obtain ⟨L0, -, -, -, -, -, -, -, g8⟩ := W.obj id b _ hb ho
      refine ⟨L, h1, h2, h3, h4, h5, h6, h7, fun i => ?_⟩
      refine VRel.move (c := c') (c' := ⟨c.m, c'.im⟩) (D := fun id => c.m id ≠ none) (fun k hk => ?_) (fun _ _ h => h) (g8 i).ids (h8 i)
      cases hk2 : c.m k with
      | none => exact absurd hk2 hk
      | some bk => exact (E.m k bk hk2).symm
  · exact VRel.move (c := c') (c' := ⟨c.m, c'.im⟩) (D := fun _ => False) (fun _ h => h.elim) (fun _ _ h => h) hv V

/-- A function whose answer names no object, and that turns none: its heap is as it was. -/
theorem CallsA.forget {P : Program} {f : FuncId} {args : List AV} {h : AHeap} {v0 : AV} (hv : idsIn (fun _ => False) v0) (H : CallsA P f args h (fun v h2 => v = v0 ∧ Keeps h h2 (fun _ => False))) : CallsA P f args h (fun v h2 => v = v0 ∧ h2 = h) := by
  rcases H with H | H
  · refine Or.inl ⟨H.1, fun B c w vs W L => (H.2 B c w vs W L).mono fun e w' ⟨c', u, v, h', a, E, W', V, q, K⟩ => ?_⟩
    subst q
    obtain ⟨c2, E2, W2, V2⟩ := W.forget E W' K hv V
    exact ⟨c2, u, v, h, a, E2, W2, V2, rfl, rfl⟩
  · refine Or.inr fun B c w vs W L => ?_
    obtain ⟨c', u, v, h', w', a, E, W', V, q, K⟩ := H B c w vs W L
    subst q
    obtain ⟨c2, E2, W2, V2⟩ := W.forget E W' K hv V
    exact ⟨c2, u, v, h, w', a, E2, W2, V2, rfl, rfl⟩

end Go.Abs
