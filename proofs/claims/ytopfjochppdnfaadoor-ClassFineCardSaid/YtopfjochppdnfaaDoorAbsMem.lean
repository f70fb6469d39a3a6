/- Memory: what a store, a new row, an append do to objects and to the machine's world. -/
import Derived.Test.YtopfjochppdnfaaDoorAbsOps
set_option linter.unusedVariables false
set_option linter.unusedSimpArgs false
namespace Go.Abs
open Go.RowKit

def AHeap.put (h : AHeap) (id : Nat) (o : AObj) : AHeap := { h with objs := fun i => if i = id then some o else h.objs i }
def AHeap.kill (h : AHeap) (id : Nat) : AHeap := { h with objs := fun i => if i = id then none else h.objs i }
def AHeap.push (h : AHeap) (o : AObj) : AHeap := { objs := fun i => if i = h.next then some o else h.objs i, next := h.next + 1 }

@[simp] theorem AHeap.put_objs (h : AHeap) (id : Nat) (o : AObj) (i : Nat) : (h.put id o).objs i = if i = id then some o else h.objs i := rfl
@[simp] theorem AHeap.kill_objs (h : AHeap) (id : Nat) (i : Nat) : (h.kill id).objs i = if i = id then none else h.objs i := rfl
@[simp] theorem AHeap.push_objs (h : AHeap) (o : AObj) (i : Nat) : (h.push o).objs i = if i = h.next then some o else h.objs i := rfl
@[simp] theorem AHeap.put_next (h : AHeap) (id : Nat) (o : AObj) : (h.put id o).next = h.next := rfl
@[simp] theorem AHeap.kill_next (h : AHeap) (id : Nat) : (h.kill id).next = h.next := rfl
@[simp] theorem AHeap.push_next (h : AHeap) (o : AObj) : (h.push o).next = h.next + 1 := rfl

theorem addr_add (b off j : Nat) : (⟨b, off, none⟩ : Addr).add j = ⟨b, off + j, none⟩ := by unfold Addr.add; split <;> simp_all

section
variable {P : Program} {B : Nat} {c : Ctx} {h : AHeap} {w : World}

theorem World.heap_old (w : World) (o : Obj) (i : Nat) (hi : i < w.heap.size) : (w.alloc o).heap[i]? = w.heap[i]? := by
  show (w.heap.push o)[i]? = w.heap[i]?
  rw [Array.getElem?_push, if_neg (Nat.ne_of_lt hi)]

theorem Shp.of {b : Nat} {C : Array Value} {ty : TypeId} (hb : w.heap[b]? = some (.cells C ty (0, 0))) : Shp w b ty C.size := ⟨C, hb, rfl⟩

/-- One block of the world has other cells, as many; all other blocks are as they were. -/
structure Turned (w w' : World) (b : Nat) (C C' : Array Value) (ty : TypeId) : Prop where
  os : w'.os = w.os
  tape : w'.tape = w.tape
  output : w'.output = w.output
  size : w'.heap.size = w.heap.size
  was : w.heap[b]? = some (.cells C ty (0, 0))
  now : w'.heap[b]? = some (.cells C' ty (0, 0))
  len : C'.size = C.size
  other : ∀ k, k ≠ b → w'.heap[k]? = w.heap[k]?

theorem Turned.shp {w' : World} {b : Nat} {C C' : Array Value} {ty : TypeId} (T : Turned w w' b C C' ty) (k : Nat) (u : TypeId) (n : Nat) (hs : Shp w k u n) : Shp w' k u n := by
  obtain ⟨D, h1, h2⟩ := hs
  by_cases hk : k = b
  · subst hk
    rw [T.was] at h1
    simp only [Option.some.injEq, Obj.cells.injEq, and_true] at h1
    obtain ⟨rfl, rfl⟩ := h1
    exact ⟨C', T.now, by rw [T.len, h2]⟩
  · exact ⟨D, by rw [T.other k hk, h1], h2⟩

theorem Turned.oth {w' : World} {b : Nat} {C C' : Array Value} {ty : TypeId} (T : Turned w w' b C C' ty) (k : Nat) (h : Dfr w k) : Dfr w' k := by
  unfold Dfr at h ⊢
  by_cases hk : k = b
  · subst hk; rw [T.was] at h; cases h
  · rw [T.other k hk, h]

theorem Turned.below {w' : World} {b : Nat} {C C' : Array Value} {ty : TypeId} (T : Turned w w' b C C' ty) (hb : B ≤ b) : Below B w w' :=
  ⟨T.os, T.tape, T.output, by rw [T.size]; exact Nat.le_refl _, fun k hk => T.other k (by omega)⟩

/-- A row's cells have turned. -/
theorem WRel.turnRow {w' : World} {id b : Nat} {C C' : Array Value} {ty : TypeId} {cs cs' : List AV} (W : WRel B c h w) (hm : c.m id = some b) (ho : h.objs id = some (.row ty cs)) (T : Turned w w' b C C' ty)
    (hl : cs'.length ≤ C'.size) (hr : LRel c w cs' (C'.toList.take cs'.length)) (h1 : ∀ u ∈ C'.toList.take cs'.length, u.oneCell' = true) :
    Ext B c w c w' ∧ WRel B c (h.put id (.row ty cs')) w' := by
  have hB := (W.mlt id b hm).2.1
  have hno : ∀ o, ¬ c.im b o := by
    have := W.obj id b _ hm ho
    obtain ⟨_, _, _, _, _, hh⟩ := this
    exact hh
  have E : Ext B c w c w' := ⟨⟨fun _ _ x => x, fun _ _ x => x, T.below hB, fun k o hk => by
    have hne : k ≠ b := fun e => hno o (e ▸ hk)
    exact World.cell?_of_block (a := ⟨k, o, none⟩) (T.other k hne), T.shp⟩, T.oth⟩
  refine ⟨E, ⟨fun i k hi => ?_, ?_, ?_, ?_, ?_, ?_, W.gl.mono E⟩⟩
  · have := W.mlt i k hi
    exact ⟨this.1, this.2.1, by rw [T.size]; exact this.2.2⟩
  · intro i j k hi hj h1 h2
    refine W.inj i j k hi hj ?_ ?_
    · simp only [AHeap.put_objs] at h1; split at h1
      · rename_i e; subst e; rw [ho]; simp
      · exact h1
    · simp only [AHeap.put_objs] at h2; split at h2
      · rename_i e; subst e; rw [ho]; simp
      · exact h2
  · intro i k o hi hio
    simp only [AHeap.put_objs] at hio
    split at hio
    · rename_i e
      subst e
      rw [hm] at hi; cases hi
      cases hio
      exact ⟨C', T.now, hl, LRel.mono E hr, h1, hno⟩
    · rename_i e
      have hne : k ≠ b := fun ek => e (W.inj i id k hi (ek ▸ hm) (by rw [hio]; simp) (by rw [ho]; simp))
      have := W.obj i k o hi hio
      cases o with
      | row ty cs =>
        obtain ⟨D, d1, d2, d3, d4, d5⟩ := this
        exact ⟨D, by rw [T.other k hne, d1], d2, LRel.mono E d3, d4, d5⟩
      | tok ty n =>
        obtain ⟨D, d1, d2, d3⟩ := this
        exact ⟨D, by rw [T.other k hne, d1], d2, d3⟩
      | loop st pe N ps asn bd fr =>
        obtain ⟨L, g1, g2, g3, g4, g5, g6, g7, g8⟩ := this
        exact ⟨L, by rw [T.other k hne, g1], g2, g3, g4, g5, g6, g7, fun i => VRel.mono E (g8 i)⟩
  · intro k o hk; rw [T.size]; exact W.im k o hk
  · intro i hi
    simp only [AHeap.put_objs]
    rw [if_neg, W.fresh i hi]
    intro e; subst e
    have := (W.mlt i b hm).1
    simp only [AHeap.put_next] at hi
    omega
  · rw [T.size]; exact W.base

/-- What was known of an object is known of it in a later world, if its block and its freedom are as they were. -/
theorem ORel.keep0 {c' : Ctx} {w' : World} {b : Nat} {o : AObj} (E : Ext0 B c w c' w') (hb : w'.heap[b]? = w.heap[b]?) (hi : ∀ x, c'.im b x → c.im b x) (hh : ORel c w b o) : ORel c' w' b o := by
  cases o with
  | row ty cs =>
    obtain ⟨D, d1, d2, d3, d4, d5⟩ := hh
    exact ⟨D, by rw [hb, d1], d2, LRel.mono0 E d3, d4, fun x hx => d5 x (hi x hx)⟩
  | tok ty n =>
    obtain ⟨D, d1, d2, d3⟩ := hh
    exact ⟨D, by rw [hb, d1], d2, fun x hx => d3 x (hi x hx)⟩
  | loop st pe N ps asn bd fr =>
    obtain ⟨L, h1, h2, h3, h4, h5, h6, h7, h8⟩ := hh
    exact ⟨L, by rw [hb, h1], h2, h3, h4, h5, h6, h7, fun i => VRel.mono0 E (h8 i)⟩
theorem ORel.keep {c' : Ctx} {w' : World} {b : Nat} {o : AObj} (E : Ext B c w c' w') (hb : w'.heap[b]? = w.heap[b]?) (hi : ∀ x, c'.im b x → c.im b x) (hh : ORel c w b o) : ORel c' w' b o := ORel.keep0 E.toExt0 hb hi hh

theorem Shp.alloc {b : Nat} {ty : TypeId} {n : Nat} (o : Obj) (hs : Shp w b ty n) : Shp (w.alloc o) b ty n := by
  obtain ⟨C, h1, h2⟩ := hs
  exact ⟨C, by rw [World.heap_old w o b (Array.getElem?_eq_some_iff.1 h1).1]; exact h1, h2⟩

def Ctx.withM (c : Ctx) (id b : Nat) : Ctx := { c with m := fun i => if i = id then some b else c.m i }
def Ctx.withIm (c : Ctx) (f : Nat → Nat → Prop) : Ctx := { c with im := fun b o => c.im b o ∨ f b o }

/-- The machine lays a new block; nobody knows it yet. -/
theorem Ext.alloc (W : WRel B c h w) (o : Obj) : Ext B c w c (w.alloc o) :=
  ⟨⟨fun _ _ x => x, fun _ _ x => x, (Below.refl _ _).alloc W.base _, fun k x hk => World.cell?_alloc_lt w o ⟨k, x, none⟩ (W.im k x hk), fun _ _ _ hs => hs.alloc o⟩, fun k h => by unfold Dfr at h ⊢; rw [World.heap_old w o k (Array.getElem?_eq_some_iff.1 h).1]; exact h⟩

theorem WRel.alloc (W : WRel B c h w) (o : Obj) : WRel B c h (w.alloc o) := by
  refine ⟨fun i k hi => ?_, W.inj, fun i k x hi hio => ?_, fun k x hk => ?_, W.fresh, ?_, W.gl.mono (Ext.alloc W o)⟩
  · have := W.mlt i k hi; simp only [World.size_alloc]; omega
  · exact (W.obj i k x hi hio).keep (Ext.alloc W o) (World.heap_old w o k (W.mlt i k hi).2.2) (fun _ y => y)
  · have := W.im k x hk; simp only [World.size_alloc]; omega
  · have := W.base; simp only [World.size_alloc]; omega

/-- A draw. -/
theorem Ext.drew (B : Nat) (c : Ctx) (w : World) : Ext B c w c w.drew := ⟨⟨fun _ _ x => x, fun _ _ x => x, (Below.refl _ _).drew, fun _ _ _ => rfl, fun _ _ _ hs => hs⟩, fun _ h => h⟩
theorem WRel.drew (W : WRel B c h w) : WRel B c h w.drew :=
  ⟨W.mlt, W.inj, fun i k x hi hio => (W.obj i k x hi hio).keep (Ext.drew B c w) rfl (fun _ y => y), W.im, W.fresh, W.base, W.gl.mono (Ext.drew B c w)⟩

/-- An object gets the number that is next: it lies in a block that no living object has. -/
theorem WRel.name (W : WRel B c h w) {b : Nat} (o : AObj) (hB : B ≤ b) (hb : b < w.heap.size) (hno : ∀ i, c.m i = some b → h.objs i = none) (ho : ORel c w b o) :
    Ext B c w (c.withM h.next b) w ∧ WRel B (c.withM h.next b) (h.push o) w := by
  have hfr : c.m h.next = none := by
    cases hh : c.m h.next with
    | none => rfl
    | some x => have := (W.mlt _ _ hh).1; omega
  have hm' : ∀ i k, c.m i = some k → (c.withM h.next b).m i = some k := by
    intro i k hi
    simp only [Ctx.withM]; rw [if_neg]
    · exact hi
    · intro e; subst e; rw [hfr] at hi; exact absurd hi (by simp)
  have E : Ext B c w (c.withM h.next b) w := ⟨⟨hm', fun _ _ x => x, Below.refl _ _, fun _ _ _ => rfl, fun _ _ _ x => x⟩, fun _ h => h⟩
  refine ⟨E, ⟨fun i k hi => ?_, fun i j k hi hj h1 h2 => ?_, fun i k x hi hio => ?_, W.im, fun i hi => ?_, W.base, W.gl.mono E⟩⟩
  · simp only [Ctx.withM] at hi
    split at hi
    · rename_i e; cases hi; subst e; simp only [AHeap.push_next]; omega
    · have := W.mlt i k hi; simp only [AHeap.push_next]; omega
  · simp only [Ctx.withM] at hi hj
    simp only [AHeap.push_objs] at h1 h2
    split at hi <;> split at hj
    · rename_i e1 e2; rw [e1, e2]
    · rename_i e1 e2; cases hi; rw [if_neg e2] at h2; exact absurd (hno j hj) h2
    · rename_i e1 e2; cases hj; rw [if_neg e1] at h1; exact absurd (hno i hi) h1
    · rename_i e1 e2; rw [if_neg e1] at h1; rw [if_neg e2] at h2; exact W.inj i j k hi hj h1 h2
  · simp only [Ctx.withM] at hi
    simp only [AHeap.push_objs] at hio
    split at hi
    · rename_i e; rw [if_pos e] at hio; cases hi; cases hio; exact ho.keep E rfl (fun _ y => y)
    · rename_i e; rw [if_neg e] at hio; exact (W.obj i k x hi hio).keep E rfl (fun _ y => y)
  · simp only [AHeap.push_next] at hi
    simp only [AHeap.push_objs]
    rw [if_neg (by omega)]; exact W.fresh i (by omega)

/-- An object is forgotten. -/
theorem WRel.kill (W : WRel B c h w) (id : Nat) : WRel B c (h.kill id) w := by
  refine ⟨W.mlt, fun i j k hi hj h1 h2 => W.inj i j k hi hj ?_ ?_, fun i k x hi hio => W.obj i k x hi ?_, W.im, fun i hi => ?_, W.base, W.gl⟩
  · intro e; apply h1; simp only [AHeap.kill_objs, e, ite_self]
  · intro e; apply h2; simp only [AHeap.kill_objs, e, ite_self]
  · simp only [AHeap.kill_objs] at hio; split at hio
    · cases hio
    · exact hio
  · simp only [AHeap.kill_objs, W.fresh i hi, ite_self]

/-- Cells become read-only: those of a block that no living object has. -/
theorem WRel.freeze (W : WRel B c h w) (f : Nat → Nat → Prop) (hf : ∀ k x, f k x → k < w.heap.size) (hno : ∀ k x, f k x → ∀ i o, c.m i = some k → h.objs i = some o → match o with | .row _ _ => False | .tok _ n => x < n | .loop .. => True) :
    Ext B c w (c.withIm f) w ∧ WRel B (c.withIm f) h w := by
  have E : Ext B c w (c.withIm f) w := ⟨⟨fun _ _ x => x, fun _ _ x => Or.inl x, Below.refl _ _, fun _ _ _ => rfl, fun _ _ _ x => x⟩, fun _ h => h⟩
  refine ⟨E, ⟨W.mlt, W.inj, fun i k o hi hio => ?_, fun k x hk => ?_, W.fresh, W.base, W.gl.mono E⟩⟩
  · have := W.obj i k o hi hio
    cases o with
    | row ty cs =>
      obtain ⟨D, d1, d2, d3, d4, d5⟩ := this
      refine ⟨D, d1, d2, LRel.mono E d3, d4, fun x hx => ?_⟩
      rcases hx with hx | hx
      · exact d5 x hx
      · exact hno k x hx i _ hi hio
    | tok ty n =>
      obtain ⟨D, d1, d2, d3⟩ := this
      refine ⟨D, d1, d2, fun x hx => ?_⟩
      rcases hx with hx | hx
      · exact d3 x hx
      · exact hno k x hx i _ hi hio
    | loop st pe N ps asn bd fr =>
      obtain ⟨L, h1, h2, h3, h4, h5, h6, h7, h8⟩ := this
      exact ⟨L, h1, h2, h3, h4, h5, h6, h7, fun i => VRel.mono E (h8 i)⟩
  · rcases hk with hk | hk
    · exact W.im k x hk
    · exact hf k x hk

/-- A new row of the call's own. -/
theorem WRel.newRow (W : WRel B c h w) (C : Array Value) (ty : TypeId) (cs : List AV) (hr : LRel c w cs C.toList) (h1 : ∀ u ∈ C.toList, u.oneCell' = true) :
    ∃ c', Ext B c w c' (w.alloc (.cells C ty)) ∧ WRel B c' (h.push (.row ty cs)) (w.alloc (.cells C ty)) ∧ c'.m h.next = some w.heap.size := by
  have E1 := Ext.alloc W (.cells C ty)
  have W1 := W.alloc (.cells C ty)
  have hlen := hr.length
  obtain ⟨E2, W2⟩ := W1.name (b := w.heap.size) (.row ty cs) W.base (by simp) (fun i hi => absurd (W.mlt i _ hi).2.2 (by omega)) (by
    refine ⟨C, heap_alloc_new w _, by simp at hlen; omega, ?_, ?_, fun o ho => absurd (W.im _ _ ho) (by omega)⟩
    · rw [← hlen, List.take_length]; exact LRel.mono E1 hr
    · rw [← hlen, List.take_length]; exact h1)
  exact ⟨_, E1.trans E2, W2, by simp [Ctx.withM]⟩

/-- A new row, read-only from its beginning. -/
theorem WRel.newIm (W : WRel B c h w) (C : Array Value) (ty : TypeId) (cs : List AV) (hr : LRel c w cs C.toList) (h1 : ∀ u ∈ C.toList, u.oneCell' = true) :
    ∃ c', Ext B c w c' (w.alloc (.cells C ty)) ∧ WRel B c' h (w.alloc (.cells C ty)) ∧ MRel c' (w.alloc (.cells C ty)) cs w.heap.size 0 := by
  have E1 := Ext.alloc W (.cells C ty)
  have W1 := W.alloc (.cells C ty)
  obtain ⟨E2, W2⟩ := W1.freeze (fun k _ => k = w.heap.size) (by intro k x e; subst e; simp) (by
    intro k x e i o hi _
    subst e
    exact absurd (W.mlt i _ hi).2.2 (by omega))
  refine ⟨_, E1.trans E2, W2, MRel.ofFn fun i a hi => ?_⟩
  obtain ⟨v, hv, hra⟩ := hr.get hi
  refine ⟨Or.inr rfl, v, ?_, h1 v (List.mem_of_getElem? hv), VRel.mono (E1.trans E2) hra⟩
  rw [cell_of_row _ w.heap.size (0 + i) C ty (0, 0) (heap_alloc_new w _)]
  simpa using hv

/-- Reading a row. -/
theorem WRel.row (W : WRel B c h w) {id b : Nat} {ty : TypeId} {cs : List AV} (hm : c.m id = some b) (ho : h.objs id = some (.row ty cs)) :
    ∃ C : Array Value, w.heap[b]? = some (.cells C ty (0, 0)) ∧ cs.length ≤ C.size ∧ LRel c w cs (C.toList.take cs.length) ∧ (∀ u ∈ C.toList.take cs.length, u.oneCell' = true) ∧ ∀ o, ¬ c.im b o := W.obj id b _ hm ho

theorem WRel.row_get (W : WRel B c h w) {id b : Nat} {ty : TypeId} {cs : List AV} (hm : c.m id = some b) (ho : h.objs id = some (.row ty cs)) {i : Nat} {a : AV} (hi : cs[i]? = some a) :
    ∃ u, w.cell? ⟨b, i, none⟩ = some u ∧ u.oneCell' = true ∧ VRel c w a u := by
  obtain ⟨C, h1, h2, h3, h4, _⟩ := W.row hm ho
  obtain ⟨u, hu, hr⟩ := h3.get hi
  refine ⟨u, ?_, h4 u (List.mem_of_getElem? hu), hr⟩
  rw [cell_of_row _ b i C ty (0, 0) h1]
  have := List.getElem?_take_of_lt (l := C.toList) (show i < cs.length from (List.getElem?_eq_some_iff.1 hi).1)
  rw [this] at hu
  simpa using hu

end
end Go.Abs
