/- Arguments seen otherwise: what grows, or is one's own, becomes a slice by value. -/
import Derived.Test.YtopfjochppdnfaaDoorAbsRun
set_option linter.unusedVariables false
set_option linter.unusedSimpArgs false
namespace Go.Abs
open Go.RowKit

/-- One list of values stands for what another one stands for. -/
def Sub (as bs : List AV) : Prop := ∀ (c : Ctx) (w : World) (vs : List Value), LRel c w as vs → LRel c w bs vs
theorem Sub.nil : Sub [] [] := fun _ _ _ h => h
theorem Sub.cons {a b : AV} {as bs : List AV} (h1 : ∀ (c : Ctx) (w : World) (v : Value), VRel c w a v → VRel c w b v) (h2 : Sub as bs) : Sub (a :: as) (b :: bs) := by
  intro c w vs h
  simp only [LRel] at h ⊢
  obtain ⟨v, vs', e, hv, hl⟩ := h
  exact ⟨v, vs', e, h1 c w v hv, h2 c w vs' hl⟩
theorem Sub.same {a : AV} {as bs : List AV} (h2 : Sub as bs) : Sub (a :: as) (a :: bs) := Sub.cons (fun _ _ _ h => h) h2
theorem gsl_isl (id sz : Nat) (es : List (List AV)) (hm : es.length ≤ 1000000) (c : Ctx) (w : World) (v : Value) (h : VRel c w (.gsl id sz es) v) : VRel c w (.isl sz es) v := by
  simp only [VRel] at h ⊢
  obtain ⟨b, cap, ty, h1, h2, h3, h4, h5, h6⟩ := h
  exact ⟨_, cap, h2, h3, by omega, fun _ => ⟨b, 0, rfl, h6⟩⟩
theorem eml_isl (sz : Nat) (c : Ctx) (w : World) (v : Value) (h : VRel c w .eml v) : VRel c w (.isl sz []) v := by
  simp only [VRel] at h ⊢
  obtain ⟨a, h⟩ := h
  exact ⟨some a, 0, h, by simp, by simp, by simp⟩

theorem CallsA.args {P : Program} {f : FuncId} {as bs : List AV} {h : AHeap} {R : AV → AHeap → Prop} (hs : Sub as bs) (H : CallsA P f bs h R) : CallsA P f as h R := by
  rcases H with H | H
  · exact Or.inl ⟨H.1, fun B c w vs W L => H.2 B c w vs W (hs c w vs L)⟩
  · exact Or.inr fun B c w vs W L => H B c w vs W (hs c w vs L)

theorem erel_chunk {c : Ctx} {w : World} {b sz : Nat} : ∀ (n : Nat) (cs : List AV) (off : Nat), n * sz ≤ cs.length → MRel c w cs b off → ERel c w sz (chunk sz n cs) b off
  | 0, cs, off, _, _ => by simp [chunk, ERel]
  | n + 1, cs, off, hl, hm => by
    rw [Nat.add_mul, Nat.one_mul] at hl
    simp only [chunk, ERel]
    exact ⟨by simp; omega, hm.take sz, erel_chunk n _ _ (by simp; omega) (hm.drop sz)⟩

theorem LRel.split {c : Ctx} {w : World} : ∀ {as bs : List AV} {vs : List Value}, LRel c w (as ++ bs) vs → ∃ us ws, vs = us ++ ws ∧ LRel c w as us ∧ LRel c w bs ws
  | [], bs, vs, h => ⟨[], vs, rfl, by simp [LRel], h⟩
  | a :: as, bs, vs, h => by
    simp only [List.cons_append, LRel] at h
    obtain ⟨v, vs', rfl, hv, hl⟩ := h
    obtain ⟨us, ws, rfl, h1, h2⟩ := LRel.split hl
    exact ⟨v :: us, ws, rfl, by simp only [LRel]; exact ⟨v, us, rfl, hv, h1⟩, h2⟩

/-- One's own row becomes read-only: nobody writes it any more. -/
theorem freeze_arg {B : Nat} {c : Ctx} {h : AHeap} {w : World} {id n sz : Nat} {ty : TypeId} {cs pre post : List AV} {vs : List Value} (ho : h.objs id = some (.row ty cs)) (hn : n * sz ≤ cs.length) (hm : n ≤ 1000000) (W : WRel B c h w) (L : LRel c w (pre ++ .sl id 0 n sz :: post) vs) :
    ∃ c', Ext B c w c' w ∧ WRel B c' (h.kill id) w ∧ LRel c' w (pre ++ .isl sz (chunk sz n cs) :: post) vs := by
  obtain ⟨us, ws, rfl, h1, h2⟩ := L.split
  simp only [LRel] at h2
  obtain ⟨v, vs', rfl, hv, h3⟩ := h2
  simp only [VRel] at hv
  obtain ⟨b, cap, ty', hb, rfl, hc1, hc2, -⟩ := hv
  have W1 := W.kill id
  obtain ⟨E, W2⟩ := W1.freeze (fun k _ => k = b) (by rintro k x rfl; exact (W.mlt id _ hb).2.2) (by
    rintro k x rfl i o hi hio
    simp only [AHeap.kill_objs] at hio
    split at hio
    · cases hio
    · rename_i hne
      exact absurd (W.inj i id _ hi hb (by rw [hio]; simp) (by rw [ho]; simp)) hne)
  refine ⟨_, E, W2, (LRel.mono E h1).append ?_⟩
  simp only [LRel]
  refine ⟨_, _, rfl, ?_, LRel.mono E h3⟩
  simp only [VRel]
  have hcl : (chunk sz n cs).length = n := chunk_length sz n cs
  refine ⟨some ⟨b, 0, none⟩, cap, by rw [hcl], by rw [hcl]; exact hc1, by rw [hcl]; omega, fun _ => ⟨b, 0, rfl, ?_⟩⟩
  refine erel_chunk n cs 0 hn (MRel.ofFn fun i a hi => ⟨Or.inr rfl, ?_⟩)
  obtain ⟨u, hu, hone, hr⟩ := W.row_get hb ho hi
  exact ⟨u, by rw [Nat.zero_add]; exact hu, hone, VRel.mono E hr⟩

theorem CallsA.freeze {P : Program} {f : FuncId} {pre post : List AV} {h : AHeap} {R : AV → AHeap → Prop} {id n sz : Nat} {ty : TypeId} {cs : List AV} (ho : h.objs id = some (.row ty cs)) (hn : n * sz ≤ cs.length) (hm : n ≤ 1000000) (H : CallsA P f (pre ++ .isl sz (chunk sz n cs) :: post) (h.kill id) R) :
    CallsA P f (pre ++ .sl id 0 n sz :: post) h R := by
  rcases H with H | H
  · refine Or.inl ⟨H.1, fun B c w vs W L => ?_⟩
    obtain ⟨c', E, W', L'⟩ := freeze_arg ho hn hm W L
    refine (H.2 B c' w vs W' L').mono fun e w' ⟨c2, u, v, h', h1, E2, h3, h4, h5⟩ => ⟨c2, u, v, h', h1, E.trans E2, h3, h4, h5⟩
  · refine Or.inr fun B c w vs W L => ?_
    obtain ⟨c', E, W', L'⟩ := freeze_arg ho hn hm W L
    obtain ⟨c2, u, v, h', w', h1, E2, h3, h4, h5⟩ := H B c' w vs W' L'
    exact ⟨c2, u, v, h', w', h1, E.trans E2, h3, h4, h5⟩

end Go.Abs
