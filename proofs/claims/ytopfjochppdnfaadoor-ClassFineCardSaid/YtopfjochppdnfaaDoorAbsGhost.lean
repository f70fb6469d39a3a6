/- Steps of knowledge: what was written becomes a slice by value. -/
import Derived.Test.YtopfjochppdnfaaDoorAbsArgs
set_option linter.unusedVariables false
set_option linter.unusedSimpArgs false
namespace Go.Abs
open Go.RowKit

theorem WP.ghostPost {P : Program} {N : Nat} {code : Code} {fr : Fr} {h : AHeap} {Q Q' : AExit → Fr → AHeap → Prop} (H : WP P N code fr h Q') (hq : ∀ e fr h, Q' e fr h → ∃ fr2 h2, Ghost fr h fr2 h2 ∧ Q e fr2 h2) : WP P N code fr h Q := by
  intro ro ds B c w a hro W F
  refine wpIn_mono (H ro ds B c w a hro W F) ?_
  rintro e a' w' ⟨Ds, c', fr', h', ae, h1, h2, h3, h4, hM, h5⟩
  obtain ⟨fr2, h2', G, q⟩ := hq ae fr' h' h5
  obtain ⟨c2, E, W2, F2⟩ := G N _ B c' w' a' h3 h4
  exact ⟨Ds, c2, fr2, h2', ae, h1, h2.trans E, W2, F2, hM, q⟩

theorem Ghost.refl (fr : Fr) (h : AHeap) : Ghost fr h fr h := fun N ds B c w a W F => ⟨c, Ext.refl _ _ _, W, F⟩

/-- One's own row in a slot becomes read-only. -/
theorem Ghost.freeze {fr : Fr} {h : AHeap} {s id n sz : Nat} {ty : TypeId} {cs : List AV} (hs : fr s = .sl id 0 n sz) (ho : h.objs id = some (.row ty cs)) (hn : n * sz ≤ cs.length) (hm : n ≤ 1000000) :
    Ghost fr h (fun i => if i = s then .isl sz (chunk sz n cs) else fr i) (h.kill id) := by
  intro N ds B c w a W F
  have hv := F.2.2 s
  rw [hs] at hv
  obtain ⟨c', E, W', L⟩ := freeze_arg (pre := []) (post := []) (vs := [a.tmps.getD s undef]) ho hn hm W (by simp only [List.nil_append, LRel]; exact ⟨_, _, rfl, hv, rfl⟩)
  refine ⟨c', E, W', F.1, F.2.1, fun i => ?_⟩
  by_cases e : i = s
  · subst e
    simp only [if_true]
    simp only [List.nil_append, LRel] at L
    obtain ⟨v, vs, he, hv, -⟩ := L
    injection he with he1 he2
    rw [he1]; exact hv
  · simp only [if_neg e]
    exact VRel.mono E (F.2.2 i)

theorem chunk_flat (sz : Nat) : ∀ (es : List (List AV)), (∀ e ∈ es, e.length = sz) → chunk sz es.length es.flatten = es
  | [], _ => rfl
  | e :: es, h => by
    have he := h e (List.mem_cons_self ..)
    subst he
    simp only [List.length_cons, chunk, List.flatten_cons, List.take_left', List.drop_left', List.take_left, List.drop_left]
    rw [chunk_flat _ es fun x hx => h x (List.mem_cons_of_mem _ hx)]

end Go.Abs
