/- One's own row within an aggregate becomes read-only from a call on. -/
import Derived.Test.YtopfjochppdnfaaDoorAbsGhost
import Derived.Test.YtopfjochppdnfaaDoorAbsForget
set_option linter.unusedVariables false
set_option linter.unusedSimpArgs false
namespace Go.Abs
open Go.RowKit

theorem freeze_agg {B : Nat} {c : Ctx} {h : AHeap} {w : World} {id n sz : Nat} {ty : TypeId} {cs pre post xs0 ys0 : List AV} {vs : List Value} (ho : h.objs id = some (.row ty cs)) (hn : n * sz ≤ cs.length) (hm : n ≤ 1000000) (W : WRel B c h w) (L : LRel c w (pre ++ .agg (xs0 ++ .sl id 0 n sz :: ys0) :: post) vs) :
    ∃ c', Ext B c w c' w ∧ WRel B c' (h.kill id) w ∧ LRel c' w (pre ++ .agg (xs0 ++ .isl sz (chunk sz n cs) :: ys0) :: post) vs := by
  obtain ⟨us, ws, rfl, h1, h2⟩ := L.split
  simp only [LRel] at h2
  obtain ⟨v, vs', rfl, hv, h3⟩ := h2
  simp only [VRel] at hv
  obtain ⟨xs, rfl, hx, hone⟩ := hv
  obtain ⟨c', E, W', L'⟩ := freeze_arg ho hn hm W hx
  refine ⟨c', E, W', (LRel.mono E h1).append ?_⟩
  simp only [LRel]
  refine ⟨_, _, rfl, ?_, LRel.mono E h3⟩
  simp only [VRel]
  exact ⟨xs, rfl, L', hone⟩

theorem CallsA.freezeAgg {P : Program} {f : FuncId} {pre post xs0 ys0 : List AV} {h : AHeap} {R : AV → AHeap → Prop} {id n sz : Nat} {ty : TypeId} {cs : List AV} (ho : h.objs id = some (.row ty cs)) (hn : n * sz ≤ cs.length) (hm : n ≤ 1000000) (H : CallsA P f (pre ++ .agg (xs0 ++ .isl sz (chunk sz n cs) :: ys0) :: post) (h.kill id) R) :
    CallsA P f (pre ++ .agg (xs0 ++ .sl id 0 n sz :: ys0) :: post) h R := by
  rcases H with H | H
  · refine Or.inl ⟨H.1, fun B c w vs W L => ?_⟩
    obtain ⟨c', E, W', L'⟩ := freeze_agg ho hn hm W L
    refine (H.2 B c' w vs W' L').mono fun e w' ⟨c2, u, v, h', h1, E2, h3, h4, h5⟩ => ⟨c2, u, v, h', h1, E.trans E2, h3, h4, h5⟩
  · refine Or.inr fun B c w vs W L => ?_
    obtain ⟨c', E, W', L'⟩ := freeze_agg ho hn hm W L
    obtain ⟨c2, u, v, h', w', h1, E2, h3, h4, h5⟩ := H B c' w vs W' L'
    exact ⟨c2, u, v, h', w', h1, E.trans E2, h3, h4, h5⟩

end Go.Abs
