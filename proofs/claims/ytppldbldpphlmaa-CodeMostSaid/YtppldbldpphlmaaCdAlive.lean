/- What the document tells of two codes. -/
import Derived.Test.YtppldbldpphlmaaCdGreat
import Derived.Test.YtppldbldpphlmaaCdRef
set_option linter.unusedVariables false
set_option linter.unusedSimpArgs false
set_option maxRecDepth 100000
set_option maxHeartbeats 1000000
namespace Go.Proofs.Ytppldbldpphlmaa
open Go.Abs

theorem fits_isl (sz : Nat) (es : List (List AV)) : (AV.isl sz es).fits = true := rfl
theorem cells_isl (sz : Nat) (es : List (List AV)) : (AV.isl sz es).cells = [AV.isl sz es] := rfl
theorem bsl_one (e : TypeId) (sz by_ : Nat) (z cs : List AV) (h : AHeap) (K : AV → AHeap → Prop) : pBuildSl true { e := e, sz := sz, by_ := by_ } z 1 [(0, .agg cs)] h K = (sz ≤ 16777216 ∧ z.length = sz ∧ cs.length = sz ∧ K (.isl sz [cs]) h) := by
  simp [pBuildSl, fillE, AV.fits, AV.cells]
  by_cases hc : cs.length = sz <;> simp [hc]
theorem bsl_two (e : TypeId) (sz by_ : Nat) (z cs ds : List AV) (h : AHeap) (K : AV → AHeap → Prop) : pBuildSl true { e := e, sz := sz, by_ := by_ } z 2 [(0, .agg cs), (1, .agg ds)] h K = (2 * sz ≤ 16777216 ∧ z.length = sz ∧ cs.length = sz ∧ ds.length = sz ∧ K (.isl sz [cs, ds]) h) := by
  simp [pBuildSl, fillE, AV.fits, AV.cells]
  by_cases hc : cs.length = sz <;> by_cases hd : ds.length = sz <;> simp [hc, hd, List.replicate]

theorem code_Good_p (c : Cd) (hc : c.ok) (hs : (slL c.Sections).length ≤ 1000000) (hsi : (slL c.Sites).length ≤ 1000000) (hg : (slL c.Globals).length ≤ 1000000) (hr : ∀ r ∈ slL c.Records, (slL r).length ≤ 1000000) (h : AHeap) : CallsA Try.prog 26 [.agg c.cells] h (fun v h2 => v = .bool (okC c) ∧ h2 = h) := CallsA.forget (by simp [idsIn]) (code_Good_does c hc hs hsi hg hr h)
theorem code_Good_s (c : Cd) (hc : c.ok) (s : Small c) (h : AHeap) : CallsA Try.prog 26 [.agg c.cells] h (fun v h2 => v = .bool (okC c) ∧ h2 = h) := code_Good_p c hc (by have := s.secs; omega) (by have := s.sites; omega) (by have := s.globs; omega) (fun r hr => by have := s.fields r hr; omega) h

def aliveC : Cd := ⟨none, none, some [⟨none, some [⟨17, 0, 0, 0, 0, 0, none, none⟩], 0⟩], none, none⟩
def aliveD : Cd := ⟨none, some [⟨1, 0, false⟩], some [⟨some [⟨1, 0, false⟩], some [⟨2, 0, 0, 0, 0, 0, none, none⟩, ⟨17, 0, 0, 0, 0, 0, none, none⟩], 0⟩], none, none⟩
theorem okI_small {n : Int} (h1 : -1000 ≤ n) (h2 : n ≤ 1000) : okI n := ⟨by omega, by omega⟩
theorem aliveC_ok : aliveC.ok := by
  simp [aliveC, Api_Code.ok, Api_Body.ok, Api_Instr.ok, Api_Local.ok, okSl, okI, okT, maxLen]
theorem aliveD_ok : aliveD.ok := by
  simp [aliveD, Api_Code.ok, Api_Body.ok, Api_Instr.ok, Api_Local.ok, okSl, okI, okT, maxLen]
theorem aliveC_yes : okC aliveC = true := by decide +kernel
theorem aliveD_no : okC aliveD = false := by decide +kernel

theorem alive_k (h : AHeap) : CallsA Try.prog 24 [] h (fun v h2 => v = .bool true ∧ Keeps h h2 (fun _ => False)) := by
  apply padlocklaw09_alive_wp
  (repeat (first | simp -dsimp -implicitDefEqProofs (disch := omega) only [↓gp0, ↓gp1, ↓gp2, gq0, gq1, gq2, gq3, gq4, gq5, gq6, gq7, gq8, gq9, go0, go1, gl0, gl1, gl2, gl3, ↓reduceIte, Nat.reduceEqDiff, Nat.reduceAdd, Nat.reduceLeDiff, pBuild, fillA, ↓Api_Local.r, ↓Api_Item.r, ↓Api_Instr.r, ↓Api_Body.r, ↓Api_Site.r, ↓Api_Section.r, ↓Api_Code.r, ↓Api_Path.r, ↓Code_maker.r, ↓Api_Value.r, bsl_one, bsl_two, fits_isl, cells_isl] | refine Cut.go ?_))
  rw [pStore_push (by rfl) (by rfl)]
  (repeat (first | simp -dsimp -implicitDefEqProofs (disch := omega) only [↓gp0, ↓gp1, ↓gp2, gq0, gq1, gq2, gq3, gq4, gq5, gq6, gq7, gq8, gq9, go0, go1, gl0, gl1, gl2, gl3, ↓reduceIte, Nat.reduceEqDiff, Nat.reduceAdd, Nat.reduceLeDiff, pBuild, fillA, ↓Api_Local.r, ↓Api_Item.r, ↓Api_Instr.r, ↓Api_Body.r, ↓Api_Site.r, ↓Api_Section.r, ↓Api_Code.r, ↓Api_Path.r, ↓Code_maker.r, ↓Api_Value.r, bsl_one, bsl_two, fits_isl, cells_isl] | refine Cut.go ?_))
  rw [pStore_push (by rfl) (by rfl)]
  refine ⟨by decide, ?_⟩
  have o1 : ((h.push (.row 52 aliveC.cells)).push (.row 52 aliveD.cells)).objs h.next = some (.row 52 aliveC.cells) := by simp
  have kp : Keeps h ((h.push (.row 52 aliveC.cells)).push (.row 52 aliveD.cells)) (fun _ => False) := (Keeps.one _ _).go (Keeps.one _ _)
  change @later (AHeap → Prop) _ _ ((h.push (.row 52 aliveC.cells)).push (.row 52 aliveD.cells))
  generalize hH : ((h.push (.row 52 aliveC.cells)).push (.row 52 aliveD.cells)) = H at o1 kp ⊢
  have l1 : ∀ (K : AV → Prop), pLoad (some 5) (.ptr h.next 0) H K = K (.agg aliveC.cells) := fun K => by rw [pLoad_ptr o1]; exact aliveC.call K
  have l2 : ∀ (K : AV → Prop), pLoad (some 5) (.ptr (h.push (.row 52 (Api_Code.cells aliveC))).next 0) H K = K (.agg aliveD.cells) := fun K => by rw [← hH, pLoad_push]; exact aliveD.call K
  have l2' : ∀ (K : AV → Prop), pLoad (some 5) (.ptr (h.push (.row 52 (Api_Code.cells ⟨none, none, some [⟨none, some [⟨17, 0, 0, 0, 0, 0, none, none⟩], 0⟩], none, none⟩))).next 0) H K = K (.agg aliveD.cells) := l2
  (repeat (first | simp -dsimp -implicitDefEqProofs (disch := omega) only [↓gp0, ↓gp1, ↓gp2, gq0, gq1, gq2, gq3, gq4, gq5, gq6, gq7, gq8, gq9, go0, go1, gl0, gl1, gl2, gl3, ↓reduceIte, Nat.reduceEqDiff, Nat.reduceAdd, Nat.reduceLeDiff, pBuild, fillA, ↓Api_Local.r, ↓Api_Item.r, ↓Api_Instr.r, ↓Api_Body.r, ↓Api_Site.r, ↓Api_Section.r, ↓Api_Code.r, ↓Api_Path.r, ↓Code_maker.r, ↓Api_Value.r, ↓l1] | refine Cut.go ?_))
  refine CallsA.go (code_Good_p aliveC aliveC_ok (by decide) (by decide) (by decide) (by decide) _) ?_
  rw [aliveC_yes]
  (repeat (first | simp -dsimp -implicitDefEqProofs (disch := omega) only [↓gp0, ↓gp1, ↓gp2, gq0, gq1, gq2, gq3, gq4, gq5, gq6, gq7, gq8, gq9, go0, go1, gl0, gl1, gl2, gl3, ↓reduceIte, Nat.reduceEqDiff, Nat.reduceAdd, Nat.reduceLeDiff, pBuild, fillA, ↓Api_Local.r, ↓Api_Item.r, ↓Api_Instr.r, ↓Api_Body.r, ↓Api_Site.r, ↓Api_Section.r, ↓Api_Code.r, ↓Api_Path.r, ↓Code_maker.r, ↓Api_Value.r] | refine Cut.go ?_))
  refine Eq.mpr (l2 _) ?_
  (repeat (first | simp -dsimp -implicitDefEqProofs (disch := omega) only [↓gp0, ↓gp1, ↓gp2, gq0, gq1, gq2, gq3, gq4, gq5, gq6, gq7, gq8, gq9, go0, go1, gl0, gl1, gl2, gl3, ↓reduceIte, Nat.reduceEqDiff, Nat.reduceAdd, Nat.reduceLeDiff, pBuild, fillA, ↓Api_Local.r, ↓Api_Item.r, ↓Api_Instr.r, ↓Api_Body.r, ↓Api_Site.r, ↓Api_Section.r, ↓Api_Code.r, ↓Api_Path.r, ↓Code_maker.r, ↓Api_Value.r] | refine Cut.go ?_))
  refine CallsA.go (code_Good_p aliveD aliveD_ok (by decide) (by decide) (by decide) (by decide) _) ?_
  rw [aliveD_no]
  (repeat (first | simp -dsimp -implicitDefEqProofs (disch := omega) only [↓gp0, ↓gp1, ↓gp2, gq0, gq1, gq2, gq3, gq4, gq5, gq6, gq7, gq8, gq9, go0, go1, gl0, gl1, gl2, gl3, ↓reduceIte, Nat.reduceEqDiff, Nat.reduceAdd, Nat.reduceLeDiff, pBuild, fillA, ↓Api_Local.r, ↓Api_Item.r, ↓Api_Instr.r, ↓Api_Body.r, ↓Api_Site.r, ↓Api_Section.r, ↓Api_Code.r, ↓Api_Path.r, ↓Code_maker.r, ↓Api_Value.r, Bool.not_false] | refine Cut.go ?_))
  refine CallsA.go (code_Writes_does ⟨10, 3, 0, 0, 0, 0, none, none⟩ _) ?_
  (repeat (first | simp -dsimp -implicitDefEqProofs (disch := omega) only [↓gp0, ↓gp1, ↓gp2, gq0, gq1, gq2, gq3, gq4, gq5, gq6, gq7, gq8, gq9, go0, go1, gl0, gl1, gl2, gl3, ↓reduceIte, Nat.reduceEqDiff, Nat.reduceAdd, Nat.reduceLeDiff, pBuild, fillA, ↓Api_Local.r, ↓Api_Item.r, ↓Api_Instr.r, ↓Api_Body.r, ↓Api_Site.r, ↓Api_Section.r, ↓Api_Code.r, ↓Api_Path.r, ↓Code_maker.r, ↓Api_Value.r] | refine Cut.go ?_))
  (first | (refine And.intro (by simp) ?_; (repeat (first | assumption | with_reducible exact Keeps.refl _ _ | with_reducible refine Keeps.go ?_ (Keeps.one _ _) | with_reducible refine Keeps.go ?_ (by assumption)))) | (repeat (first | assumption | with_reducible exact Keeps.refl _ _ | with_reducible refine Keeps.go ?_ (Keeps.one _ _) | with_reducible refine Keeps.go ?_ (by assumption))))

theorem alive_does (h : AHeap) : CallsA Try.prog 24 [] h (fun v h2 => v = .bool true ∧ h2 = h) := CallsA.forget (by simp [idsIn]) (alive_k h)

end Go.Proofs.Ytppldbldpphlmaa
