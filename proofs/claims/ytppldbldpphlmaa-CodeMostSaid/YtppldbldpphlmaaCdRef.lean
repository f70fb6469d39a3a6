/- What the document's functions of codes compute: the small ones. -/
import Derived.Test.YtppldbldpphlmaaCdProg7
import Derived.Test.YtppldbldpphlmaaAbsForget
set_option linter.unusedVariables false
set_option linter.unusedSimpArgs false
set_option maxRecDepth 100000
set_option maxHeartbeats 1000000
namespace Go.Proofs.Ytppldbldpphlmaa
open Go.Abs

theorem ref_local_does (c : Cd) (l : Lo) (h : AHeap) : CallsA Try.prog 55 [.agg c.cells, .agg l.cells] h (fun v h2 => v = .bool (localB c l) ∧ h2 = h) := by
  apply padlockref09_local_wp
  unfold localB
  (repeat (first | simp -dsimp -implicitDefEqProofs (disch := omega) only [↓gp0, ↓gp1, ↓gp2, gq0, gq1, gq2, gq3, gq4, gq5, gq6, gq7, gq8, gq9, go0, go1, gl0, gl1, gl2, gl3, ↓reduceIte, Nat.reduceEqDiff, Nat.reduceAdd, Nat.reduceLeDiff, pBuild, fillA, ↓Api_Local.r, ↓Api_Item.r, ↓Api_Instr.r, ↓Api_Body.r, ↓Api_Site.r, ↓Api_Section.r, ↓Api_Code.r, ↓Api_Path.r, ↓Code_maker.r, ↓Api_Value.r] | refine Cut.go ?_))
  refine Split_eq (fun h4 => ?_) (fun h4 => ?_)
  · (repeat (first | simp -dsimp -implicitDefEqProofs (disch := omega) only [↓gp0, ↓gp1, ↓gp2, gq0, gq1, gq2, gq3, gq4, gq5, gq6, gq7, gq8, gq9, go0, go1, gl0, gl1, gl2, gl3, ↓reduceIte, Nat.reduceEqDiff, Nat.reduceAdd, Nat.reduceLeDiff, pBuild, fillA, ↓Api_Local.r, ↓Api_Item.r, ↓Api_Instr.r, ↓Api_Body.r, ↓Api_Site.r, ↓Api_Section.r, ↓Api_Code.r, ↓Api_Path.r, ↓Code_maker.r, ↓Api_Value.r] | refine Cut.go ?_))
    rw [if_pos h4]
    exact ref_in_does _ _ _
  · rw [if_neg h4]
    repeat' (first | (simp -dsimp -implicitDefEqProofs (disch := omega) only [↓gp0, ↓gp1, ↓gp2, gq0, gq1, gq2, gq3, gq4, gq5, gq6, gq7, gq8, gq9, go0, go1, gl0, gl1, gl2, gl3, ↓reduceIte, Nat.reduceEqDiff, Nat.reduceAdd, Nat.reduceLeDiff, pBuild, fillA, ↓Api_Local.r, ↓Api_Item.r, ↓Api_Instr.r, ↓Api_Body.r, ↓Api_Site.r, ↓Api_Section.r, ↓Api_Code.r, ↓Api_Path.r, ↓Code_maker.r, ↓Api_Value.r]) | refine Cut.go ?_ | refine Split_eq (fun _ => ?_) (fun _ => ?_) | refine Split_ne (fun _ => ?_) (fun _ => ?_) | refine Split_lt (fun _ => ?_) (fun _ => ?_) | refine Split_le (fun _ => ?_) (fun _ => ?_) | refine Split.intro (fun _ => ?_) (fun _ => ?_))
    all_goals (simp [beqI, *])
    all_goals omega

theorem ref_Inside_does (c : Cd) (hl : (slL c.Sections).length ≤ 1000000) (t a : Int) (h : AHeap) : CallsA Try.prog 29 [.agg c.cells, .int .i64 t, .int .i64 a] h (fun v h2 => v = .int .i64 (insI c t a) ∧ Keeps h h2 (fun _ => False)) := by
  apply padlockref09_Inside_wp
  (repeat (first | simp -dsimp -implicitDefEqProofs (disch := omega) only [↓gp0, ↓gp1, ↓gp2, gq0, gq1, gq2, gq3, gq4, gq5, gq6, gq7, gq8, gq9, go0, go1, gl0, gl1, gl2, gl3, ↓reduceIte, Nat.reduceEqDiff, Nat.reduceAdd, Nat.reduceLeDiff, pBuild, fillA, ↓Api_Local.r, ↓Api_Item.r, ↓Api_Instr.r, ↓Api_Body.r, ↓Api_Site.r, ↓Api_Section.r, ↓Api_Code.r, ↓Api_Path.r, ↓Code_maker.r, ↓Api_Value.r] | refine Cut.go ?_))
  refine WP_loop mixed_ (by kernel_rfl) (fun n fr hh => ∃ k : Nat, k ≤ (slL c.Sections).length ∧ n = (slL c.Sections).length - k ∧ (∀ j x, j < k → (slL c.Sections)[j]? = some x → secP t a x = false) ∧ Keeps h hh (fun _ => False) ∧ fr = frOf [(1, .int .i64 t), (2, .int .i64 a), (10, slAV 3 Api_Section.cells c.Sections), (11, .int .i64 (slL c.Sections).length), (12, .int .i64 k)]) (slL c.Sections).length ⟨0, by omega, by omega, fun j x hj => by omega, .refl _ _, rfl⟩ ?_
  rintro n fr hh ⟨k, hk, rfl, hup, kp, rfl⟩
  apply padlockref09_Inside_loop2
  generalize hI : (fun (n : Nat) (fr : Fr) (hh : AHeap) => _) = I
  (repeat (first | simp -dsimp -implicitDefEqProofs (disch := omega) only [↓gp0, ↓gp1, ↓gp2, gq0, gq1, gq2, gq3, gq4, gq5, gq6, gq7, gq8, gq9, go0, go1, gl0, gl1, gl2, gl3, ↓reduceIte, Nat.reduceEqDiff, Nat.reduceAdd, Nat.reduceLeDiff, pBuild, fillA, ↓Api_Local.r, ↓Api_Item.r, ↓Api_Instr.r, ↓Api_Body.r, ↓Api_Site.r, ↓Api_Section.r, ↓Api_Code.r, ↓Api_Path.r, ↓Code_maker.r, ↓Api_Value.r] | refine Cut.go ?_))
  refine Split_lt (fun hkl => ?_) (fun hkl => ?_)
  · obtain ⟨s, hx⟩ : ∃ s, (slL c.Sections)[k]? = some s := ⟨_, List.getElem?_eq_getElem (by omega)⟩
    have kp1 : Keeps h (hh.push (.row 77 s.cells)) (fun _ => False) := kp.go (Keeps.one _ _)
    have yes : secP t a s = true → insI c t a = k := fun hp => posI_here hx hp hup
    have on : secP t a s = false → loopPost I ((slL c.Sections).length - k) (exitQ (fun _ _ => False) (fun _ _ _ => False) (fun _ _ => False)) .normal (frOf [(1, .int .i64 t), (2, .int .i64 a), (10, slAV 3 Api_Section.cells c.Sections), (11, .int .i64 (slL c.Sections).length), (12, .int .i64 (k + 1 : Nat))]) (hh.push (.row 77 s.cells)) := fun hm => by
      rw [loopPost_normal, ← hI]
      refine ⟨_, by omega, k + 1, by omega, rfl, fun j y hj hy => ?_, kp1, rfl⟩
      by_cases e : j = k
      · subst e; rw [hx] at hy; cases hy; exact hm
      · exact hup j y (by omega) hy
    simp only [loopPost_normal] at on
    repeat' (first | (simp -dsimp -implicitDefEqProofs (disch := omega) only [↓gp0, ↓gp1, ↓gp2, gq0, gq1, gq2, gq3, gq4, gq5, gq6, gq7, gq8, gq9, go0, go1, gl0, gl1, gl2, gl3, ↓reduceIte, Nat.reduceEqDiff, Nat.reduceAdd, Nat.reduceLeDiff, pBuild, fillA, ↓Api_Local.r, ↓Api_Item.r, ↓Api_Instr.r, ↓Api_Body.r, ↓Api_Site.r, ↓Api_Section.r, ↓Api_Code.r, ↓Api_Path.r, ↓Code_maker.r, ↓Api_Value.r, pIndexAddr_slAV hx, wkS k (by omega), loopPost_normal]) | refine Cut.go ?_ | refine Split_eq (fun _ => ?_) (fun _ => ?_) | refine Split_ne (fun _ => ?_) (fun _ => ?_) | refine Split_lt (fun _ => ?_) (fun _ => ?_) | refine Split_le (fun _ => ?_) (fun _ => ?_) | refine Split.intro (fun _ => ?_) (fun _ => ?_))
    all_goals first
      | exact on (by simp [secP, *]; try omega)
      | (rw [yes (by simp [secP, *])]; exact ⟨rfl, kp1⟩)
  · have hke : k = (slL c.Sections).length := by omega
    subst hke
    (repeat (first | simp -dsimp -implicitDefEqProofs (disch := omega) only [↓gp0, ↓gp1, ↓gp2, gq0, gq1, gq2, gq3, gq4, gq5, gq6, gq7, gq8, gq9, go0, go1, gl0, gl1, gl2, gl3, ↓reduceIte, Nat.reduceEqDiff, Nat.reduceAdd, Nat.reduceLeDiff, pBuild, fillA, ↓Api_Local.r, ↓Api_Item.r, ↓Api_Instr.r, ↓Api_Body.r, ↓Api_Site.r, ↓Api_Section.r, ↓Api_Code.r, ↓Api_Path.r, ↓Code_maker.r, ↓Api_Value.r] | refine Cut.go ?_))
    exact ⟨by unfold insI; rw [posI_none hup], kp⟩

def hasT : List (List UInt8) := [[], [100, 105], [100, 110], [100, 115, 114, 110], [100, 115, 120], [110, 105], [115, 114, 110, 105], [115, 120, 105], [100, 114, 110], [100, 105, 110], [100, 115], [105], [105], [116], [116, 105], [110], [110], []]
def hasS (op : Int) : List UInt8 := if op < 1 ∨ 18 ≤ op then [63] else hasT.getD op.toNat []

theorem ref_Has_does (op : Int) (h : AHeap) : CallsA Try.prog 71 [.int .i64 op] h (fun v h2 => v = .str (hasS op) ∧ h2 = h) := by
  apply padlockref09_Has_wp
  refine ⟨by omega, by decide, rfl, ?_⟩
  have hf : fillE 1 (List.replicate 18 [AV.str []]) [(0, AV.str []), (1, AV.str [100, 105]), (2, AV.str [100, 110]), (3, AV.str [100, 115, 114, 110]), (4, AV.str [100, 115, 120]), (5, AV.str [110, 105]), (6, AV.str [115, 114, 110, 105]), (7, AV.str [115, 120, 105]), (8, AV.str [100, 114, 110]), (9, AV.str [100, 105, 110]), (10, AV.str [100, 115]), (11, AV.str [105]), (12, AV.str [105]), (13, AV.str [116]), (14, AV.str [116, 105]), (15, AV.str [110]), (16, AV.str [110]), (17, AV.str [])] = some (hasT.map fun s => [AV.str s]) := by
    simp [fillE, hasT, List.replicate, AV.fits, AV.cells]
  simp only [Nat.reduceAdd]
  rw [hf]
  simp only [if_true]
  (repeat (first | simp -dsimp -implicitDefEqProofs (disch := omega) only [↓gp0, ↓gp1, ↓gp2, gq0, gq1, gq2, gq3, gq4, gq5, gq6, gq7, gq8, gq9, go0, go1, gl0, gl1, gl2, gl3, ↓reduceIte, Nat.reduceEqDiff, Nat.reduceAdd, Nat.reduceLeDiff, pBuild, fillA, ↓Api_Local.r, ↓Api_Item.r, ↓Api_Instr.r, ↓Api_Body.r, ↓Api_Site.r, ↓Api_Section.r, ↓Api_Code.r, ↓Api_Path.r, ↓Code_maker.r, ↓Api_Value.r] | refine Cut.go ?_))
  have hl : (hasT.map fun s => [AV.str s]).length = 18 := rfl
  unfold hasS
  refine Split_lt (fun h1 => ?_) (fun h1 => ?_)
  · (repeat (first | simp -dsimp -implicitDefEqProofs (disch := omega) only [↓gp0, ↓gp1, ↓gp2, gq0, gq1, gq2, gq3, gq4, gq5, gq6, gq7, gq8, gq9, go0, go1, gl0, gl1, gl2, gl3, ↓reduceIte, Nat.reduceEqDiff, Nat.reduceAdd, Nat.reduceLeDiff, pBuild, fillA, ↓Api_Local.r, ↓Api_Item.r, ↓Api_Instr.r, ↓Api_Body.r, ↓Api_Site.r, ↓Api_Section.r, ↓Api_Code.r, ↓Api_Path.r, ↓Code_maker.r, ↓Api_Value.r] | refine Cut.go ?_))
    rw [if_pos (Or.inl h1)]
  (repeat (first | simp -dsimp -implicitDefEqProofs (disch := omega) only [↓gp0, ↓gp1, ↓gp2, gq0, gq1, gq2, gq3, gq4, gq5, gq6, gq7, gq8, gq9, go0, go1, gl0, gl1, gl2, gl3, ↓reduceIte, Nat.reduceEqDiff, Nat.reduceAdd, Nat.reduceLeDiff, pBuild, fillA, ↓Api_Local.r, ↓Api_Item.r, ↓Api_Instr.r, ↓Api_Body.r, ↓Api_Site.r, ↓Api_Section.r, ↓Api_Code.r, ↓Api_Path.r, ↓Code_maker.r, ↓Api_Value.r] | refine Cut.go ?_))
  rw [hl]
  refine Split_le (fun h2 => ?_) (fun h2 => ?_)
  · (repeat (first | simp -dsimp -implicitDefEqProofs (disch := omega) only [↓gp0, ↓gp1, ↓gp2, gq0, gq1, gq2, gq3, gq4, gq5, gq6, gq7, gq8, gq9, go0, go1, gl0, gl1, gl2, gl3, ↓reduceIte, Nat.reduceEqDiff, Nat.reduceAdd, Nat.reduceLeDiff, pBuild, fillA, ↓Api_Local.r, ↓Api_Item.r, ↓Api_Instr.r, ↓Api_Body.r, ↓Api_Site.r, ↓Api_Section.r, ↓Api_Code.r, ↓Api_Path.r, ↓Code_maker.r, ↓Api_Value.r] | refine Cut.go ?_))
    rw [if_pos (Or.inr (by omega))]
  · rw [if_neg (by omega)]
    have hn : op.toNat < 18 := by omega
    have hg : (hasT.map fun s => [AV.str s])[op.toNat]? = some [AV.str (hasT.getD op.toNat [])] := by
      rw [List.getElem?_map, List.getElem?_eq_getElem (by rw [show hasT.length = 18 from rfl]; exact hn)]
      simp [List.getD_eq_getElem?_getD, show op.toNat < hasT.length from hn]
    have hix : ∀ K : AV → Prop, pIndexAddr (.slice 1) (.isl 1 (hasT.map fun s => [AV.str s])) (.int .i64 op) K = K (.iptr [AV.str (hasT.getD op.toNat [])]) := fun K => by
      have h0 : 0 ≤ op := by omega
      have h18 : op < 18 := by omega
      simp only [pIndexAddr, hl, hg]
      simp [h0, h18]
    (repeat (first | simp -dsimp -implicitDefEqProofs (disch := omega) only [↓gp0, ↓gp1, ↓gp2, gq0, gq1, gq2, gq3, gq4, gq5, gq6, gq7, gq8, gq9, go0, go1, gl0, gl1, gl2, gl3, ↓reduceIte, Nat.reduceEqDiff, Nat.reduceAdd, Nat.reduceLeDiff, pBuild, fillA, ↓Api_Local.r, ↓Api_Item.r, ↓Api_Instr.r, ↓Api_Body.r, ↓Api_Site.r, ↓Api_Section.r, ↓Api_Code.r, ↓Api_Path.r, ↓Code_maker.r, ↓Api_Value.r, hix] | refine Cut.go ?_))

theorem ref_has_does (s : List UInt8) (hs : s.length ≤ 1000) (c : UInt8) (h : AHeap) : CallsA Try.prog 72 [.str s, .int .u8 (c.toNat : Int)] h (fun v h2 => v = .bool (s.contains c) ∧ h2 = h) := by
  apply padlockref09_has_wp
  (repeat (first | simp -dsimp -implicitDefEqProofs (disch := omega) only [↓gp0, ↓gp1, ↓gp2, gq0, gq1, gq2, gq3, gq4, gq5, gq6, gq7, gq8, gq9, go0, go1, gl0, gl1, gl2, gl3, ↓reduceIte, Nat.reduceEqDiff, Nat.reduceAdd, Nat.reduceLeDiff, pBuild, fillA, ↓Api_Local.r, ↓Api_Item.r, ↓Api_Instr.r, ↓Api_Body.r, ↓Api_Site.r, ↓Api_Section.r, ↓Api_Code.r, ↓Api_Path.r, ↓Code_maker.r, ↓Api_Value.r] | refine Cut.go ?_))
  refine WP_loop mixed_ (by kernel_rfl) (fun n fr hh => ∃ k : Nat, k ≤ s.length ∧ n = s.length - k ∧ (s.take k).contains c = false ∧ hh = h ∧ fr = frOf [(0, .str s), (1, .int .u8 (c.toNat : Int)), (5, .int .i64 k)]) s.length ⟨0, by omega, by omega, by simp, rfl, rfl⟩ ?_
  rintro n fr hh ⟨k, hk, rfl, hup, rfl, rfl⟩
  apply padlockref09_has_loop2
  generalize hI : (fun (n : Nat) (fr : Fr) (hh : AHeap) => _) = I
  (repeat (first | simp -dsimp -implicitDefEqProofs (disch := omega) only [↓gp0, ↓gp1, ↓gp2, gq0, gq1, gq2, gq3, gq4, gq5, gq6, gq7, gq8, gq9, go0, go1, gl0, gl1, gl2, gl3, ↓reduceIte, Nat.reduceEqDiff, Nat.reduceAdd, Nat.reduceLeDiff, pBuild, fillA, ↓Api_Local.r, ↓Api_Item.r, ↓Api_Instr.r, ↓Api_Body.r, ↓Api_Site.r, ↓Api_Section.r, ↓Api_Code.r, ↓Api_Path.r, ↓Code_maker.r, ↓Api_Value.r] | refine Cut.go ?_))
  refine Split_lt (fun hkl => ?_) (fun hkl => ?_)
  · obtain ⟨x, hx⟩ : ∃ x, s[k]? = some x := ⟨_, List.getElem?_eq_getElem (by omega)⟩
    have hix : ∀ K : AV → Prop, pIndexStr (.str s) (.int .i64 (k : Int)) K = K (.int .u8 (x.toNat : Int)) := fun K => by
      simp [pIndexStr, hx]
    have ht : s.take (k + 1) = s.take k ++ [x] := by rw [List.take_add_one, hx]; rfl
    (repeat (first | simp -dsimp -implicitDefEqProofs (disch := omega) only [↓gp0, ↓gp1, ↓gp2, gq0, gq1, gq2, gq3, gq4, gq5, gq6, gq7, gq8, gq9, go0, go1, gl0, gl1, gl2, gl3, ↓reduceIte, Nat.reduceEqDiff, Nat.reduceAdd, Nat.reduceLeDiff, pBuild, fillA, ↓Api_Local.r, ↓Api_Item.r, ↓Api_Instr.r, ↓Api_Body.r, ↓Api_Site.r, ↓Api_Section.r, ↓Api_Code.r, ↓Api_Path.r, ↓Code_maker.r, ↓Api_Value.r, hix] | refine Cut.go ?_))
    refine Split_eq (fun e => ?_) (fun e => ?_)
    · (repeat (first | simp -dsimp -implicitDefEqProofs (disch := omega) only [↓gp0, ↓gp1, ↓gp2, gq0, gq1, gq2, gq3, gq4, gq5, gq6, gq7, gq8, gq9, go0, go1, gl0, gl1, gl2, gl3, ↓reduceIte, Nat.reduceEqDiff, Nat.reduceAdd, Nat.reduceLeDiff, pBuild, fillA, ↓Api_Local.r, ↓Api_Item.r, ↓Api_Instr.r, ↓Api_Body.r, ↓Api_Site.r, ↓Api_Section.r, ↓Api_Code.r, ↓Api_Path.r, ↓Code_maker.r, ↓Api_Value.r] | refine Cut.go ?_))
      have : x = c := by
        have e' : x.toNat = c.toNat := by omega
        exact UInt8.toNat_inj.1 e'
      subst this
      simp [List.mem_of_getElem? hx]
    · have hne : x ≠ c := fun e' => e (by rw [e'])
      (repeat (first | simp -dsimp -implicitDefEqProofs (disch := omega) only [↓gp0, ↓gp1, ↓gp2, gq0, gq1, gq2, gq3, gq4, gq5, gq6, gq7, gq8, gq9, go0, go1, gl0, gl1, gl2, gl3, ↓reduceIte, Nat.reduceEqDiff, Nat.reduceAdd, Nat.reduceLeDiff, pBuild, fillA, ↓Api_Local.r, ↓Api_Item.r, ↓Api_Instr.r, ↓Api_Body.r, ↓Api_Site.r, ↓Api_Section.r, ↓Api_Code.r, ↓Api_Path.r, ↓Code_maker.r, ↓Api_Value.r, wkS k (by omega)] | refine Cut.go ?_))
      rw [loopPost_normal, ← hI]
      refine ⟨_, by omega, k + 1, by omega, rfl, ?_, rfl, rfl⟩
      rw [ht, Bool.eq_false_iff]
      simp only [ne_eq, List.contains_iff_mem, List.mem_append, List.mem_singleton]
      rintro (h1 | h1)
      · rw [List.contains_iff_mem.2 h1] at hup; cases hup
      · exact hne h1.symm
  · have hke : k = s.length := by omega
    subst hke
    rw [List.take_length] at hup
    (repeat (first | simp -dsimp -implicitDefEqProofs (disch := omega) only [↓gp0, ↓gp1, ↓gp2, gq0, gq1, gq2, gq3, gq4, gq5, gq6, gq7, gq8, gq9, go0, go1, gl0, gl1, gl2, gl3, ↓reduceIte, Nat.reduceEqDiff, Nat.reduceAdd, Nat.reduceLeDiff, pBuild, fillA, ↓Api_Local.r, ↓Api_Item.r, ↓Api_Instr.r, ↓Api_Body.r, ↓Api_Site.r, ↓Api_Section.r, ↓Api_Code.r, ↓Api_Path.r, ↓Code_maker.r, ↓Api_Value.r] | refine Cut.go ?_))
    rw [hup]

theorem CallsA.go {P : Program} {f : FuncId} {args : List AV} {h : AHeap} {v0 : AV} {K : AV → AHeap → Prop} (H : CallsA P f args h (fun v h2 => v = v0 ∧ h2 = h)) (hk : K v0 h) : CallsA P f args h K := H.mono (by rintro _ _ ⟨rfl, rfl⟩; exact hk)

theorem ref_Inside_p (c : Cd) (hl : (slL c.Sections).length ≤ 1000000) (t a : Int) (h : AHeap) : CallsA Try.prog 29 [.agg c.cells, .int .i64 t, .int .i64 a] h (fun v h2 => v = .int .i64 (insI c t a) ∧ h2 = h) := CallsA.forget (by simp [idsIn]) (ref_Inside_does c hl t a h)
theorem has_100 (s : List UInt8) (hs : s.length ≤ 1000) (h : AHeap) : CallsA Try.prog 72 [.str s, .int .u8 100] h (fun v h2 => v = .bool (s.contains 100) ∧ h2 = h) := ref_has_does s hs 100 h
theorem has_115 (s : List UInt8) (hs : s.length ≤ 1000) (h : AHeap) : CallsA Try.prog 72 [.str s, .int .u8 115] h (fun v h2 => v = .bool (s.contains 115) ∧ h2 = h) := ref_has_does s hs 115 h
theorem has_114 (s : List UInt8) (hs : s.length ≤ 1000) (h : AHeap) : CallsA Try.prog 72 [.str s, .int .u8 114] h (fun v h2 => v = .bool (s.contains 114) ∧ h2 = h) := ref_has_does s hs 114 h
theorem has_110 (s : List UInt8) (hs : s.length ≤ 1000) (h : AHeap) : CallsA Try.prog 72 [.str s, .int .u8 110] h (fun v h2 => v = .bool (s.contains 110) ∧ h2 = h) := ref_has_does s hs 110 h
theorem has_116 (s : List UInt8) (hs : s.length ≤ 1000) (h : AHeap) : CallsA Try.prog 72 [.str s, .int .u8 116] h (fun v h2 => v = .bool (s.contains 116) ∧ h2 = h) := ref_has_does s hs 116 h
theorem has_105 (s : List UInt8) (hs : s.length ≤ 1000) (h : AHeap) : CallsA Try.prog 72 [.str s, .int .u8 105] h (fun v h2 => v = .bool (s.contains 105) ∧ h2 = h) := ref_has_does s hs 105 h
theorem has_120 (s : List UInt8) (hs : s.length ≤ 1000) (h : AHeap) : CallsA Try.prog 72 [.str s, .int .u8 120] h (fun v h2 => v = .bool (s.contains 120) ∧ h2 = h) := ref_has_does s hs 120 h

theorem keeps_put {h g : AHeap} (k : Keeps h g (fun _ => False)) {id : Nat} (hid : h.next ≤ id) (o : AObj) : Keeps h (g.put id o) (fun _ => False) :=
  ⟨k.next, fun i hi hs => by simp only [AHeap.put_objs]; rw [if_neg (by omega)]; exact k.objs i hi hs⟩
/-- One of a list by its number; any, if there is none. -/
def gD {α : Type} [Inhabited α] (o : Option (List α)) (n : Int) : α := (getI (slL o) n).getD default
theorem gD_some {α : Type} [Inhabited α] {o : Option (List α)} {n : Int} (hq : btw n (slL o).length = true) : getI (slL o) n = some (gD o n) := by
  obtain ⟨x, hx⟩ := getI_some.1 hq
  unfold gD; rw [hx]; rfl
theorem ixB_go {α : Type} [Inhabited α] {sz : Nat} {enc : α → List AV} {o : Option (List α)} {n : Int} {kk : IntKind} {K : AV → Prop} (hq : btw n (slL o).length = true) (hk : K (.iptr (enc (gD o n)))) : pIndexAddr (.slice sz) (slAV sz enc o) (.int kk n) K := by
  rw [ixI (gD_some hq)]; exact hk
theorem getI_no {α : Type} {o : Option (List α)} {n : Int} (hq : btw n (slL o).length = false) : getI (slL o) n = none := getI_none.1 hq
theorem site_iff (s : Api_Site) (t a r : Int) : s = ⟨t, a, r⟩ ↔ s.Thread = t ∧ s.At = a ∧ s.Rec = r := by cases s; simp
theorem isB_btw {b : Bd} {n : Int} {want : Lo} (hq : btw n (slL b.Slots).length = true) : isB b n want = sameB (gD b.Slots n) want := by unfold isB; rw [gD_some hq]
theorem isB_not {b : Bd} {n : Int} {want : Lo} (hq : btw n (slL b.Slots).length = false) : isB b n want = false := by unfold isB; rw [getI_none.1 hq]
theorem fieldO_eq (c : Cd) (b : Bd) (x : In) : fieldO c b x = if btw x.Rec (slL c.Records).length = true ∧ btw x.N (slL (gD c.Records x.Rec)).length = true ∧ isB b x.Src ⟨4, x.Rec, false⟩ = true then some (gD (gD c.Records x.Rec) x.N) else none := by
  unfold fieldO
  cases h1 : btw x.Rec (slL c.Records).length with
  | false => rw [getI_none.1 h1]; simp
  | true =>
    rw [gD_some h1]
    simp only
    cases h2 : btw x.N (slL (gD c.Records x.Rec)).length with
    | false => rw [getI_none.1 h2]; simp
    | true => rw [gD_some h2]; simp
theorem hasS_len (op : Int) : (hasS op).length ≤ 1000 := by
  unfold hasS
  split
  · decide
  · have : ∀ n : Nat, (hasT.getD n []).length ≤ 4 := fun n => by
      by_cases h : n < 18
      · have : ∀ m : Fin 18, (hasT.getD m.1 []).length ≤ 4 := by decide
        exact this ⟨n, h⟩
      · rw [List.getD_eq_getElem?_getD, List.getElem?_eq_none (by rw [show hasT.length = 18 from rfl]; omega)]; simp
    have := this op.toNat
    omega

end Go.Proofs.Ytppldbldpphlmaa
