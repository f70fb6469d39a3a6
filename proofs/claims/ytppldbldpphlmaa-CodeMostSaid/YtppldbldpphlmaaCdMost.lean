/- Of a code that can be Most may be any number from 0 to 4096; without its sections it can be only if nothing shared is touched. -/
import Derived.Test.YtppldbldpphlmaaCdIs
import Derived.Test.YtppldbldpphlmaaCdGuards
import Derived.Test.YtppldbldpphlmaaVcM
import Derived.Test.YtppldbldpphlmaaAbsFreeze
set_option linter.unusedVariables false
set_option linter.unusedSimpArgs false
set_option maxRecDepth 100000
set_option maxHeartbeats 1000000
namespace Go.Proofs.Ytppldbldpphlmaa
open Go.Abs

/-- With another Most of one thread. -/
def withMost (c : Cd) (t : Nat) (m : Int) : Cd := { c with Threads := some (((slL c.Threads)).mapIdx fun i b => if i = t then { b with Most := m } else b) }
def noSecs (c : Cd) : Cd := { c with Sections := none }

theorem mapIdx_id {α : Type} (f : Nat → α → α) : ∀ (l : List α), (∀ i x, f i x = x) → l.mapIdx f = l
  | [], _ => rfl
  | a :: l, h => by rw [List.mapIdx_cons, h, mapIdx_id (fun i => f (i + 1)) l (fun i x => h (i + 1) x)]

/-- The row of bodies with one cell written. -/
theorem flat_most (m : Int) : ∀ (l : List Bd) (t : Nat), t < l.length → (l.map Api_Body.cells).flatten.set (t * 3 + 2) (.int .i64 m) = ((l.mapIdx fun i b => if i = t then { b with Most := m } else b).map Api_Body.cells).flatten
  | [], t, h => by simp at h
  | b :: l, 0, _ => by
    rw [List.mapIdx_cons, mapIdx_id _ l (fun i x => by simp)]
    simp [Api_Body.cells]
  | b :: l, t + 1, h => by
    have ih := flat_most m l t (by simpa using h)
    rw [List.mapIdx_cons]
    have e : (t + 1) * 3 + 2 = (t * 3 + 2) + 3 := by omega
    rw [e]
    simp only [List.map_cons, List.flatten_cons]
    have e0 : (if 0 = t + 1 then ({ b with Most := m } : Bd) else b) = b := by simp
    rw [e0]
    have ei : (fun (i : Nat) (b : Bd) => if i + 1 = t + 1 then ({ b with Most := m } : Bd) else b) = fun i b => if i = t then { b with Most := m } else b := by
      funext i b; simp
    rw [ei, ← ih]
    simp [Api_Body.cells, List.set_append]

theorem most_ok {c : Cd} (h : okC c = true) (k : Nat) (hk : k < (slL c.Threads).length) (m : Int) : okC (withMost c k m) = (decide (0 ≤ m) && decide (m ≤ 4096)) := by
  obtain ⟨h1, h2, h3, h4, h5, h6, h7⟩ := okC_parts h
  have ec : ∀ t a, codeAt (withMost c k m) t a = codeAt c t a := fun t a => by
    unfold codeAt withMost
    simp only [slL_some]
    unfold getI
    by_cases h0 : 0 ≤ t
    · rw [if_pos h0, if_pos h0, List.getElem?_mapIdx]
      cases (slL c.Threads)[t.toNat]? with
      | none => rfl
      | some b =>
        simp only [Option.map_some]
        by_cases hh : t.toNat = k
        · rw [if_pos hh]
        · rw [if_neg hh]
    · rw [if_neg h0, if_neg h0]
  have es : sectionsB (withMost c k m) = true := by
    rw [← h4]
    have : ∀ j s, secB (withMost c k m) j s = secB c j s := fun j s => by unfold secB endsB; rw [ec, ec]; rfl
    unfold sectionsB
    have e : secB (withMost c k m) = secB c := by funext j s; exact this j s
    rw [e]; rfl
  have et : sitesB (withMost c k m) = true := by
    rw [← h5]
    unfold sitesB
    have e : siteOk (withMost c k m) = siteOk c := by funext j s; unfold siteOk; rw [ec]
    rw [e]; rfl
  have eth : threadsB (withMost c k m) = (decide (0 ≤ m) && decide (m ≤ 4096)) := by
    have part : ∀ (i : Nat) (b : Bd), (slL c.Threads)[i]? = some b → bodyB c b = true ∧ lastB b = true ∧ instrsB c i b = true := fun i b hb => by
      have := allK_iff.1 h7 i b hb
      unfold threadB at this
      simpa [and_assoc] using this
    have one : ∀ (i : Nat) (b : Bd), (slL c.Threads)[i]? = some b → threadB (withMost c k m) i (if i = k then { b with Most := m } else b) = if i = k then (decide (0 ≤ m) && decide (m ≤ 4096)) else true := fun i b hb => by
      obtain ⟨p1, p2, p3⟩ := part i b hb
      split
      · have q2 : lastB { b with Most := m } = true := p2
        have q3 : instrsB (withMost c k m) i { b with Most := m } = true := p3
        unfold threadB
        rw [q2, q3, Bool.and_true, Bool.and_true]
        have p1' := p1
        unfold bodyB at p1' ⊢
        simp only [Bool.and_eq_true, decide_eq_true_eq] at p1'
        obtain ⟨⟨⟨⟨⟨a1, a2⟩, a3⟩, a4⟩, a5⟩, a6⟩ := p1'
        have a6' : (slL b.Slots).all (localB (withMost c k m)) = true := a6
        simp only [a6', decide_eq_true a1, decide_eq_true a2, decide_eq_true a3, Bool.true_and, Bool.and_true]
      · have q1 : bodyB (withMost c k m) b = true := p1
        have q3 : instrsB (withMost c k m) i b = true := p3
        unfold threadB
        rw [q1, p2, q3]; rfl
    have hget : ∀ i, (slL (withMost c k m).Threads)[i]? = ((slL c.Threads)[i]?).map fun b => if i = k then { b with Most := m } else b := fun i => by
      simp only [withMost, slL_some, List.getElem?_mapIdx]
    rw [Bool.eq_iff_iff]
    unfold threadsB
    rw [allK_iff]
    constructor
    · intro hall
      have hb : (slL c.Threads)[k]? = some (slL c.Threads)[k] := List.getElem?_eq_getElem hk
      have := hall k _ (by rw [hget, hb]; rfl)
      rw [one k _ hb, if_pos rfl] at this
      exact this
    · intro hm i b hb
      rw [hget] at hb
      cases hc : (slL c.Threads)[i]? with
      | none => rw [hc] at hb; cases hb
      | some b0 =>
        rw [hc] at hb
        simp only [Option.map_some, Option.some.injEq] at hb
        subst hb
        rw [one i b0 hc]
        split
        · exact hm
        · rfl
  have e2 : (slL (withMost c k m).Threads).length = (slL c.Threads).length := by simp [withMost]
  unfold okC
  rw [es, et, eth, e2, decide_eq_true h2]
  have e3 : cellsB (withMost c k m) (slL (withMost c k m).Globals) 8 = true := h3
  have e6 : (slL (withMost c k m).Records).all (fun r => cellsB (withMost c k m) (slL r) 6) = true := h6
  rw [e3, e6, decide_eq_true (show (slL (withMost c k m).Records).length ≤ 6 from h1)]
  simp

theorem secs_ok {c : Cd} (h : okC c = true) : okC (noSecs c) = decide (((slL c.Sections).length : Int) = 0) := by
  by_cases h0 : slL c.Sections = []
  · rw [decide_eq_true (by rw [h0]; rfl), ← h]
    have ei : ∀ t a, insI (noSecs c) t a = insI c t a := fun t a => by unfold insI noSecs; rw [h0]; rfl
    have eb : ∀ t b x a, instrB (noSecs c) t b x a = instrB c t b x a := fun t b x a => by
      simp only [instrB, ei, goesB, borderB, loadsB, storesB, fieldO, siteB]
      simp only [noSecs, h0, slL_none]
      first | done | rfl
    simp only [okC, threadsB, threadB, instrsB, eb]
    simp only [sectionsB, noSecs, h0, slL_none]
    rfl
  · rw [decide_eq_false (by intro e; exact h0 (List.length_eq_zero_iff.1 (by omega)))]
    obtain ⟨s, hs⟩ : ∃ s, (slL c.Sections)[0]? = some s := ⟨_, List.getElem?_eq_getElem (List.length_pos_iff.2 h0)⟩
    obtain ⟨-, -, -, h4, -, -, h7⟩ := okC_parts h
    unfold sectionsB at h4
    rw [Bool.and_eq_true] at h4
    have hb := allK_iff.1 h4.2 0 s hs
    unfold secB endsB codeAt at hb
    cases hth : getI (slL c.Threads) s.Thread with
    | none => rw [hth] at hb; simp at hb
    | some b =>
      cases hx : getI (slL b.Code) s.From with
      | none => rw [hth] at hb; simp [hx] at hb
      | some x =>
        rw [hth] at hb
        simp only [hx, Bool.and_eq_true, decide_eq_true_eq] at hb
        obtain ⟨⟨⟨-, h15, -⟩, -⟩, -⟩ := hb
        rw [Bool.eq_false_iff]
        intro hok
        obtain ⟨-, -, -, -, -, -, g7⟩ := okC_parts hok
        obtain ⟨i, -, hi⟩ := getI_nat hth
        obtain ⟨k, -, hk⟩ := getI_nat hx
        have ht := allK_iff.1 g7 i b hi
        unfold threadB at ht
        rw [Bool.and_eq_true] at ht
        have hin := allK_iff.1 ht.2 k x hk
        unfold instrB at hin
        rw [if_neg (by omega), if_neg (by omega), if_neg (by omega), if_neg (by omega), if_neg (by omega), if_neg (by omega), if_neg (by omega), if_pos (by omega)] at hin
        unfold borderB at hin
        simp [noSecs, getI] at hin

theorem CodeMost_does (c : Cd) (t m : Int) (hc : c.ok) (hm : okI m) (h : AHeap) : CallsA Try.prog 7 [.agg c.cells, .int .i64 t, .int .i64 m] h (fun v h2 => v = .bool true) := by
  apply padlocklaw09_CodeMostR_wp
  (repeat (first | simp -dsimp -implicitDefEqProofs (disch := omega) only [↓gp0, ↓gp1, ↓gp2, gq0, gq1, gq2, gq3, gq4, gq5, gq6, gq7, gq8, gq9, go0, go1, gl0, gl1, gl2, gl3, ↓reduceIte, Nat.reduceEqDiff, Nat.reduceAdd, Nat.reduceLeDiff, pBuild, fillA, ↓Api_Local.r, ↓Api_Item.r, ↓Api_Instr.r, ↓Api_Body.r, ↓Api_Site.r, ↓Api_Section.r, ↓Api_Code.r, ↓Api_Path.r, ↓Code_maker.r, ↓Api_Value.r] | refine Cut.go ?_))
  refine CallsA.go (alive_does _) ?_
  (repeat (first | simp -dsimp -implicitDefEqProofs (disch := omega) only [↓gp0, ↓gp1, ↓gp2, gq0, gq1, gq2, gq3, gq4, gq5, gq6, gq7, gq8, gq9, go0, go1, gl0, gl1, gl2, gl3, ↓reduceIte, Nat.reduceEqDiff, Nat.reduceAdd, Nat.reduceLeDiff, pBuild, fillA, ↓Api_Local.r, ↓Api_Item.r, ↓Api_Instr.r, ↓Api_Body.r, ↓Api_Site.r, ↓Api_Section.r, ↓Api_Code.r, ↓Api_Path.r, ↓Code_maker.r, ↓Api_Value.r, Bool.not_true] | refine Cut.go ?_))
  refine CallsA.go (ref_Great_does c hc _) ?_
  rcases hg : greatB c with _ | _
  rotate_left
  · (repeat (first | simp -dsimp -implicitDefEqProofs (disch := omega) only [↓gp0, ↓gp1, ↓gp2, gq0, gq1, gq2, gq3, gq4, gq5, gq6, gq7, gq8, gq9, go0, go1, gl0, gl1, gl2, gl3, ↓reduceIte, Nat.reduceEqDiff, Nat.reduceAdd, Nat.reduceLeDiff, pBuild, fillA, ↓Api_Local.r, ↓Api_Item.r, ↓Api_Instr.r, ↓Api_Body.r, ↓Api_Site.r, ↓Api_Section.r, ↓Api_Code.r, ↓Api_Path.r, ↓Code_maker.r, ↓Api_Value.r] | refine Cut.go ?_))
  have sm := small_of hg
  (repeat (first | simp -dsimp -implicitDefEqProofs (disch := omega) only [↓gp0, ↓gp1, ↓gp2, gq0, gq1, gq2, gq3, gq4, gq5, gq6, gq7, gq8, gq9, go0, go1, gl0, gl1, gl2, gl3, ↓reduceIte, Nat.reduceEqDiff, Nat.reduceAdd, Nat.reduceLeDiff, pBuild, fillA, ↓Api_Local.r, ↓Api_Item.r, ↓Api_Instr.r, ↓Api_Body.r, ↓Api_Site.r, ↓Api_Section.r, ↓Api_Code.r, ↓Api_Path.r, ↓Code_maker.r, ↓Api_Value.r] | refine Cut.go ?_))
  refine CallsA.go (ref_Good_c c hc sm _) ?_
  rcases hok : okC c with _ | _
  · (repeat (first | simp -dsimp -implicitDefEqProofs (disch := omega) only [↓gp0, ↓gp1, ↓gp2, gq0, gq1, gq2, gq3, gq4, gq5, gq6, gq7, gq8, gq9, go0, go1, gl0, gl1, gl2, gl3, ↓reduceIte, Nat.reduceEqDiff, Nat.reduceAdd, Nat.reduceLeDiff, pBuild, fillA, ↓Api_Local.r, ↓Api_Item.r, ↓Api_Instr.r, ↓Api_Body.r, ↓Api_Site.r, ↓Api_Section.r, ↓Api_Code.r, ↓Api_Path.r, ↓Code_maker.r, ↓Api_Value.r, Bool.not_false] | refine Cut.go ?_))
  (repeat (first | simp -dsimp -implicitDefEqProofs (disch := omega) only [↓gp0, ↓gp1, ↓gp2, gq0, gq1, gq2, gq3, gq4, gq5, gq6, gq7, gq8, gq9, go0, go1, gl0, gl1, gl2, gl3, ↓reduceIte, Nat.reduceEqDiff, Nat.reduceAdd, Nat.reduceLeDiff, pBuild, fillA, ↓Api_Local.r, ↓Api_Item.r, ↓Api_Instr.r, ↓Api_Body.r, ↓Api_Site.r, ↓Api_Section.r, ↓Api_Code.r, ↓Api_Path.r, ↓Code_maker.r, ↓Api_Value.r, Bool.not_true] | refine Cut.go ?_))
  refine Split_lt (fun h1 => ?_) (fun h1 => ?_)
  · (repeat (first | simp -dsimp -implicitDefEqProofs (disch := omega) only [↓gp0, ↓gp1, ↓gp2, gq0, gq1, gq2, gq3, gq4, gq5, gq6, gq7, gq8, gq9, go0, go1, gl0, gl1, gl2, gl3, ↓reduceIte, Nat.reduceEqDiff, Nat.reduceAdd, Nat.reduceLeDiff, pBuild, fillA, ↓Api_Local.r, ↓Api_Item.r, ↓Api_Instr.r, ↓Api_Body.r, ↓Api_Site.r, ↓Api_Section.r, ↓Api_Code.r, ↓Api_Path.r, ↓Code_maker.r, ↓Api_Value.r] | refine Cut.go ?_))
  (repeat (first | simp -dsimp -implicitDefEqProofs (disch := omega) only [↓gp0, ↓gp1, ↓gp2, gq0, gq1, gq2, gq3, gq4, gq5, gq6, gq7, gq8, gq9, go0, go1, gl0, gl1, gl2, gl3, ↓reduceIte, Nat.reduceEqDiff, Nat.reduceAdd, Nat.reduceLeDiff, pBuild, fillA, ↓Api_Local.r, ↓Api_Item.r, ↓Api_Instr.r, ↓Api_Body.r, ↓Api_Site.r, ↓Api_Section.r, ↓Api_Code.r, ↓Api_Path.r, ↓Code_maker.r, ↓Api_Value.r] | refine Cut.go ?_))
  refine Split_le (fun h2 => ?_) (fun h2 => ?_)
  · (repeat (first | simp -dsimp -implicitDefEqProofs (disch := omega) only [↓gp0, ↓gp1, ↓gp2, gq0, gq1, gq2, gq3, gq4, gq5, gq6, gq7, gq8, gq9, go0, go1, gl0, gl1, gl2, gl3, ↓reduceIte, Nat.reduceEqDiff, Nat.reduceAdd, Nat.reduceLeDiff, pBuild, fillA, ↓Api_Local.r, ↓Api_Item.r, ↓Api_Instr.r, ↓Api_Body.r, ↓Api_Site.r, ↓Api_Section.r, ↓Api_Code.r, ↓Api_Path.r, ↓Code_maker.r, ↓Api_Value.r] | refine Cut.go ?_))
  have hth := sm.threads
  have hne : (slL c.Threads) ≠ [] := fun e => by rw [e] at h2; simp at h2; omega
  have b0 : ∀ (H : AHeap) (K : AV → AHeap → Prop), pBuildSl true { e := 62, sz := 3, by_ := 56 } [AV.nils, AV.nils, AV.int IntKind.i64 0] 0 [] H K = K .eml H := fun H K => rfl
  have a1 : ∀ (H : AHeap) (K : AV → AHeap → Prop), pAppend false { e := 62, sz := 3, by_ := 56 } .eml (slAV 3 Api_Body.cells c.Threads) H K = K (.sl H.next 0 (slL c.Threads).length 3) (H.push (.row 62 ((slL c.Threads).map Api_Body.cells).flatten)) := fun H K => by
    simp only [pAppend, srcElems_slAV]
    cases hT : slL c.Threads with
    | nil => exact absurd hT hne
    | cons x l =>
      have : bounded { e := 62, sz := 3, by_ := 56 } ((x :: l).map Api_Body.cells).length := by
        rw [hT] at hth; simp [bounded, maxLen] at hth ⊢; omega
      simp only [List.map_cons] at this ⊢
      simp only [newSl, Bool.false_eq_true, if_false]
      rw [show (bounded { e := 62, sz := 3, by_ := 56 } (x.cells :: l.map Api_Body.cells).length) = True from eq_true this, true_and]
      simp
  have e1 : (h.push (.row 52 c.cells)).next = h.next + 1 := rfl
  (repeat (first | simp -dsimp -implicitDefEqProofs (disch := omega) only [↓gp0, ↓gp1, ↓gp2, gq0, gq1, gq2, gq3, gq4, gq5, gq6, gq7, gq8, gq9, go0, go1, gl0, gl1, gl2, gl3, ↓reduceIte, Nat.reduceEqDiff, Nat.reduceAdd, Nat.reduceLeDiff, pBuild, fillA, ↓Api_Local.r, ↓Api_Item.r, ↓Api_Instr.r, ↓Api_Body.r, ↓Api_Site.r, ↓Api_Section.r, ↓Api_Code.r, ↓Api_Path.r, ↓Code_maker.r, ↓Api_Value.r, ↓b0, ↓a1] | refine Cut.go ?_))
  rw [e1]
  obtain ⟨k, rfl⟩ : ∃ k : Nat, t = k := ⟨t.toNat, by omega⟩
  have hk : k < (slL c.Threads).length := by omega
  have o1 : ((h.push (.row 52 c.cells)).push (.row 62 ((slL c.Threads).map Api_Body.cells).flatten)).objs h.next = some (.row 52 c.cells) := by simp
  have o2 : ((h.push (.row 52 c.cells)).push (.row 62 ((slL c.Threads).map Api_Body.cells).flatten)).objs (h.next + 1) = some (.row 62 ((slL c.Threads).map Api_Body.cells).flatten) := by simp
  have nx : ((h.push (.row 52 c.cells)).push (.row 62 ((slL c.Threads).map Api_Body.cells).flatten)).next = h.next + 2 := rfl
  generalize ((h.push (.row 52 c.cells)).push (.row 62 ((slL c.Threads).map Api_Body.cells).flatten)) = H at *
  rw [pStore_ptr o1 rfl (by simp [Api_Code.cells])]
  have p1 : ∀ (o : AObj), (H.put h.next o).objs h.next = some o := fun o => by simp
  have p2 : ∀ (o : AObj), (H.put h.next o).objs (h.next + 1) = some (.row 62 ((slL c.Threads).map Api_Body.cells).flatten) := fun o => by simp [o2]
  have flen : ((slL c.Threads).map Api_Body.cells).flatten.length = (slL c.Threads).length * 3 := by
    induction slL c.Threads with
    | nil => rfl
    | cons a l ih => simp [ih, Api_Body.cells]; omega
  have ld1 : ∀ K : AV → Prop, pLoad none (.ptr h.next 2) (H.put h.next (.row 52 (c.cells.set 2 (.sl (h.next + 1) 0 (slL c.Threads).length 3)))) K = K (.sl (h.next + 1) 0 (slL c.Threads).length 3) := fun K => by
    rw [pLoad_ptr (p1 _)]; simp [Api_Code.cells]
  have ix : ∀ K : AV → Prop, pIndexAddr (.slice 3) (.sl (h.next + 1) 0 (slL c.Threads).length 3) (.int .i64 (k : Int)) K = K (.ptr (h.next + 1) (k * 3)) := fun K => by
    simp [pIndexAddr]; omega
  (repeat (first | simp -dsimp -implicitDefEqProofs (disch := omega) only [↓gp0, ↓gp1, ↓gp2, gq0, gq1, gq2, gq3, gq4, gq5, gq6, gq7, gq8, gq9, go0, go1, gl0, gl1, gl2, gl3, ↓reduceIte, Nat.reduceEqDiff, Nat.reduceAdd, Nat.reduceLeDiff, pBuild, fillA, ↓Api_Local.r, ↓Api_Item.r, ↓Api_Instr.r, ↓Api_Body.r, ↓Api_Site.r, ↓Api_Section.r, ↓Api_Code.r, ↓Api_Path.r, ↓Code_maker.r, ↓Api_Value.r, ↓ld1, ↓ix] | refine Cut.go ?_))
  rw [pStore_ptr (p2 _) rfl (by rw [flen]; omega), flat_most m _ _ hk]
  have g1 : ((H.put h.next (.row 52 (c.cells.set 2 (.sl (h.next + 1) 0 (slL c.Threads).length 3)))).put (h.next + 1) (.row 62 (((slL c.Threads).mapIdx fun i b => if i = k then { b with Most := m } else b).map Api_Body.cells).flatten)).objs h.next = some (.row 52 (c.cells.set 2 (.sl (h.next + 1) 0 (slL c.Threads).length 3))) := by simp
  have g2 : ((H.put h.next (.row 52 (c.cells.set 2 (.sl (h.next + 1) 0 (slL c.Threads).length 3)))).put (h.next + 1) (.row 62 (((slL c.Threads).mapIdx fun i b => if i = k then { b with Most := m } else b).map Api_Body.cells).flatten)).objs (h.next + 1) = some (.row 62 (((slL c.Threads).mapIdx fun i b => if i = k then { b with Most := m } else b).map Api_Body.cells).flatten) := by simp
  have gx : ((H.put h.next (.row 52 (c.cells.set 2 (.sl (h.next + 1) 0 (slL c.Threads).length 3)))).put (h.next + 1) (.row 62 (((slL c.Threads).mapIdx fun i b => if i = k then { b with Most := m } else b).map Api_Body.cells).flatten)).next = h.next + 2 := nx
  generalize ((H.put h.next (.row 52 (c.cells.set 2 (.sl (h.next + 1) 0 (slL c.Threads).length 3)))).put (h.next + 1) (.row 62 (((slL c.Threads).mapIdx fun i b => if i = k then { b with Most := m } else b).map Api_Body.cells).flatten)) = G at *
  have s4 : ∀ K : AHeap → Prop, pStore 1 (.ptr G.next 4) .nils (G.push (.row 52 c.cells)) K = K ((G.push (.row 52 c.cells)).put G.next (.row 52 (noSecs c).cells)) := fun K => by
    rw [pStore_ptr (ty := 52) (cs := c.cells) (by simp) rfl (by simp [Api_Code.cells])]; rfl
  have l1 : ∀ K : AV → Prop, pLoad (some 5) (.ptr h.next 0) ((G.push (.row 52 c.cells)).put G.next (.row 52 (noSecs c).cells)) K = K (.agg (c.cells.set 2 (.sl (h.next + 1) 0 (slL c.Threads).length 3))) := fun K => by
    rw [pLoad_ptr (ty := 52) (cs := c.cells.set 2 (.sl (h.next + 1) 0 (slL c.Threads).length 3)) (by simp [gx, g1])]
    simp [Api_Code.cells]
  (repeat (first | simp -dsimp -implicitDefEqProofs (disch := omega) only [↓gp0, ↓gp1, ↓gp2, gq0, gq1, gq2, gq3, gq4, gq5, gq6, gq7, gq8, gq9, go0, go1, gl0, gl1, gl2, gl3, ↓reduceIte, Nat.reduceEqDiff, Nat.reduceAdd, Nat.reduceLeDiff, pBuild, fillA, ↓Api_Local.r, ↓Api_Item.r, ↓Api_Instr.r, ↓Api_Body.r, ↓Api_Site.r, ↓Api_Section.r, ↓Api_Code.r, ↓Api_Path.r, ↓Code_maker.r, ↓Api_Value.r, ↓s4, ↓l1] | refine Cut.go ?_))
  have g3 : ((G.push (.row 52 c.cells)).put G.next (.row 52 (noSecs c).cells)).objs (h.next + 1) = some (.row 62 (((slL c.Threads).mapIdx fun i b => if i = k then { b with Most := m } else b).map Api_Body.cells).flatten) := by simp [gx, g2]
  have g4 : ((G.push (.row 52 c.cells)).put G.next (.row 52 (noSecs c).cells)).objs G.next = some (.row 52 (noSecs c).cells) := by simp
  generalize hG2 : ((G.push (.row 52 c.cells)).put G.next (.row 52 (noSecs c).cells)) = G2 at *
  refine CallsA.freezeAgg (pre := []) (post := []) (xs0 := [slAV 1 (fun o => [slAV 3 Api_Local.cells o]) c.Records, slAV 3 Api_Local.cells c.Globals]) (ys0 := [slAV 3 Api_Site.cells c.Sites, slAV 3 Api_Section.cells c.Sections]) g3 ?_ (by omega) ?_
  · have fl2 : ∀ l : List Bd, (l.map Api_Body.cells).flatten.length = l.length * 3 := fun l => by
      induction l with
      | nil => rfl
      | cons a l ih => simp [ih, Api_Body.cells]; omega
    rw [fl2, List.length_mapIdx]; omega
  have ed : chunk 3 (slL c.Threads).length (((slL c.Threads).mapIdx fun i b => if i = k then { b with Most := m } else b).map Api_Body.cells).flatten = ((slL c.Threads).mapIdx fun i b => if i = k then { b with Most := m } else b).map Api_Body.cells := by
    have := chunk_flat 3 (((slL c.Threads).mapIdx fun i b => if i = k then { b with Most := m } else b).map Api_Body.cells) (fun e he => by obtain ⟨x, -, rfl⟩ := List.mem_map.1 he; rfl)
    rw [List.length_map, List.length_mapIdx] at this
    exact this
  rw [ed]
  have okm : (withMost c k m).ok := by
    refine ⟨hc.1, hc.2.1, ⟨?_, fun b hb => ?_⟩, hc.2.2.2.1, hc.2.2.2.2⟩
    · simp [withMost, maxLen]; omega
    · simp only [withMost, slL_some] at hb
      obtain ⟨i, hi, rfl⟩ := List.mem_mapIdx.1 hb
      have ho := hc.2.2.1.2 _ (List.getElem_mem hi)
      split
      · exact ⟨ho.1, ho.2.1, hm⟩
      · exact ho
  refine CallsA.go (code_Good_p (withMost c k m) okm ?_ ?_ ?_ ?_ _) ?_
  · have := sm.secs; show (slL c.Sections).length ≤ 1000000; omega
  · have := sm.sites; show (slL c.Sites).length ≤ 1000000; omega
  · have := sm.globs; show (slL c.Globals).length ≤ 1000000; omega
  · exact fun r hr => by have := sm.fields r hr; omega
  rw [most_ok hok k hk m]
  have kx : (G2.kill (h.next + 1)).objs G.next = some (.row 52 (noSecs c).cells) := by
    simp only [AHeap.kill_objs]; rw [if_neg (by omega), g4]
  have l4 : ∀ K : AV → Prop, pLoad (some 5) (.ptr G.next 0) (G2.kill (h.next + 1)) K = K (.agg (noSecs c).cells) := fun K => by rw [pLoad_ptr kx]; exact (noSecs c).call K
  have b1 : (false == false) = true := rfl
  have b2 : (true == true) = true := rfl
  have b3 : ∀ b : Bool, (b == b) = true := fun b => by cases b <;> rfl
  have secs0 : (noSecs c).ok := ⟨hc.1, hc.2.1, hc.2.2.1, hc.2.2.2.1, by simp [okSl, noSecs, maxLen]⟩
  have fields0 : ∀ r ∈ slL (noSecs c).Records, (slL r).length ≤ 1000000 := fun r hr => by have := sm.fields r hr; omega
  have sites0 : (slL (noSecs c).Sites).length ≤ 1000000 := by have := sm.sites; show (slL c.Sites).length ≤ 1000000; omega
  have globs0 : (slL (noSecs c).Globals).length ≤ 1000000 := by have := sm.globs; show (slL c.Globals).length ≤ 1000000; omega
  rcases hm0 : decide (0 ≤ m) with _ | _
  · (repeat (first | simp -dsimp -implicitDefEqProofs (disch := omega) only [↓gp0, ↓gp1, ↓gp2, gq0, gq1, gq2, gq3, gq4, gq5, gq6, gq7, gq8, gq9, go0, go1, gl0, gl1, gl2, gl3, ↓reduceIte, Nat.reduceEqDiff, Nat.reduceAdd, Nat.reduceLeDiff, pBuild, fillA, ↓Api_Local.r, ↓Api_Item.r, ↓Api_Instr.r, ↓Api_Body.r, ↓Api_Site.r, ↓Api_Section.r, ↓Api_Code.r, ↓Api_Path.r, ↓Code_maker.r, ↓Api_Value.r, b1, b2, ↓l4] | refine Cut.go ?_))
    refine CallsA.go (code_Good_p (noSecs c) secs0 (by simp [noSecs]) sites0 globs0 fields0 _) ?_
    rw [secs_ok hok]
    (repeat (first | simp -dsimp -implicitDefEqProofs (disch := omega) only [↓gp0, ↓gp1, ↓gp2, gq0, gq1, gq2, gq3, gq4, gq5, gq6, gq7, gq8, gq9, go0, go1, gl0, gl1, gl2, gl3, ↓reduceIte, Nat.reduceEqDiff, Nat.reduceAdd, Nat.reduceLeDiff, pBuild, fillA, ↓Api_Local.r, ↓Api_Item.r, ↓Api_Instr.r, ↓Api_Body.r, ↓Api_Site.r, ↓Api_Section.r, ↓Api_Code.r, ↓Api_Path.r, ↓Code_maker.r, ↓Api_Value.r] | refine Cut.go ?_))
    simp [beqI]
  · (repeat (first | simp -dsimp -implicitDefEqProofs (disch := omega) only [↓gp0, ↓gp1, ↓gp2, gq0, gq1, gq2, gq3, gq4, gq5, gq6, gq7, gq8, gq9, go0, go1, gl0, gl1, gl2, gl3, ↓reduceIte, Nat.reduceEqDiff, Nat.reduceAdd, Nat.reduceLeDiff, pBuild, fillA, ↓Api_Local.r, ↓Api_Item.r, ↓Api_Instr.r, ↓Api_Body.r, ↓Api_Site.r, ↓Api_Section.r, ↓Api_Code.r, ↓Api_Path.r, ↓Code_maker.r, ↓Api_Value.r, b1, b2, b3, ↓l4] | refine Cut.go ?_))
    refine CallsA.go (code_Good_p (noSecs c) secs0 (by simp [noSecs]) sites0 globs0 fields0 _) ?_
    rw [secs_ok hok]
    (repeat (first | simp -dsimp -implicitDefEqProofs (disch := omega) only [↓gp0, ↓gp1, ↓gp2, gq0, gq1, gq2, gq3, gq4, gq5, gq6, gq7, gq8, gq9, go0, go1, gl0, gl1, gl2, gl3, ↓reduceIte, Nat.reduceEqDiff, Nat.reduceAdd, Nat.reduceLeDiff, pBuild, fillA, ↓Api_Local.r, ↓Api_Item.r, ↓Api_Instr.r, ↓Api_Body.r, ↓Api_Site.r, ↓Api_Section.r, ↓Api_Code.r, ↓Api_Path.r, ↓Code_maker.r, ↓Api_Value.r] | refine Cut.go ?_))
    simp [beqI]

end Go.Proofs.Ytppldbldpphlmaa
