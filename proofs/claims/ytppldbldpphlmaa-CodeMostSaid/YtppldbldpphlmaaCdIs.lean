/- Which codes can be: the document and the program say the same. -/
import Derived.Test.YtppldbldpphlmaaCdRefS
import Derived.Test.YtppldbldpphlmaaCdAlive
set_option linter.unusedVariables false
set_option linter.unusedSimpArgs false
set_option maxRecDepth 100000
set_option maxHeartbeats 1000000
namespace Go.Proofs.Ytppldbldpphlmaa
open Go.Abs

theorem okC_split {c : Cd} (h : okC c = true) : (slL c.Records).length ≤ 6 ∧ (slL c.Threads).length ≤ 4 ∧ cellsB c (slL c.Globals) 8 = true ∧ sectionsB c = true ∧ sitesB c = true ∧ (slL c.Records).all (fun r => cellsB c (slL r) 6) = true ∧ threadsB c = true := by
  unfold okC at h
  simp only [Bool.and_eq_true, decide_eq_true_eq] at h
  obtain ⟨⟨⟨⟨⟨⟨h1, h2⟩, h3⟩, h4⟩, h5⟩, h6⟩, h7⟩ := h
  exact ⟨h1, h2, h3, h4, h5, h6, h7⟩

theorem meet_comm (s o : Api_Section) : meetB s o = meetB o s := by
  unfold meetB
  rw [Bool.eq_iff_iff]
  simp only [Bool.and_eq_true, decide_eq_true_eq]
  constructor <;> (rintro ⟨⟨a, b⟩, d⟩; exact ⟨⟨a.symm, d⟩, b⟩)

theorem secs_iff (c : Cd) : allK (secB c) (slL c.Sections) = true ↔ allK (secR c) (slL c.Sections) = true := by
  simp only [allK_iff]
  constructor
  · intro h k s hs
    have hk := h k s hs
    unfold secB at hk
    rw [Bool.and_eq_true] at hk
    unfold secR
    rw [hk.1, Bool.true_and, allK_iff]
    intro j o hj
    unfold sepP
    by_cases e : j = k
    · simp [e]
    · have : meetB s o = false := by
        rcases Nat.lt_or_gt_of_ne e with hlt | hgt
        · have := List.all_eq_true.1 hk.2 o (List.mem_of_getElem? (i := j) (by rw [List.getElem?_take_of_lt hlt, hj]))
          simpa using this
        · have hj2 := h j o hj
          unfold secB at hj2
          rw [Bool.and_eq_true] at hj2
          have := List.all_eq_true.1 hj2.2 s (List.mem_of_getElem? (i := k) (by rw [List.getElem?_take_of_lt hgt, hs]))
          rw [meet_comm]
          simpa using this
      simp [this]
  · intro h k s hs
    have hk := h k s hs
    unfold secR at hk
    rw [Bool.and_eq_true, allK_iff] at hk
    unfold secB
    rw [hk.1, Bool.true_and, List.all_eq_true]
    intro o ho
    obtain ⟨j, hj⟩ := List.getElem?_of_mem ho
    have hjl := (List.getElem?_eq_some_iff.1 hj).1
    rw [List.length_take] at hjl
    have hjk : j < k := by omega
    rw [List.getElem?_take_of_lt hjk] at hj
    have := hk.2 j o hj
    unfold sepP at this
    simpa [show j ≠ k by omega] using this

theorem rows_iff (c : Cd) (hg : (slL c.Globals).length ≤ 8) : allK (rowP c) (c.Globals :: slL c.Records) = true ↔ cellsB c (slL c.Globals) 8 = true ∧ (slL c.Records).all (fun r => cellsB c (slL r) 6) = true := by
  have e8 : cellsB c (slL c.Globals) 8 = cellP c c.Globals := by unfold cellsB cellP; rw [decide_eq_true (by omega), Bool.true_and]
  rw [e8, allK_iff, List.all_eq_true]
  have e6 : ∀ (i : Nat) (r : Option (List Lo)), rowP c (i + 1) r = cellsB c (slL r) 6 := fun i r => by
    unfold rowP cellsB cellP
    by_cases h : (slL r).length ≤ 6
    · rw [decide_eq_false (show ¬ 6 < (slL r).length by omega), decide_eq_true (show ((slL r).length : Int) ≤ 6 by omega)]; simp
    · rw [decide_eq_true (show 6 < (slL r).length by omega), decide_eq_false (show ¬ ((slL r).length : Int) ≤ 6 by omega)]; simp
  constructor
  · intro h
    refine ⟨by have := h 0 _ rfl; simpa [rowP] using this, fun r hr => ?_⟩
    obtain ⟨i, hi⟩ := List.getElem?_of_mem hr
    rw [← e6 i r]
    exact h (i + 1) r (by simpa using hi)
  · rintro ⟨h1, h2⟩ k o hk
    cases k with
    | zero => simp at hk; subst hk; simpa [rowP] using h1
    | succ k => rw [e6]; exact h2 o (List.mem_of_getElem? (by simpa using hk))

theorem threads_iff (c : Cd) : threadsB c = true ↔ (slL c.Threads).all (bodyB c) = true ∧ allK (fun i b => allK (fun k x => instrR c i b x k) (slL b.Code)) (slL c.Threads) = true := by
  have halt : ∀ (i : Nat) (b : Bd) (x : In) (k : Nat), instrB c i b x k = true → x.Op = 17 → (k : Int) = (slL b.Code).length - 1 := fun i b x k hi ho => by
    unfold instrB at hi
    rw [if_neg (by omega), if_neg (by omega), if_neg (by omega), if_neg (by omega), if_neg (by omega), if_neg (by omega), if_neg (by omega), if_neg (by omega)] at hi
    simp only [Bool.and_eq_true, decide_eq_true_eq] at hi
    exact hi.2
  unfold threadsB
  constructor
  · intro h
    rw [allK_iff] at h
    have part : ∀ (i : Nat) (b : Bd), (slL c.Threads)[i]? = some b → bodyB c b = true ∧ lastB b = true ∧ instrsB c i b = true := fun i b hb => by
      have := h i b hb
      unfold threadB at this
      simpa [and_assoc] using this
    refine ⟨List.all_eq_true.2 fun b hb => ?_, allK_iff.2 fun i b hb => allK_iff.2 fun k x hx => ?_⟩
    · obtain ⟨i, hi⟩ := List.getElem?_of_mem hb
      exact (part i b hi).1
    · obtain ⟨-, h2, h3⟩ := part i b hb
      have hi := allK_iff.1 h3 k x hx
      unfold instrR
      rw [hi, Bool.true_and]
      by_cases ho : x.Op = 17
      · rw [decide_eq_true ho, decide_eq_true (halt i b x k hi ho)]; rfl
      · have : ¬ ((k : Int) = (slL b.Code).length - 1) := fun e => by
          unfold lastB at h2
          rw [← e, getI_natCast, hx] at h2
          exact ho (by simpa using h2)
        rw [decide_eq_false ho, decide_eq_false this]; rfl
  · rintro ⟨h1, h2⟩
    rw [allK_iff] at h2 ⊢
    intro i b hb
    have hbd := List.all_eq_true.1 h1 b (List.mem_of_getElem? hb)
    have hin := h2 i b hb
    rw [allK_iff] at hin
    have hpos : 1 ≤ (slL b.Code).length := by
      unfold bodyB at hbd
      simp only [Bool.and_eq_true, decide_eq_true_eq] at hbd
      exact hbd.1.1.1.1.2
    have e1 : instrsB c i b = true := allK_iff.2 fun k x hx => by
      have := hin k x hx
      unfold instrR at this
      rw [Bool.and_eq_true] at this
      exact this.1
    have e2 : lastB b = true := by
      obtain ⟨x, hx⟩ : ∃ x, (slL b.Code)[(slL b.Code).length - 1]? = some x := ⟨_, List.getElem?_eq_getElem (by omega)⟩
      have e : ((slL b.Code).length : Int) - 1 = (((slL b.Code).length - 1 : Nat) : Int) := by omega
      have := hin _ x hx
      unfold instrR at this
      rw [Bool.and_eq_true, ← e] at this
      unfold lastB
      rw [e, getI_natCast, hx]
      simpa using this.2
    unfold threadB
    rw [hbd, e2, e1]; rfl

theorem okC_iff (c : Cd) : okC c = true ↔ (slL c.Records).length ≤ 6 ∧ (slL c.Globals).length ≤ 8 ∧ (slL c.Threads).length ≤ 4 ∧ (slL c.Sites).length ≤ 32 ∧ (slL c.Sections).length ≤ 32 ∧ allK (rowP c) (c.Globals :: slL c.Records) = true ∧ (slL c.Threads).all (bodyB c) = true ∧ allK (secR c) (slL c.Sections) = true ∧ allK (siteOk c) (slL c.Sites) = true ∧ allK (fun i b => allK (fun k x => instrR c i b x k) (slL b.Code)) (slL c.Threads) = true := by
  constructor
  · intro h
    obtain ⟨h1, h2, h3, h4, h5, h6, h7⟩ := okC_split h
    have hg : (slL c.Globals).length ≤ 8 := by
      unfold cellsB at h3; simp only [Bool.and_eq_true, decide_eq_true_eq] at h3; omega
    unfold sectionsB at h4
    unfold sitesB at h5
    simp only [Bool.and_eq_true, decide_eq_true_eq] at h4 h5
    have ht := (threads_iff c).1 h7
    exact ⟨h1, hg, h2, h5.1, h4.1, (rows_iff c hg).2 ⟨h3, h6⟩, ht.1, (secs_iff c).1 h4.2, h5.2, ht.2⟩
  · rintro ⟨h1, hg, h2, h3, h4, h5, h6, h7, h8, h9⟩
    obtain ⟨r1, r2⟩ := (rows_iff c hg).1 h5
    unfold okC sectionsB sitesB
    rw [decide_eq_true h1, decide_eq_true h2, r1, r2, decide_eq_true h4, decide_eq_true h3, (secs_iff c).2 h7, h8, (threads_iff c).2 ⟨h6, h9⟩]
    rfl

theorem keeps_kill {h g : AHeap} (k : Keeps h g (fun _ => False)) {id : Nat} (hid : h.next ≤ id) : Keeps h (g.kill id) (fun _ => False) :=
  ⟨k.next, fun i hi hs => by simp only [AHeap.kill_objs]; rw [if_neg (by omega)]; exact k.objs i hi hs⟩

theorem ref_Good_k (c : Cd) (hc : c.ok) (sm : Small c) (h : AHeap) : CallsA Try.prog 27 [.agg c.cells] h (fun v h2 => v = .bool (okC c) ∧ Keeps h h2 (fun _ => False)) := by
  have no : ∀ {p : Prop}, (okC c = true → p) → ¬ p → okC c = false := fun hp hn => by
    rw [Bool.eq_false_iff]; exact fun e => hn (hp e)
  have hrec := sm.recs
  have hgl := sm.globs
  apply padlockref09_GoodR_wp
  (repeat (first | simp -dsimp -implicitDefEqProofs (disch := omega) only [↓gp0, ↓gp1, ↓gp2, gq0, gq1, gq2, gq3, gq4, gq5, gq6, gq7, gq8, gq9, go0, go1, gl0, gl1, gl2, gl3, ↓reduceIte, Nat.reduceEqDiff, Nat.reduceAdd, Nat.reduceLeDiff, pBuild, fillA, ↓Api_Local.r, ↓Api_Item.r, ↓Api_Instr.r, ↓Api_Body.r, ↓Api_Site.r, ↓Api_Section.r, ↓Api_Code.r, ↓Api_Path.r, ↓Code_maker.r, ↓Api_Value.r] | refine Cut.go ?_))
  refine Split_lt (fun h1 => ?_) (fun h1 => ?_)
  · (repeat (first | simp -dsimp -implicitDefEqProofs (disch := omega) only [↓gp0, ↓gp1, ↓gp2, gq0, gq1, gq2, gq3, gq4, gq5, gq6, gq7, gq8, gq9, go0, go1, gl0, gl1, gl2, gl3, ↓reduceIte, Nat.reduceEqDiff, Nat.reduceAdd, Nat.reduceLeDiff, pBuild, fillA, ↓Api_Local.r, ↓Api_Item.r, ↓Api_Instr.r, ↓Api_Body.r, ↓Api_Site.r, ↓Api_Section.r, ↓Api_Code.r, ↓Api_Path.r, ↓Code_maker.r, ↓Api_Value.r] | refine Cut.go ?_))
    rw [no (fun e => ((okC_iff c).1 e).1) (by omega)]
    (first | (refine And.intro (by simp) ?_; (repeat (first | assumption | with_reducible exact Keeps.refl _ _ | with_reducible refine Keeps.go ?_ (Keeps.one _ _) | with_reducible refine Keeps.go ?_ (by assumption)))) | (repeat (first | assumption | with_reducible exact Keeps.refl _ _ | with_reducible refine Keeps.go ?_ (Keeps.one _ _) | with_reducible refine Keeps.go ?_ (by assumption))))
  (repeat (first | simp -dsimp -implicitDefEqProofs (disch := omega) only [↓gp0, ↓gp1, ↓gp2, gq0, gq1, gq2, gq3, gq4, gq5, gq6, gq7, gq8, gq9, go0, go1, gl0, gl1, gl2, gl3, ↓reduceIte, Nat.reduceEqDiff, Nat.reduceAdd, Nat.reduceLeDiff, pBuild, fillA, ↓Api_Local.r, ↓Api_Item.r, ↓Api_Instr.r, ↓Api_Body.r, ↓Api_Site.r, ↓Api_Section.r, ↓Api_Code.r, ↓Api_Path.r, ↓Code_maker.r, ↓Api_Value.r] | refine Cut.go ?_))
  refine Split_lt (fun h2 => ?_) (fun h2 => ?_)
  · (repeat (first | simp -dsimp -implicitDefEqProofs (disch := omega) only [↓gp0, ↓gp1, ↓gp2, gq0, gq1, gq2, gq3, gq4, gq5, gq6, gq7, gq8, gq9, go0, go1, gl0, gl1, gl2, gl3, ↓reduceIte, Nat.reduceEqDiff, Nat.reduceAdd, Nat.reduceLeDiff, pBuild, fillA, ↓Api_Local.r, ↓Api_Item.r, ↓Api_Instr.r, ↓Api_Body.r, ↓Api_Site.r, ↓Api_Section.r, ↓Api_Code.r, ↓Api_Path.r, ↓Code_maker.r, ↓Api_Value.r] | refine Cut.go ?_))
    rw [no (fun e => ((okC_iff c).1 e).2.1) (by omega)]
    (first | (refine And.intro (by simp) ?_; (repeat (first | assumption | with_reducible exact Keeps.refl _ _ | with_reducible refine Keeps.go ?_ (Keeps.one _ _) | with_reducible refine Keeps.go ?_ (by assumption)))) | (repeat (first | assumption | with_reducible exact Keeps.refl _ _ | with_reducible refine Keeps.go ?_ (Keeps.one _ _) | with_reducible refine Keeps.go ?_ (by assumption))))
  (repeat (first | simp -dsimp -implicitDefEqProofs (disch := omega) only [↓gp0, ↓gp1, ↓gp2, gq0, gq1, gq2, gq3, gq4, gq5, gq6, gq7, gq8, gq9, go0, go1, gl0, gl1, gl2, gl3, ↓reduceIte, Nat.reduceEqDiff, Nat.reduceAdd, Nat.reduceLeDiff, pBuild, fillA, ↓Api_Local.r, ↓Api_Item.r, ↓Api_Instr.r, ↓Api_Body.r, ↓Api_Site.r, ↓Api_Section.r, ↓Api_Code.r, ↓Api_Path.r, ↓Code_maker.r, ↓Api_Value.r] | refine Cut.go ?_))
  refine Split_lt (fun h3 => ?_) (fun h3 => ?_)
  · (repeat (first | simp -dsimp -implicitDefEqProofs (disch := omega) only [↓gp0, ↓gp1, ↓gp2, gq0, gq1, gq2, gq3, gq4, gq5, gq6, gq7, gq8, gq9, go0, go1, gl0, gl1, gl2, gl3, ↓reduceIte, Nat.reduceEqDiff, Nat.reduceAdd, Nat.reduceLeDiff, pBuild, fillA, ↓Api_Local.r, ↓Api_Item.r, ↓Api_Instr.r, ↓Api_Body.r, ↓Api_Site.r, ↓Api_Section.r, ↓Api_Code.r, ↓Api_Path.r, ↓Code_maker.r, ↓Api_Value.r] | refine Cut.go ?_))
    rw [no (fun e => ((okC_iff c).1 e).2.2.1) (by omega)]
    (first | (refine And.intro (by simp) ?_; (repeat (first | assumption | with_reducible exact Keeps.refl _ _ | with_reducible refine Keeps.go ?_ (Keeps.one _ _) | with_reducible refine Keeps.go ?_ (by assumption)))) | (repeat (first | assumption | with_reducible exact Keeps.refl _ _ | with_reducible refine Keeps.go ?_ (Keeps.one _ _) | with_reducible refine Keeps.go ?_ (by assumption))))
  (repeat (first | simp -dsimp -implicitDefEqProofs (disch := omega) only [↓gp0, ↓gp1, ↓gp2, gq0, gq1, gq2, gq3, gq4, gq5, gq6, gq7, gq8, gq9, go0, go1, gl0, gl1, gl2, gl3, ↓reduceIte, Nat.reduceEqDiff, Nat.reduceAdd, Nat.reduceLeDiff, pBuild, fillA, ↓Api_Local.r, ↓Api_Item.r, ↓Api_Instr.r, ↓Api_Body.r, ↓Api_Site.r, ↓Api_Section.r, ↓Api_Code.r, ↓Api_Path.r, ↓Code_maker.r, ↓Api_Value.r] | refine Cut.go ?_))
  refine Split_lt (fun h4 => ?_) (fun h4 => ?_)
  · (repeat (first | simp -dsimp -implicitDefEqProofs (disch := omega) only [↓gp0, ↓gp1, ↓gp2, gq0, gq1, gq2, gq3, gq4, gq5, gq6, gq7, gq8, gq9, go0, go1, gl0, gl1, gl2, gl3, ↓reduceIte, Nat.reduceEqDiff, Nat.reduceAdd, Nat.reduceLeDiff, pBuild, fillA, ↓Api_Local.r, ↓Api_Item.r, ↓Api_Instr.r, ↓Api_Body.r, ↓Api_Site.r, ↓Api_Section.r, ↓Api_Code.r, ↓Api_Path.r, ↓Code_maker.r, ↓Api_Value.r] | refine Cut.go ?_))
    rw [no (fun e => ((okC_iff c).1 e).2.2.2.1) (by omega)]
    (first | (refine And.intro (by simp) ?_; (repeat (first | assumption | with_reducible exact Keeps.refl _ _ | with_reducible refine Keeps.go ?_ (Keeps.one _ _) | with_reducible refine Keeps.go ?_ (by assumption)))) | (repeat (first | assumption | with_reducible exact Keeps.refl _ _ | with_reducible refine Keeps.go ?_ (Keeps.one _ _) | with_reducible refine Keeps.go ?_ (by assumption))))
  (repeat (first | simp -dsimp -implicitDefEqProofs (disch := omega) only [↓gp0, ↓gp1, ↓gp2, gq0, gq1, gq2, gq3, gq4, gq5, gq6, gq7, gq8, gq9, go0, go1, gl0, gl1, gl2, gl3, ↓reduceIte, Nat.reduceEqDiff, Nat.reduceAdd, Nat.reduceLeDiff, pBuild, fillA, ↓Api_Local.r, ↓Api_Item.r, ↓Api_Instr.r, ↓Api_Body.r, ↓Api_Site.r, ↓Api_Section.r, ↓Api_Code.r, ↓Api_Path.r, ↓Code_maker.r, ↓Api_Value.r] | refine Cut.go ?_))
  refine Split_lt (fun h5 => ?_) (fun h5 => ?_)
  · (repeat (first | simp -dsimp -implicitDefEqProofs (disch := omega) only [↓gp0, ↓gp1, ↓gp2, gq0, gq1, gq2, gq3, gq4, gq5, gq6, gq7, gq8, gq9, go0, go1, gl0, gl1, gl2, gl3, ↓reduceIte, Nat.reduceEqDiff, Nat.reduceAdd, Nat.reduceLeDiff, pBuild, fillA, ↓Api_Local.r, ↓Api_Item.r, ↓Api_Instr.r, ↓Api_Body.r, ↓Api_Site.r, ↓Api_Section.r, ↓Api_Code.r, ↓Api_Path.r, ↓Code_maker.r, ↓Api_Value.r] | refine Cut.go ?_))
    rw [no (fun e => ((okC_iff c).1 e).2.2.2.2.1) (by omega)]
    (first | (refine And.intro (by simp) ?_; (repeat (first | assumption | with_reducible exact Keeps.refl _ _ | with_reducible refine Keeps.go ?_ (Keeps.one _ _) | with_reducible refine Keeps.go ?_ (by assumption)))) | (repeat (first | assumption | with_reducible exact Keeps.refl _ _ | with_reducible refine Keeps.go ?_ (Keeps.one _ _) | with_reducible refine Keeps.go ?_ (by assumption))))
  have bs : ∀ K : AV → AHeap → Prop, pBuildSl false { e := 47, sz := 1, by_ := 24 } [AV.nils] 1 [(0, slAV 3 Api_Local.cells c.Globals)] h K = K (.sl h.next 0 1 1) (h.push (.row 47 [slAV 3 Api_Local.cells c.Globals])) := fun K => by
    simp [pBuildSl, fillE, fits_slAV, cells_slAV]
  have ap : ∀ K : AV → AHeap → Prop, pAppend false { e := 47, sz := 1, by_ := 24 } (.sl h.next 0 1 1) (slAV 1 (fun o => [slAV 3 Api_Local.cells o]) c.Records) (h.push (.row 47 [slAV 3 Api_Local.cells c.Globals])) K
      = K (.sl (h.next + 1) 0 (c.Globals :: slL c.Records).length 1) (((h.push (.row 47 [slAV 3 Api_Local.cells c.Globals])).kill h.next).push (.row 47 ((c.Globals :: slL c.Records).map fun o => slAV 3 Api_Local.cells o))) := fun K => by
    have ef : ((slL c.Records).map fun o => [slAV 3 Api_Local.cells o]).flatten = (slL c.Records).map fun o => slAV 3 Api_Local.cells o := by
      induction slL c.Records with
      | nil => rfl
      | cons a l ih => simp [ih]
    simp only [pAppend, srcElems_slAV, AHeap.push_objs, if_true]
    rw [ef]
    simp [bounded, maxLen, Nat.add_comm]
    intro; omega
  (repeat (first | simp -dsimp -implicitDefEqProofs (disch := omega) only [↓gp0, ↓gp1, ↓gp2, gq0, gq1, gq2, gq3, gq4, gq5, gq6, gq7, gq8, gq9, go0, go1, gl0, gl1, gl2, gl3, ↓reduceIte, Nat.reduceEqDiff, Nat.reduceAdd, Nat.reduceLeDiff, pBuild, fillA, ↓Api_Local.r, ↓Api_Item.r, ↓Api_Instr.r, ↓Api_Body.r, ↓Api_Site.r, ↓Api_Section.r, ↓Api_Code.r, ↓Api_Path.r, ↓Code_maker.r, ↓Api_Value.r, ↓bs, ↓ap] | refine Cut.go ?_))
  have kH : Keeps h (((h.push (.row 47 [slAV 3 Api_Local.cells c.Globals])).kill h.next).push (.row 47 ((c.Globals :: slL c.Records).map fun o => slAV 3 Api_Local.cells o))) (fun _ => False) := (keeps_kill (Keeps.one _ _) (Nat.le_refl _)).go (Keeps.one _ _)
  have hfl : ∀ o ∈ (c.Globals :: slL c.Records), (slL o).length ≤ 1000 := fun o ho => by
    rcases List.mem_cons.1 ho with rfl | ho
    · omega
    · have := sm.fields o ho; omega
  refine g_rows c (c.Globals :: slL c.Records) (by simp; omega) hfl _ (h.next + 1) (by simp) (by simp) _ (fun h6 hg k6 => ?_) (fun h6 hg k6 => ?_)
  · (repeat (first | simp -dsimp -implicitDefEqProofs (disch := omega) only [↓gp0, ↓gp1, ↓gp2, gq0, gq1, gq2, gq3, gq4, gq5, gq6, gq7, gq8, gq9, go0, go1, gl0, gl1, gl2, gl3, ↓reduceIte, Nat.reduceEqDiff, Nat.reduceAdd, Nat.reduceLeDiff, pBuild, fillA, ↓Api_Local.r, ↓Api_Item.r, ↓Api_Instr.r, ↓Api_Body.r, ↓Api_Site.r, ↓Api_Section.r, ↓Api_Code.r, ↓Api_Path.r, ↓Code_maker.r, ↓Api_Value.r] | refine Cut.go ?_))
    rw [no (fun e => ((okC_iff c).1 e).2.2.2.2.2.1) (by rw [hg]; simp)]
    exact ⟨rfl, kH.go k6⟩
  (repeat (first | simp -dsimp -implicitDefEqProofs (disch := omega) only [↓gp0, ↓gp1, ↓gp2, gq0, gq1, gq2, gq3, gq4, gq5, gq6, gq7, gq8, gq9, go0, go1, gl0, gl1, gl2, gl3, ↓reduceIte, Nat.reduceEqDiff, Nat.reduceAdd, Nat.reduceLeDiff, pBuild, fillA, ↓Api_Local.r, ↓Api_Item.r, ↓Api_Instr.r, ↓Api_Body.r, ↓Api_Site.r, ↓Api_Section.r, ↓Api_Code.r, ↓Api_Path.r, ↓Code_maker.r, ↓Api_Value.r] | refine Cut.go ?_))
  refine g_bodies c sm h6 _ (fun h7 hg7 k7 => ?_) (fun h7 hg7 k7 => ?_)
  · (repeat (first | simp -dsimp -implicitDefEqProofs (disch := omega) only [↓gp0, ↓gp1, ↓gp2, gq0, gq1, gq2, gq3, gq4, gq5, gq6, gq7, gq8, gq9, go0, go1, gl0, gl1, gl2, gl3, ↓reduceIte, Nat.reduceEqDiff, Nat.reduceAdd, Nat.reduceLeDiff, pBuild, fillA, ↓Api_Local.r, ↓Api_Item.r, ↓Api_Instr.r, ↓Api_Body.r, ↓Api_Site.r, ↓Api_Section.r, ↓Api_Code.r, ↓Api_Path.r, ↓Code_maker.r, ↓Api_Value.r] | refine Cut.go ?_))
    rw [no (fun e => ((okC_iff c).1 e).2.2.2.2.2.2.1) (by rw [hg7]; simp)]
    exact ⟨rfl, (kH.go k6).go k7⟩
  (repeat (first | simp -dsimp -implicitDefEqProofs (disch := omega) only [↓gp0, ↓gp1, ↓gp2, gq0, gq1, gq2, gq3, gq4, gq5, gq6, gq7, gq8, gq9, go0, go1, gl0, gl1, gl2, gl3, ↓reduceIte, Nat.reduceEqDiff, Nat.reduceAdd, Nat.reduceLeDiff, pBuild, fillA, ↓Api_Local.r, ↓Api_Item.r, ↓Api_Instr.r, ↓Api_Body.r, ↓Api_Site.r, ↓Api_Section.r, ↓Api_Code.r, ↓Api_Path.r, ↓Code_maker.r, ↓Api_Value.r] | refine Cut.go ?_))
  refine g_sections c sm h7 _ (fun h8 hg8 k8 => ?_) (fun h8 hg8 k8 => ?_)
  · (repeat (first | simp -dsimp -implicitDefEqProofs (disch := omega) only [↓gp0, ↓gp1, ↓gp2, gq0, gq1, gq2, gq3, gq4, gq5, gq6, gq7, gq8, gq9, go0, go1, gl0, gl1, gl2, gl3, ↓reduceIte, Nat.reduceEqDiff, Nat.reduceAdd, Nat.reduceLeDiff, pBuild, fillA, ↓Api_Local.r, ↓Api_Item.r, ↓Api_Instr.r, ↓Api_Body.r, ↓Api_Site.r, ↓Api_Section.r, ↓Api_Code.r, ↓Api_Path.r, ↓Code_maker.r, ↓Api_Value.r] | refine Cut.go ?_))
    rw [no (fun e => ((okC_iff c).1 e).2.2.2.2.2.2.2.1) (by rw [hg8]; simp)]
    exact ⟨rfl, ((kH.go k6).go k7).go k8⟩
  (repeat (first | simp -dsimp -implicitDefEqProofs (disch := omega) only [↓gp0, ↓gp1, ↓gp2, gq0, gq1, gq2, gq3, gq4, gq5, gq6, gq7, gq8, gq9, go0, go1, gl0, gl1, gl2, gl3, ↓reduceIte, Nat.reduceEqDiff, Nat.reduceAdd, Nat.reduceLeDiff, pBuild, fillA, ↓Api_Local.r, ↓Api_Item.r, ↓Api_Instr.r, ↓Api_Body.r, ↓Api_Site.r, ↓Api_Section.r, ↓Api_Code.r, ↓Api_Path.r, ↓Code_maker.r, ↓Api_Value.r] | refine Cut.go ?_))
  refine g_sites c sm h8 _ (fun h9 hg9 k9 => ?_) (fun h9 hg9 k9 => ?_)
  · (repeat (first | simp -dsimp -implicitDefEqProofs (disch := omega) only [↓gp0, ↓gp1, ↓gp2, gq0, gq1, gq2, gq3, gq4, gq5, gq6, gq7, gq8, gq9, go0, go1, gl0, gl1, gl2, gl3, ↓reduceIte, Nat.reduceEqDiff, Nat.reduceAdd, Nat.reduceLeDiff, pBuild, fillA, ↓Api_Local.r, ↓Api_Item.r, ↓Api_Instr.r, ↓Api_Body.r, ↓Api_Site.r, ↓Api_Section.r, ↓Api_Code.r, ↓Api_Path.r, ↓Code_maker.r, ↓Api_Value.r] | refine Cut.go ?_))
    rw [no (fun e => ((okC_iff c).1 e).2.2.2.2.2.2.2.2.1) (by rw [hg9]; simp)]
    exact ⟨rfl, (((kH.go k6).go k7).go k8).go k9⟩
  (repeat (first | simp -dsimp -implicitDefEqProofs (disch := omega) only [↓gp0, ↓gp1, ↓gp2, gq0, gq1, gq2, gq3, gq4, gq5, gq6, gq7, gq8, gq9, go0, go1, gl0, gl1, gl2, gl3, ↓reduceIte, Nat.reduceEqDiff, Nat.reduceAdd, Nat.reduceLeDiff, pBuild, fillA, ↓Api_Local.r, ↓Api_Item.r, ↓Api_Instr.r, ↓Api_Body.r, ↓Api_Site.r, ↓Api_Section.r, ↓Api_Code.r, ↓Api_Path.r, ↓Code_maker.r, ↓Api_Value.r] | refine Cut.go ?_))
  refine g_threads c hc sm hg7 h9 _ (fun h10 hg10 k10 => ?_) (fun h10 hg10 k10 => ?_)
  · (repeat (first | simp -dsimp -implicitDefEqProofs (disch := omega) only [↓gp0, ↓gp1, ↓gp2, gq0, gq1, gq2, gq3, gq4, gq5, gq6, gq7, gq8, gq9, go0, go1, gl0, gl1, gl2, gl3, ↓reduceIte, Nat.reduceEqDiff, Nat.reduceAdd, Nat.reduceLeDiff, pBuild, fillA, ↓Api_Local.r, ↓Api_Item.r, ↓Api_Instr.r, ↓Api_Body.r, ↓Api_Site.r, ↓Api_Section.r, ↓Api_Code.r, ↓Api_Path.r, ↓Code_maker.r, ↓Api_Value.r] | refine Cut.go ?_))
    rw [no (fun e => ((okC_iff c).1 e).2.2.2.2.2.2.2.2.2) (by rw [hg10]; simp)]
    exact ⟨rfl, ((((kH.go k6).go k7).go k8).go k9).go k10⟩
  (repeat (first | simp -dsimp -implicitDefEqProofs (disch := omega) only [↓gp0, ↓gp1, ↓gp2, gq0, gq1, gq2, gq3, gq4, gq5, gq6, gq7, gq8, gq9, go0, go1, gl0, gl1, gl2, gl3, ↓reduceIte, Nat.reduceEqDiff, Nat.reduceAdd, Nat.reduceLeDiff, pBuild, fillA, ↓Api_Local.r, ↓Api_Item.r, ↓Api_Instr.r, ↓Api_Body.r, ↓Api_Site.r, ↓Api_Section.r, ↓Api_Code.r, ↓Api_Path.r, ↓Code_maker.r, ↓Api_Value.r] | refine Cut.go ?_))
  rw [(okC_iff c).2 ⟨by omega, by omega, by omega, by omega, by omega, hg, hg7, hg8, hg9, hg10⟩]
  exact ⟨rfl, ((((kH.go k6).go k7).go k8).go k9).go k10⟩

theorem ref_Good_c (c : Cd) (hc : c.ok) (sm : Small c) (h : AHeap) : CallsA Try.prog 27 [.agg c.cells] h (fun v h2 => v = .bool (okC c) ∧ h2 = h) := CallsA.forget (by simp [idsIn]) (ref_Good_k c hc sm h)

theorem CodeIs_does (c : Cd) (hc : c.ok) (h : AHeap) : CallsA Try.prog 4 [.agg c.cells] h (fun v h2 => v = .bool true) := by
  apply padlocklaw09_CodeIs_wp
  have b1 : ∀ b : Bool, (b == b) = true := fun b => by cases b <;> rfl
  (repeat (first | simp -dsimp -implicitDefEqProofs (disch := omega) only [↓gp0, ↓gp1, ↓gp2, gq0, gq1, gq2, gq3, gq4, gq5, gq6, gq7, gq8, gq9, go0, go1, gl0, gl1, gl2, gl3, ↓reduceIte, Nat.reduceEqDiff, Nat.reduceAdd, Nat.reduceLeDiff, pBuild, fillA, ↓Api_Local.r, ↓Api_Item.r, ↓Api_Instr.r, ↓Api_Body.r, ↓Api_Site.r, ↓Api_Section.r, ↓Api_Code.r, ↓Api_Path.r, ↓Code_maker.r, ↓Api_Value.r] | refine Cut.go ?_))
  refine CallsA.go (alive_does _) ?_
  (repeat (first | simp -dsimp -implicitDefEqProofs (disch := omega) only [↓gp0, ↓gp1, ↓gp2, gq0, gq1, gq2, gq3, gq4, gq5, gq6, gq7, gq8, gq9, go0, go1, gl0, gl1, gl2, gl3, ↓reduceIte, Nat.reduceEqDiff, Nat.reduceAdd, Nat.reduceLeDiff, pBuild, fillA, ↓Api_Local.r, ↓Api_Item.r, ↓Api_Instr.r, ↓Api_Body.r, ↓Api_Site.r, ↓Api_Section.r, ↓Api_Code.r, ↓Api_Path.r, ↓Code_maker.r, ↓Api_Value.r, Bool.not_true] | refine Cut.go ?_))
  refine CallsA.go (ref_Great_does c hc _) ?_
  rcases hg : greatB c with _ | _
  · have sm := small_of hg
    (repeat (first | simp -dsimp -implicitDefEqProofs (disch := omega) only [↓gp0, ↓gp1, ↓gp2, gq0, gq1, gq2, gq3, gq4, gq5, gq6, gq7, gq8, gq9, go0, go1, gl0, gl1, gl2, gl3, ↓reduceIte, Nat.reduceEqDiff, Nat.reduceAdd, Nat.reduceLeDiff, pBuild, fillA, ↓Api_Local.r, ↓Api_Item.r, ↓Api_Instr.r, ↓Api_Body.r, ↓Api_Site.r, ↓Api_Section.r, ↓Api_Code.r, ↓Api_Path.r, ↓Code_maker.r, ↓Api_Value.r] | refine Cut.go ?_))
    refine CallsA.go (code_Good_s c hc sm _) ?_
    (repeat (first | simp -dsimp -implicitDefEqProofs (disch := omega) only [↓gp0, ↓gp1, ↓gp2, gq0, gq1, gq2, gq3, gq4, gq5, gq6, gq7, gq8, gq9, go0, go1, gl0, gl1, gl2, gl3, ↓reduceIte, Nat.reduceEqDiff, Nat.reduceAdd, Nat.reduceLeDiff, pBuild, fillA, ↓Api_Local.r, ↓Api_Item.r, ↓Api_Instr.r, ↓Api_Body.r, ↓Api_Site.r, ↓Api_Section.r, ↓Api_Code.r, ↓Api_Path.r, ↓Code_maker.r, ↓Api_Value.r] | refine Cut.go ?_))
    refine CallsA.go (ref_Good_c c hc sm _) ?_
    (repeat (first | simp -dsimp -implicitDefEqProofs (disch := omega) only [↓gp0, ↓gp1, ↓gp2, gq0, gq1, gq2, gq3, gq4, gq5, gq6, gq7, gq8, gq9, go0, go1, gl0, gl1, gl2, gl3, ↓reduceIte, Nat.reduceEqDiff, Nat.reduceAdd, Nat.reduceLeDiff, pBuild, fillA, ↓Api_Local.r, ↓Api_Item.r, ↓Api_Instr.r, ↓Api_Body.r, ↓Api_Site.r, ↓Api_Section.r, ↓Api_Code.r, ↓Api_Path.r, ↓Code_maker.r, ↓Api_Value.r, b1] | refine Cut.go ?_))
  · (repeat (first | simp -dsimp -implicitDefEqProofs (disch := omega) only [↓gp0, ↓gp1, ↓gp2, gq0, gq1, gq2, gq3, gq4, gq5, gq6, gq7, gq8, gq9, go0, go1, gl0, gl1, gl2, gl3, ↓reduceIte, Nat.reduceEqDiff, Nat.reduceAdd, Nat.reduceLeDiff, pBuild, fillA, ↓Api_Local.r, ↓Api_Item.r, ↓Api_Instr.r, ↓Api_Body.r, ↓Api_Site.r, ↓Api_Section.r, ↓Api_Code.r, ↓Api_Path.r, ↓Code_maker.r, ↓Api_Value.r] | refine Cut.go ?_))

end Go.Proofs.Ytppldbldpphlmaa
