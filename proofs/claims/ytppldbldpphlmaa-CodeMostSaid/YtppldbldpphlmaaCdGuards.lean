/- In a code that can be nothing shared is touched outside sections; jumps stay where they are; it goes on within the thread. -/
import Derived.Test.YtppldbldpphlmaaCdAlive
set_option linter.unusedVariables false
set_option linter.unusedSimpArgs false
set_option maxRecDepth 100000
set_option maxHeartbeats 1000000
namespace Go.Proofs.Ytppldbldpphlmaa
open Go.Abs

/-- What holds of an instruction of a code that can be. -/
structure Guarded (c : Cd) (t : Int) (b : Bd) (x : In) (a : Int) : Prop where
  shared : 2 ≤ x.Op ∧ x.Op ≤ 9 → 0 ≤ insI c t a
  jump : x.Op = 13 ∨ x.Op = 14 → 0 ≤ x.To ∧ x.To < (slL b.Code).length ∧ insI c t x.To = insI c t a
  halt : x.Op = 17 ↔ a + 1 = (slL b.Code).length
  leave : x.Op = 16 → insI c t a = x.N
  begin_ : x.Op = 15 → insI c t (a + 1) = x.N

theorem okC_parts {c : Cd} (h : okC c = true) : (slL c.Records).length ≤ 6 ∧ (slL c.Threads).length ≤ 4 ∧ cellsB c (slL c.Globals) 8 = true ∧ sectionsB c = true ∧ sitesB c = true ∧ (slL c.Records).all (fun r => cellsB c (slL r) 6) = true ∧ threadsB c = true := by
  unfold okC at h
  simp only [Bool.and_eq_true, decide_eq_true_eq] at h
  obtain ⟨⟨⟨⟨⟨⟨h1, h2⟩, h3⟩, h4⟩, h5⟩, h6⟩, h7⟩ := h
  exact ⟨h1, h2, h3, h4, h5, h6, h7⟩

theorem ins_at {c : Cd} {t a : Int} {k : Nat} {s : Api_Section} (hs : (slL c.Sections)[k]? = some s) (hb : secB c k s = true) (hp : secP t a s = true) : insI c t a = k := by
  refine posI_here hs hp fun j o hj ho => ?_
  rw [Bool.eq_false_iff]
  intro hq
  unfold secB at hb
  rw [Bool.and_eq_true, List.all_eq_true] at hb
  have := hb.2 o (List.mem_of_getElem? (i := j) (by rw [List.getElem?_take_of_lt hj, ho]))
  simp only [secP, Bool.and_eq_true, decide_eq_true_eq] at hp hq
  simp only [meetB, Bool.not_eq_true', Bool.and_eq_false_iff, decide_eq_false_iff_not] at this
  omega

theorem guarded {c : Cd} (h : okC c = true) {i k : Nat} {b : Bd} {x : In} (hb : (slL c.Threads)[i]? = some b) (hx : (slL b.Code)[k]? = some x) : Guarded c i b x k := by
  obtain ⟨-, -, -, h4, -, -, h7⟩ := okC_parts h
  have ht := allK_iff.1 h7 i b hb
  unfold threadB at ht
  simp only [Bool.and_eq_true] at ht
  obtain ⟨⟨hbd, hlast⟩, hin⟩ := ht
  have hi := allK_iff.1 hin k x hx
  have hk := (List.getElem?_eq_some_iff.1 hx).1
  have hsec : ∀ (n : Int) (s : Api_Section), getI (slL c.Sections) n = some s → ∃ m : Nat, n = m ∧ (slL c.Sections)[m]? = some s ∧ secB c m s = true := fun n s hn => by
    obtain ⟨m, rfl, hm⟩ := getI_nat hn
    unfold sectionsB at h4
    rw [Bool.and_eq_true] at h4
    exact ⟨m, rfl, hm, allK_iff.1 h4.2 m s hm⟩
  have hends : ∀ (m : Nat) (s : Api_Section), secB c m s = true → s.From < s.To := fun m s hs => by
    simp only [secB, endsB, Bool.and_eq_true, decide_eq_true_eq] at hs
    exact hs.1.1.1.2
  have border : (x.Op = 15 ∨ x.Op = 16) → ∃ s, getI (slL c.Sections) x.N = some s ∧ s.Thread = i ∧ (if x.Op = 15 then s.From = k else s.To = k) := fun ho => by
    unfold instrB at hi
    rw [if_neg (by omega), if_neg (by omega), if_neg (by omega), if_neg (by omega), if_neg (by omega), if_neg (by omega), if_neg (by omega), if_pos ho] at hi
    unfold borderB at hi
    rw [Bool.and_eq_true] at hi
    cases hs : getI (slL c.Sections) x.N with
    | none => rw [hs] at hi; exact absurd hi.2 (by simp)
    | some s =>
      rw [hs] at hi
      simp only [Bool.and_eq_true, decide_eq_true_eq] at hi
      refine ⟨s, rfl, hi.2.1, ?_⟩
      have := hi.2.2
      split <;> rename_i e
      · rw [if_pos e] at this; simpa using this
      · rw [if_neg e] at this; simpa using this
  refine ⟨fun ho => ?_, fun ho => ?_, ⟨fun ho => ?_, fun ho => ?_⟩, fun ho => ?_, fun ho => ?_⟩
  · by_cases hn : insI c i k < 0
    · unfold instrB at hi
      rw [if_pos ⟨ho, hn⟩] at hi; cases hi
    · omega
  · have hg : goesB c i b k x.To = true := by
      unfold instrB at hi
      rw [if_neg (by omega), if_neg (by omega), if_neg (by omega), if_neg (by omega), if_neg (by omega)] at hi
      by_cases h13 : x.Op = 13
      · rw [if_pos h13, Bool.and_eq_true] at hi; exact hi.2
      · rw [if_neg h13, if_pos (by omega), Bool.and_eq_true, Bool.and_eq_true] at hi; exact hi.1.2
    unfold goesB btw at hg
    simp only [Bool.and_eq_true, decide_eq_true_eq] at hg
    exact ⟨hg.1.1, hg.1.2, hg.2.symm⟩
  · unfold instrB at hi
    rw [if_neg (by omega), if_neg (by omega), if_neg (by omega), if_neg (by omega), if_neg (by omega), if_neg (by omega), if_neg (by omega), if_neg (by omega)] at hi
    simp only [Bool.and_eq_true, decide_eq_true_eq] at hi
    omega
  · unfold lastB at hlast
    have e : ((slL b.Code).length : Int) - 1 = (k : Int) := by omega
    rw [e, getI_natCast, hx] at hlast
    simpa using hlast
  · obtain ⟨s, hs, hst, hse⟩ := border (Or.inr ho)
    rw [if_neg (by omega)] at hse
    obtain ⟨m, hm, hsm, hsb⟩ := hsec _ _ hs
    have := hends m s hsb
    rw [hm]
    exact ins_at hsm hsb (by simp [secP, hst]; omega)
  · obtain ⟨s, hs, hst, hse⟩ := border (Or.inl ho)
    rw [if_pos ho] at hse
    obtain ⟨m, hm, hsm, hsb⟩ := hsec _ _ hs
    have := hends m s hsb
    rw [hm]
    exact ins_at hsm hsb (by simp [secP, hst]; omega)

/-- All instructions of a thread. -/
theorem guards_inner (c : Cd) (hc : c.ok) (sm : Small c) (i : Nat) (hi : i < 1000) (b : Bd) (hcl : (slL b.Code).length ≤ 600) (hx : ∀ (k : Nat) (x : In), (slL b.Code)[k]? = some x → Guarded c i b x k) (a18 a19 a20 : AV) (h0 : AHeap) (id : Nat) (hid : id < h0.next) (ho : h0.objs id = some (.row 62 b.cells)) (Q : AExit → Fr → AHeap → Prop)
    (hex : ∀ h2, Q (.exit 2) (frOf [(1, .iptr c.cells), (18, a18), (19, a19), (20, a20)]) h2) :
    WP Try.prog 115 (.loop c_padlocklaw09_CodeGuards_9) (frOf [(1, .iptr c.cells), (3, .int .i64 i), (4, .ptr id 0), (18, a18), (19, a19), (20, a20), (26, slAV 8 Api_Instr.cells b.Code), (27, .int .i64 (slL b.Code).length), (28, .int .i64 0)]) h0 Q := by
  have hsec := sm.secs
  refine WP_loop mixed_ (by kernel_rfl) (fun n fr hh => ∃ k : Nat, k ≤ (slL b.Code).length ∧ n = (slL b.Code).length - k ∧ Keeps h0 hh (fun _ => False) ∧ fr = frOf [(1, .iptr c.cells), (3, .int .i64 i), (4, .ptr id 0), (18, a18), (19, a19), (20, a20), (26, slAV 8 Api_Instr.cells b.Code), (27, .int .i64 (slL b.Code).length), (28, .int .i64 k)]) (slL b.Code).length ⟨0, by omega, by omega, .refl _ _, rfl⟩ ?_
  rintro n fr hh ⟨k, hk, rfl, kp, rfl⟩
  apply padlocklaw09_CodeGuards_loop9
  generalize hI : (fun (n : Nat) (fr : Fr) (hh : AHeap) => _) = I
  (repeat (first | simp -dsimp -implicitDefEqProofs (disch := omega) only [↓gp0, ↓gp1, ↓gp2, gq0, gq1, gq2, gq3, gq4, gq5, gq6, gq7, gq8, gq9, go0, go1, gl0, gl1, gl2, gl3, ↓reduceIte, Nat.reduceEqDiff, Nat.reduceAdd, Nat.reduceLeDiff, pBuild, fillA, ↓Api_Local.r, ↓Api_Item.r, ↓Api_Instr.r, ↓Api_Body.r, ↓Api_Site.r, ↓Api_Section.r, ↓Api_Code.r, ↓Api_Path.r, ↓Code_maker.r, ↓Api_Value.r] | refine Cut.go ?_))
  refine Split_lt (fun hkl => ?_) (fun hkl => ?_)
  · obtain ⟨x, hx'⟩ : ∃ x, (slL b.Code)[k]? = some x := ⟨_, List.getElem?_eq_getElem (by omega)⟩
    obtain ⟨g1, g2, g3, g4, g5⟩ := hx k x hx'
    have kp1 := kp.go (Keeps.one hh (.row 56 x.cells))
    have ho2 : (hh.push (.row 56 x.cells)).objs id = some (.row 62 b.cells) := by
      have := kp.next
      simp only [AHeap.push_objs]
      rw [if_neg (by omega), kp.objs id hid (by simp), ho]
    have ld : ∀ (off : Nat) (q : Option Nat) (K : AV → Prop), pLoad q (.ptr id off) (hh.push (.row 56 x.cells)) K = pCells q b.cells off K := fun off q K => pLoad_ptr ho2 q K
    have on : loopPost I ((slL b.Code).length - k) Q .normal (frOf [(1, .iptr c.cells), (3, .int .i64 i), (4, .ptr id 0), (18, a18), (19, a19), (20, a20), (26, slAV 8 Api_Instr.cells b.Code), (27, .int .i64 (slL b.Code).length), (28, .int .i64 ((k : Int) + 1))]) (hh.push (.row 56 x.cells)) := by
      rw [loopPost_normal, ← hI]
      exact ⟨_, by omega, k + 1, by omega, rfl, kp1, rfl⟩
    have wk := wkS k (by omega)
    have wk2 : IntKind.i64.wrap ((k : Int) + 1) = (k : Int) + 1 := wrapI (by omega) (by omega)
    (repeat (first | simp -dsimp -implicitDefEqProofs (disch := omega) only [↓gp0, ↓gp1, ↓gp2, gq0, gq1, gq2, gq3, gq4, gq5, gq6, gq7, gq8, gq9, go0, go1, gl0, gl1, gl2, gl3, ↓reduceIte, Nat.reduceEqDiff, Nat.reduceAdd, Nat.reduceLeDiff, pBuild, fillA, ↓Api_Local.r, ↓Api_Item.r, ↓Api_Instr.r, ↓Api_Body.r, ↓Api_Site.r, ↓Api_Section.r, ↓Api_Code.r, ↓Api_Path.r, ↓Code_maker.r, ↓Api_Value.r, pIndexAddr_slAV hx'] | refine Cut.go ?_))
    have b1 : (false == false) = true := rfl
    have b2 : (true == true) = true := rfl
    have b3 : (true == false) = false := rfl
    have b4 : (false == true) = false := rfl
    refine CallsA.go (code_Inside_does c hc (by omega) i k _) ?_
    rcases (by omega : x.Op = 17 ∨ x.Op ≠ 17) with h17 | h17
    all_goals repeat' (first | (simp -dsimp -implicitDefEqProofs (disch := omega) only [↓gp0, ↓gp1, ↓gp2, gq0, gq1, gq2, gq3, gq4, gq5, gq6, gq7, gq8, gq9, go0, go1, gl0, gl1, gl2, gl3, ↓reduceIte, Nat.reduceEqDiff, Nat.reduceAdd, Nat.reduceLeDiff, pBuild, fillA, ↓Api_Local.r, ↓Api_Item.r, ↓Api_Instr.r, ↓Api_Body.r, ↓Api_Site.r, ↓Api_Section.r, ↓Api_Code.r, ↓Api_Path.r, ↓Code_maker.r, ↓Api_Value.r, wk2, ↓ld, b1, b2, b3, b4]) | with_reducible refine Cut.go ?_ | with_reducible refine CallsA.go (code_Inside_does c hc (by omega) _ _ _) ?_ | with_reducible refine Split_eq (fun _ => ?_) (fun _ => ?_) | with_reducible refine Split_ne (fun _ => ?_) (fun _ => ?_) | with_reducible refine Split_lt (fun _ => ?_) (fun _ => ?_) | with_reducible refine Split_le (fun _ => ?_) (fun _ => ?_))
    all_goals first
      | exact on
      | (exfalso; omega)
      | skip
  · (repeat (first | simp -dsimp -implicitDefEqProofs (disch := omega) only [↓gp0, ↓gp1, ↓gp2, gq0, gq1, gq2, gq3, gq4, gq5, gq6, gq7, gq8, gq9, go0, go1, gl0, gl1, gl2, gl3, ↓reduceIte, Nat.reduceEqDiff, Nat.reduceAdd, Nat.reduceLeDiff, pBuild, fillA, ↓Api_Local.r, ↓Api_Item.r, ↓Api_Instr.r, ↓Api_Body.r, ↓Api_Site.r, ↓Api_Section.r, ↓Api_Code.r, ↓Api_Path.r, ↓Code_maker.r, ↓Api_Value.r] | refine Cut.go ?_))
    exact hex hh

theorem CodeGuards_does (c : Cd) (hc : c.ok) (h : AHeap) : CallsA Try.prog 6 [.agg c.cells] h (fun v h2 => v = .bool true) := by
  apply padlocklaw09_CodeGuards_wp
  (repeat (first | simp -dsimp -implicitDefEqProofs (disch := omega) only [↓gp0, ↓gp1, ↓gp2, gq0, gq1, gq2, gq3, gq4, gq5, gq6, gq7, gq8, gq9, go0, go1, gl0, gl1, gl2, gl3, ↓reduceIte, Nat.reduceEqDiff, Nat.reduceAdd, Nat.reduceLeDiff, pBuild, fillA, ↓Api_Local.r, ↓Api_Item.r, ↓Api_Instr.r, ↓Api_Body.r, ↓Api_Site.r, ↓Api_Section.r, ↓Api_Code.r, ↓Api_Path.r, ↓Code_maker.r, ↓Api_Value.r] | refine Cut.go ?_))
  refine CallsA.go (alive_does _) ?_
  (repeat (first | simp -dsimp -implicitDefEqProofs (disch := omega) only [↓gp0, ↓gp1, ↓gp2, gq0, gq1, gq2, gq3, gq4, gq5, gq6, gq7, gq8, gq9, go0, go1, gl0, gl1, gl2, gl3, ↓reduceIte, Nat.reduceEqDiff, Nat.reduceAdd, Nat.reduceLeDiff, pBuild, fillA, ↓Api_Local.r, ↓Api_Item.r, ↓Api_Instr.r, ↓Api_Body.r, ↓Api_Site.r, ↓Api_Section.r, ↓Api_Code.r, ↓Api_Path.r, ↓Code_maker.r, ↓Api_Value.r, Bool.not_true] | refine Cut.go ?_))
  refine CallsA.go (ref_Great_does c hc _) ?_
  rcases hg : greatB c with _ | _
  rotate_left
  · (repeat (first | simp -dsimp -implicitDefEqProofs (disch := omega) only [↓gp0, ↓gp1, ↓gp2, gq0, gq1, gq2, gq3, gq4, gq5, gq6, gq7, gq8, gq9, go0, go1, gl0, gl1, gl2, gl3, ↓reduceIte, Nat.reduceEqDiff, Nat.reduceAdd, Nat.reduceLeDiff, pBuild, fillA, ↓Api_Local.r, ↓Api_Item.r, ↓Api_Instr.r, ↓Api_Body.r, ↓Api_Site.r, ↓Api_Section.r, ↓Api_Code.r, ↓Api_Path.r, ↓Code_maker.r, ↓Api_Value.r] | refine Cut.go ?_))
  have sm := small_of hg
  (repeat (first | simp -dsimp -implicitDefEqProofs (disch := omega) only [↓gp0, ↓gp1, ↓gp2, gq0, gq1, gq2, gq3, gq4, gq5, gq6, gq7, gq8, gq9, go0, go1, gl0, gl1, gl2, gl3, ↓reduceIte, Nat.reduceEqDiff, Nat.reduceAdd, Nat.reduceLeDiff, pBuild, fillA, ↓Api_Local.r, ↓Api_Item.r, ↓Api_Instr.r, ↓Api_Body.r, ↓Api_Site.r, ↓Api_Section.r, ↓Api_Code.r, ↓Api_Path.r, ↓Code_maker.r, ↓Api_Value.r] | refine Cut.go ?_))
  refine CallsA.go (code_Good_s c hc sm _) ?_
  rcases hok : okC c with _ | _
  · (repeat (first | simp -dsimp -implicitDefEqProofs (disch := omega) only [↓gp0, ↓gp1, ↓gp2, gq0, gq1, gq2, gq3, gq4, gq5, gq6, gq7, gq8, gq9, go0, go1, gl0, gl1, gl2, gl3, ↓reduceIte, Nat.reduceEqDiff, Nat.reduceAdd, Nat.reduceLeDiff, pBuild, fillA, ↓Api_Local.r, ↓Api_Item.r, ↓Api_Instr.r, ↓Api_Body.r, ↓Api_Site.r, ↓Api_Section.r, ↓Api_Code.r, ↓Api_Path.r, ↓Code_maker.r, ↓Api_Value.r, Bool.not_false] | refine Cut.go ?_))
  (repeat (first | simp -dsimp -implicitDefEqProofs (disch := omega) only [↓gp0, ↓gp1, ↓gp2, gq0, gq1, gq2, gq3, gq4, gq5, gq6, gq7, gq8, gq9, go0, go1, gl0, gl1, gl2, gl3, ↓reduceIte, Nat.reduceEqDiff, Nat.reduceAdd, Nat.reduceLeDiff, pBuild, fillA, ↓Api_Local.r, ↓Api_Item.r, ↓Api_Instr.r, ↓Api_Body.r, ↓Api_Site.r, ↓Api_Section.r, ↓Api_Code.r, ↓Api_Path.r, ↓Code_maker.r, ↓Api_Value.r, Bool.not_true] | refine Cut.go ?_))
  have hth := sm.threads
  obtain ⟨I, hI⟩ : ∃ I : Nat → Fr → AHeap → Prop, I = (fun n fr hh => ∃ k : Nat, k ≤ (slL c.Threads).length ∧ n = (slL c.Threads).length - k ∧ fr = frOf [(1, .iptr c.cells), (18, slAV 3 Api_Body.cells c.Threads), (19, .int .i64 (slL c.Threads).length), (20, .int .i64 k)]) := ⟨_, rfl⟩
  refine WP_loop mixed_ (by kernel_rfl) I (slL c.Threads).length (by rw [hI]; exact ⟨0, by omega, by omega, rfl⟩) ?_
  intro n fr hh H
  rw [hI] at H
  obtain ⟨k, hk, rfl, rfl⟩ := H
  apply padlocklaw09_CodeGuards_loop6
  (repeat (first | simp -dsimp -implicitDefEqProofs (disch := omega) only [↓gp0, ↓gp1, ↓gp2, gq0, gq1, gq2, gq3, gq4, gq5, gq6, gq7, gq8, gq9, go0, go1, gl0, gl1, gl2, gl3, ↓reduceIte, Nat.reduceEqDiff, Nat.reduceAdd, Nat.reduceLeDiff, pBuild, fillA, ↓Api_Local.r, ↓Api_Item.r, ↓Api_Instr.r, ↓Api_Body.r, ↓Api_Site.r, ↓Api_Section.r, ↓Api_Code.r, ↓Api_Path.r, ↓Code_maker.r, ↓Api_Value.r] | refine Cut.go ?_))
  refine Split_lt (fun hkl => ?_) (fun hkl => ?_)
  · obtain ⟨b, hx⟩ : ∃ b, (slL c.Threads)[k]? = some b := ⟨_, List.getElem?_eq_getElem (by omega)⟩
    (repeat (first | simp -dsimp -implicitDefEqProofs (disch := omega) only [↓gp0, ↓gp1, ↓gp2, gq0, gq1, gq2, gq3, gq4, gq5, gq6, gq7, gq8, gq9, go0, go1, gl0, gl1, gl2, gl3, ↓reduceIte, Nat.reduceEqDiff, Nat.reduceAdd, Nat.reduceLeDiff, pBuild, fillA, ↓Api_Local.r, ↓Api_Item.r, ↓Api_Instr.r, ↓Api_Body.r, ↓Api_Site.r, ↓Api_Section.r, ↓Api_Code.r, ↓Api_Path.r, ↓Code_maker.r, ↓Api_Value.r, pIndexAddr_slAV hx] | refine Cut.go ?_))
    refine guards_inner c hc sm k (by omega) b (sm.code b (List.mem_of_getElem? hx)) (fun j x hj => guarded hok hx hj) _ _ _ _ hh.next (by simp) (by simp) _ (fun h2 => ?_)
    (repeat (first | simp -dsimp -implicitDefEqProofs (disch := omega) only [↓gp0, ↓gp1, ↓gp2, gq0, gq1, gq2, gq3, gq4, gq5, gq6, gq7, gq8, gq9, go0, go1, gl0, gl1, gl2, gl3, ↓reduceIte, Nat.reduceEqDiff, Nat.reduceAdd, Nat.reduceLeDiff, pBuild, fillA, ↓Api_Local.r, ↓Api_Item.r, ↓Api_Instr.r, ↓Api_Body.r, ↓Api_Site.r, ↓Api_Section.r, ↓Api_Code.r, ↓Api_Path.r, ↓Code_maker.r, ↓Api_Value.r, wkS k (by omega)] | refine Cut.go ?_))
    rw [loopPost_normal, hI]
    exact ⟨_, by omega, k + 1, by omega, rfl, rfl⟩
  · (repeat (first | simp -dsimp -implicitDefEqProofs (disch := omega) only [↓gp0, ↓gp1, ↓gp2, gq0, gq1, gq2, gq3, gq4, gq5, gq6, gq7, gq8, gq9, go0, go1, gl0, gl1, gl2, gl3, ↓reduceIte, Nat.reduceEqDiff, Nat.reduceAdd, Nat.reduceLeDiff, pBuild, fillA, ↓Api_Local.r, ↓Api_Item.r, ↓Api_Instr.r, ↓Api_Body.r, ↓Api_Site.r, ↓Api_Section.r, ↓Api_Code.r, ↓Api_Path.r, ↓Code_maker.r, ↓Api_Value.r] | refine Cut.go ?_))

end Go.Proofs.Ytppldbldpphlmaa
