/- What the program's functions of codes compute: sections, sites, codes. -/
import Derived.Test.YtppldbldpphlmaaCdProg5
set_option linter.unusedVariables false
set_option linter.unusedSimpArgs false
set_option maxRecDepth 100000
set_option maxHeartbeats 1000000
namespace Go.Proofs.Ytppldbldpphlmaa
open Go.Abs

theorem wkS (k : Nat) (hk : k ≤ 1000000) : IntKind.i64.wrap ((k : Int) + 1) = ((k + 1 : Nat) : Int) := by rw [wrapI (by omega) (by omega)]; omega

theorem slice_to {α : Type} (sz : Nat) (enc : α → List AV) (o : Option (List α)) (k : Nat) (hk : k ≤ (slL o).length) (kk : IntKind) (K : AV → Prop) : pSliceSl sz (slAV sz enc o) none (some (.int kk (k : Int))) K = K (slAV sz enc (o.map (List.take k))) := by
  cases o with
  | none =>
    have : k = 0 := by simpa using hk
    subst this
    simp [pSliceSl, slAV, bnd]
  | some l =>
    have : k ≤ l.length := by simpa using hk
    simp only [pSliceSl, slAV, bnd, Option.map_some, List.length_map, Int.toNat_natCast, true_and, Int.toNat_zero, List.drop_zero, List.map_take]
    simp; omega
theorem slL_take {α : Type} (o : Option (List α)) (k : Nat) : slL (o.map (List.take k)) = (slL o).take k := by cases o <;> simp

/-- Does none of the sections ahead meet it? -/
theorem sections_inner (c : Cd) (s : Api_Section) (k : Nat) (hk : k ≤ (slL c.Sections).length) (hs : (slL c.Sections).length ≤ 1000000) (a1 a9 a10 : AV) (h0 : AHeap) (id : Nat) (hid : id < h0.next) (ho : h0.objs id = some (.row 77 s.cells)) (Q : AExit → Fr → AHeap → Prop)
    (hret : ∀ h2, ((slL c.Sections).take k).all (fun o => !meetB s o) = false → Keeps h0 h2 (fun _ => False) → Q .ret (frOf [(2, .bool false)]) h2)
    (hex : ∀ h2, ((slL c.Sections).take k).all (fun o => !meetB s o) = true → Keeps h0 h2 (fun _ => False) → Q (.exit 2) (frOf [(1, a1), (9, a9), (10, a10), (11, .int .i64 k)]) h2) :
    WP Try.prog 125 (.loop c_code_sections_10) (frOf [(1, a1), (4, .ptr id 0), (9, a9), (10, a10), (11, .int .i64 k), (94, slAV 3 Api_Section.cells (c.Sections.map (List.take k))), (95, .int .i64 (k : Nat)), (96, .int .i64 0)]) h0 Q := by
  have hl : (slL (c.Sections.map (List.take k))).length = k := by rw [slL_take, List.length_take]; omega
  refine WP_loop mixed_ (by kernel_rfl) (fun n fr hh => ∃ j : Nat, j ≤ k ∧ n = k - j ∧ (∀ i o, i < j → (slL c.Sections)[i]? = some o → meetB s o = false) ∧ Keeps h0 hh (fun _ => False) ∧ fr = frOf [(1, a1), (4, .ptr id 0), (9, a9), (10, a10), (11, .int .i64 k), (94, slAV 3 Api_Section.cells (c.Sections.map (List.take k))), (95, .int .i64 (k : Nat)), (96, .int .i64 j)]) k ⟨0, by omega, by omega, fun i o hi => by omega, .refl _ _, rfl⟩ ?_
  rintro n fr hh ⟨j, hj, rfl, hup, kp, rfl⟩
  apply code_sections_loop10
  generalize hI : (fun (n : Nat) (fr : Fr) (hh : AHeap) => _) = I
  (repeat (first | simp -dsimp -implicitDefEqProofs (disch := omega) only [↓gp0, ↓gp1, ↓gp2, gq0, gq1, gq2, gq3, gq4, gq5, gq6, gq7, gq8, gq9, go0, go1, gl0, gl1, gl2, gl3, ↓reduceIte, Nat.reduceEqDiff, Nat.reduceAdd, Nat.reduceLeDiff, pBuild, fillA, ↓Api_Local.r, ↓Api_Item.r, ↓Api_Instr.r, ↓Api_Body.r, ↓Api_Site.r, ↓Api_Section.r, ↓Api_Code.r, ↓Api_Path.r, ↓Code_maker.r, ↓Api_Value.r] | refine Cut.go ?_))
  refine Split_lt (fun hjk => ?_) (fun hjk => ?_)
  · obtain ⟨o, hx⟩ : ∃ o, (slL c.Sections)[j]? = some o := ⟨_, List.getElem?_eq_getElem (by omega)⟩
    have hx2 : (slL (c.Sections.map (List.take k)))[j]? = some o := by rw [slL_take, List.getElem?_take_of_lt (by omega), hx]
    have kp1 : Keeps h0 (hh.push (.row 77 o.cells)) (fun _ => False) := kp.go (Keeps.one _ _)
    have ho2 : (hh.push (.row 77 o.cells)).objs id = some (.row 77 s.cells) := by
      have := kp.next
      simp only [AHeap.push_objs]
      rw [if_neg (by omega), kp.objs id hid (by simp), ho]
    have ld : ∀ (off : Nat) (q : Option Nat) (K : AV → Prop), pLoad q (.ptr id off) (hh.push (.row 77 o.cells)) K = pCells q s.cells off K := fun off q K => pLoad_ptr ho2 q K
    have yes : meetB s o = true → ((slL c.Sections).take k).all (fun o => !meetB s o) = false := fun hm => by
      rw [List.all_eq_false]
      exact ⟨o, List.mem_of_getElem? (i := j) (by rw [List.getElem?_take_of_lt (by omega), hx]), by simp [hm]⟩
    have on : meetB s o = false → loopPost I (k - j) Q .normal (frOf [(1, a1), (4, .ptr id 0), (9, a9), (10, a10), (11, .int .i64 k), (94, slAV 3 Api_Section.cells (c.Sections.map (List.take k))), (95, .int .i64 (k : Nat)), (96, .int .i64 (IntKind.i64.wrap ((j : Int) + 1)))]) (hh.push (.row 77 o.cells)) := fun hm => by
      rw [loopPost_normal, ← hI, wkS j (by omega)]
      refine ⟨_, ?_, j + 1, by omega, rfl, fun i y hi hy => ?_, kp1, rfl⟩
      · omega
      · by_cases e : i = j
        · subst e; rw [hx] at hy; cases hy; exact hm
        · exact hup i y (by omega) hy
    rw [wkS j (by omega)] at on
    repeat' (first | (simp -dsimp -implicitDefEqProofs (disch := omega) only [↓gp0, ↓gp1, ↓gp2, gq0, gq1, gq2, gq3, gq4, gq5, gq6, gq7, gq8, gq9, go0, go1, gl0, gl1, gl2, gl3, ↓reduceIte, Nat.reduceEqDiff, Nat.reduceAdd, Nat.reduceLeDiff, pBuild, fillA, ↓Api_Local.r, ↓Api_Item.r, ↓Api_Instr.r, ↓Api_Body.r, ↓Api_Site.r, ↓Api_Section.r, ↓Api_Code.r, ↓Api_Path.r, ↓Code_maker.r, ↓Api_Value.r, pIndexAddr_slAV hx2, ↓ld, wkS j (by omega)]) | refine Cut.go ?_ | refine Split_eq (fun _ => ?_) (fun _ => ?_) | refine Split_ne (fun _ => ?_) (fun _ => ?_) | refine Split_lt (fun _ => ?_) (fun _ => ?_) | refine Split_le (fun _ => ?_) (fun _ => ?_) | refine Split.intro (fun _ => ?_) (fun _ => ?_))
    all_goals first
      | exact hret _ (yes (by simp [meetB, *])) kp1
      | exact on (by simp [meetB, *]; try omega)
  · have hke : j = k := by omega
    subst hke
    (repeat (first | simp -dsimp -implicitDefEqProofs (disch := omega) only [↓gp0, ↓gp1, ↓gp2, gq0, gq1, gq2, gq3, gq4, gq5, gq6, gq7, gq8, gq9, go0, go1, gl0, gl1, gl2, gl3, ↓reduceIte, Nat.reduceEqDiff, Nat.reduceAdd, Nat.reduceLeDiff, pBuild, fillA, ↓Api_Local.r, ↓Api_Item.r, ↓Api_Instr.r, ↓Api_Body.r, ↓Api_Site.r, ↓Api_Section.r, ↓Api_Code.r, ↓Api_Path.r, ↓Code_maker.r, ↓Api_Value.r] | refine Cut.go ?_))
    refine hex hh ?_ kp
    rw [List.all_eq_true]
    intro o ho'
    obtain ⟨i, hi⟩ := List.getElem?_of_mem ho'
    have hij : i < j := by have := (List.getElem?_eq_some_iff.1 hi).1; rw [List.length_take] at this; omega
    rw [List.getElem?_take_of_lt hij] at hi
    rw [hup i o hij hi]; rfl

theorem code_sections_does (c : Cd) (hc : c.ok) (hs : (slL c.Sections).length ≤ 1000000) (h : AHeap) : CallsA Try.prog 52 [.agg c.cells] h (fun v h2 => v = .bool (sectionsB c) ∧ Keeps h h2 (fun _ => False)) := by
  apply code_sections_wp
  (repeat (first | simp -dsimp -implicitDefEqProofs (disch := omega) only [↓gp0, ↓gp1, ↓gp2, gq0, gq1, gq2, gq3, gq4, gq5, gq6, gq7, gq8, gq9, go0, go1, gl0, gl1, gl2, gl3, ↓reduceIte, Nat.reduceEqDiff, Nat.reduceAdd, Nat.reduceLeDiff, pBuild, fillA, ↓Api_Local.r, ↓Api_Item.r, ↓Api_Instr.r, ↓Api_Body.r, ↓Api_Site.r, ↓Api_Section.r, ↓Api_Code.r, ↓Api_Path.r, ↓Code_maker.r, ↓Api_Value.r] | refine Cut.go ?_))
  refine WP_loop mixed_ (by kernel_rfl) (fun n fr hh => ∃ k : Nat, k ≤ (slL c.Sections).length ∧ n = (slL c.Sections).length - k ∧ upTo (secB c) (slL c.Sections) k ∧ Keeps h hh (fun _ => False) ∧ fr = frOf [(1, .iptr c.cells), (9, slAV 3 Api_Section.cells c.Sections), (10, .int .i64 (slL c.Sections).length), (11, .int .i64 k)]) (slL c.Sections).length ⟨0, by omega, by omega, upTo_zero _ _, .refl _ _, rfl⟩ ?_
  rintro n fr hh ⟨k, hk, rfl, hup, kp, rfl⟩
  apply code_sections_loop2
  generalize hI : (fun (n : Nat) (fr : Fr) (hh : AHeap) => _) = I
  (repeat (first | simp -dsimp -implicitDefEqProofs (disch := omega) only [↓gp0, ↓gp1, ↓gp2, gq0, gq1, gq2, gq3, gq4, gq5, gq6, gq7, gq8, gq9, go0, go1, gl0, gl1, gl2, gl3, ↓reduceIte, Nat.reduceEqDiff, Nat.reduceAdd, Nat.reduceLeDiff, pBuild, fillA, ↓Api_Local.r, ↓Api_Item.r, ↓Api_Instr.r, ↓Api_Body.r, ↓Api_Site.r, ↓Api_Section.r, ↓Api_Code.r, ↓Api_Path.r, ↓Code_maker.r, ↓Api_Value.r] | refine Cut.go ?_))
  refine Split_lt (fun hkl => ?_) (fun hkl => ?_)
  · obtain ⟨s, hx⟩ : ∃ s, (slL c.Sections)[k]? = some s := ⟨_, List.getElem?_eq_getElem (by omega)⟩
    have kp1 : Keeps h (hh.push (.row 77 s.cells)) (fun _ => False) := kp.go (Keeps.one _ _)
    have bad : secB c k s = false → sectionsB c = false := fun hb => by unfold sectionsB; rw [allK_false hx hb, Bool.and_false]
    (repeat (first | simp -dsimp -implicitDefEqProofs (disch := omega) only [↓gp0, ↓gp1, ↓gp2, gq0, gq1, gq2, gq3, gq4, gq5, gq6, gq7, gq8, gq9, go0, go1, gl0, gl1, gl2, gl3, ↓reduceIte, Nat.reduceEqDiff, Nat.reduceAdd, Nat.reduceLeDiff, pBuild, fillA, ↓Api_Local.r, ↓Api_Item.r, ↓Api_Instr.r, ↓Api_Body.r, ↓Api_Site.r, ↓Api_Section.r, ↓Api_Code.r, ↓Api_Path.r, ↓Code_maker.r, ↓Api_Value.r, pIndexAddr_slAV hx] | refine Cut.go ?_))
    refine (code_between_does _ _ _).mono ?_
    rintro _ _ ⟨rfl, rfl⟩
    (repeat (first | simp -dsimp -implicitDefEqProofs (disch := omega) only [↓gp0, ↓gp1, ↓gp2, gq0, gq1, gq2, gq3, gq4, gq5, gq6, gq7, gq8, gq9, go0, go1, gl0, gl1, gl2, gl3, ↓reduceIte, Nat.reduceEqDiff, Nat.reduceAdd, Nat.reduceLeDiff, pBuild, fillA, ↓Api_Local.r, ↓Api_Item.r, ↓Api_Instr.r, ↓Api_Body.r, ↓Api_Site.r, ↓Api_Section.r, ↓Api_Code.r, ↓Api_Path.r, ↓Code_maker.r, ↓Api_Value.r] | refine Cut.go ?_))
    cases hb : getI (slL c.Threads) s.Thread with
    | none =>
      have hbt := getI_none.2 hb
      (repeat (first | simp -dsimp -implicitDefEqProofs (disch := omega) only [↓gp0, ↓gp1, ↓gp2, gq0, gq1, gq2, gq3, gq4, gq5, gq6, gq7, gq8, gq9, go0, go1, gl0, gl1, gl2, gl3, ↓reduceIte, Nat.reduceEqDiff, Nat.reduceAdd, Nat.reduceLeDiff, pBuild, fillA, ↓Api_Local.r, ↓Api_Item.r, ↓Api_Instr.r, ↓Api_Body.r, ↓Api_Site.r, ↓Api_Section.r, ↓Api_Code.r, ↓Api_Path.r, ↓Code_maker.r, ↓Api_Value.r, hbt] | refine Cut.go ?_))
      rw [bad (by simp [secB, endsB, codeAt, hb])]
      exact ⟨rfl, kp1⟩
    | some b =>
      have hbt := getI_some.2 ⟨b, hb⟩
      (repeat (first | simp -dsimp -implicitDefEqProofs (disch := omega) only [↓gp0, ↓gp1, ↓gp2, gq0, gq1, gq2, gq3, gq4, gq5, gq6, gq7, gq8, gq9, go0, go1, gl0, gl1, gl2, gl3, ↓reduceIte, Nat.reduceEqDiff, Nat.reduceAdd, Nat.reduceLeDiff, pBuild, fillA, ↓Api_Local.r, ↓Api_Item.r, ↓Api_Instr.r, ↓Api_Body.r, ↓Api_Site.r, ↓Api_Section.r, ↓Api_Code.r, ↓Api_Path.r, ↓Code_maker.r, ↓Api_Value.r, hbt] | refine Cut.go ?_))
      refine Split_lt (fun h1 => ?_) (fun h1 => ?_)
      · (repeat (first | simp -dsimp -implicitDefEqProofs (disch := omega) only [↓gp0, ↓gp1, ↓gp2, gq0, gq1, gq2, gq3, gq4, gq5, gq6, gq7, gq8, gq9, go0, go1, gl0, gl1, gl2, gl3, ↓reduceIte, Nat.reduceEqDiff, Nat.reduceAdd, Nat.reduceLeDiff, pBuild, fillA, ↓Api_Local.r, ↓Api_Item.r, ↓Api_Instr.r, ↓Api_Body.r, ↓Api_Site.r, ↓Api_Section.r, ↓Api_Code.r, ↓Api_Path.r, ↓Code_maker.r, ↓Api_Value.r] | refine Cut.go ?_))
        rw [bad (by simp [secB, endsB]; omega)]
        exact ⟨rfl, kp1⟩
      (repeat (first | simp -dsimp -implicitDefEqProofs (disch := omega) only [↓gp0, ↓gp1, ↓gp2, gq0, gq1, gq2, gq3, gq4, gq5, gq6, gq7, gq8, gq9, go0, go1, gl0, gl1, gl2, gl3, ↓reduceIte, Nat.reduceEqDiff, Nat.reduceAdd, Nat.reduceLeDiff, pBuild, fillA, ↓Api_Local.r, ↓Api_Item.r, ↓Api_Instr.r, ↓Api_Body.r, ↓Api_Site.r, ↓Api_Section.r, ↓Api_Code.r, ↓Api_Path.r, ↓Code_maker.r, ↓Api_Value.r] | refine Cut.go ?_))
      refine Split_le (fun h2 => ?_) (fun h2 => ?_)
      · (repeat (first | simp -dsimp -implicitDefEqProofs (disch := omega) only [↓gp0, ↓gp1, ↓gp2, gq0, gq1, gq2, gq3, gq4, gq5, gq6, gq7, gq8, gq9, go0, go1, gl0, gl1, gl2, gl3, ↓reduceIte, Nat.reduceEqDiff, Nat.reduceAdd, Nat.reduceLeDiff, pBuild, fillA, ↓Api_Local.r, ↓Api_Item.r, ↓Api_Instr.r, ↓Api_Body.r, ↓Api_Site.r, ↓Api_Section.r, ↓Api_Code.r, ↓Api_Path.r, ↓Code_maker.r, ↓Api_Value.r] | refine Cut.go ?_))
        rw [bad (by simp [secB, endsB]; omega)]
        exact ⟨rfl, kp1⟩
      (repeat (first | simp -dsimp -implicitDefEqProofs (disch := omega) only [↓gp0, ↓gp1, ↓gp2, gq0, gq1, gq2, gq3, gq4, gq5, gq6, gq7, gq8, gq9, go0, go1, gl0, gl1, gl2, gl3, ↓reduceIte, Nat.reduceEqDiff, Nat.reduceAdd, Nat.reduceLeDiff, pBuild, fillA, ↓Api_Local.r, ↓Api_Item.r, ↓Api_Instr.r, ↓Api_Body.r, ↓Api_Site.r, ↓Api_Section.r, ↓Api_Code.r, ↓Api_Path.r, ↓Code_maker.r, ↓Api_Value.r, ixI hb] | refine Cut.go ?_))
      refine Split_le (fun h3 => ?_) (fun h3 => ?_)
      · (repeat (first | simp -dsimp -implicitDefEqProofs (disch := omega) only [↓gp0, ↓gp1, ↓gp2, gq0, gq1, gq2, gq3, gq4, gq5, gq6, gq7, gq8, gq9, go0, go1, gl0, gl1, gl2, gl3, ↓reduceIte, Nat.reduceEqDiff, Nat.reduceAdd, Nat.reduceLeDiff, pBuild, fillA, ↓Api_Local.r, ↓Api_Item.r, ↓Api_Instr.r, ↓Api_Body.r, ↓Api_Site.r, ↓Api_Section.r, ↓Api_Code.r, ↓Api_Path.r, ↓Code_maker.r, ↓Api_Value.r] | refine Cut.go ?_))
        have : getI (slL b.Code) s.To = none := getI_none.1 (by unfold btw; simp; omega)
        rw [bad (by simp [secB, endsB, codeAt, hb, this])]
        exact ⟨rfl, kp1⟩
      obtain ⟨x, hxx⟩ : ∃ x, getI (slL b.Code) s.From = some x := getI_some.1 (by unfold btw; simp; omega)
      obtain ⟨y, hyy⟩ : ∃ y, getI (slL b.Code) s.To = some y := getI_some.1 (by unfold btw; simp; omega)
      (repeat (first | simp -dsimp -implicitDefEqProofs (disch := omega) only [↓gp0, ↓gp1, ↓gp2, gq0, gq1, gq2, gq3, gq4, gq5, gq6, gq7, gq8, gq9, go0, go1, gl0, gl1, gl2, gl3, ↓reduceIte, Nat.reduceEqDiff, Nat.reduceAdd, Nat.reduceLeDiff, pBuild, fillA, ↓Api_Local.r, ↓Api_Item.r, ↓Api_Instr.r, ↓Api_Body.r, ↓Api_Site.r, ↓Api_Section.r, ↓Api_Code.r, ↓Api_Path.r, ↓Code_maker.r, ↓Api_Value.r, ixI hb, ixI hxx, ixI hyy] | refine Cut.go ?_))
      refine Split_ne (fun h4 => ?_) (fun h4 => ?_)
      · (repeat (first | simp -dsimp -implicitDefEqProofs (disch := omega) only [↓gp0, ↓gp1, ↓gp2, gq0, gq1, gq2, gq3, gq4, gq5, gq6, gq7, gq8, gq9, go0, go1, gl0, gl1, gl2, gl3, ↓reduceIte, Nat.reduceEqDiff, Nat.reduceAdd, Nat.reduceLeDiff, pBuild, fillA, ↓Api_Local.r, ↓Api_Item.r, ↓Api_Instr.r, ↓Api_Body.r, ↓Api_Site.r, ↓Api_Section.r, ↓Api_Code.r, ↓Api_Path.r, ↓Code_maker.r, ↓Api_Value.r] | refine Cut.go ?_))
        rw [bad (by simp [secB, endsB, codeAt, hb, hxx, h4])]
        exact ⟨rfl, kp1⟩
      (repeat (first | simp -dsimp -implicitDefEqProofs (disch := omega) only [↓gp0, ↓gp1, ↓gp2, gq0, gq1, gq2, gq3, gq4, gq5, gq6, gq7, gq8, gq9, go0, go1, gl0, gl1, gl2, gl3, ↓reduceIte, Nat.reduceEqDiff, Nat.reduceAdd, Nat.reduceLeDiff, pBuild, fillA, ↓Api_Local.r, ↓Api_Item.r, ↓Api_Instr.r, ↓Api_Body.r, ↓Api_Site.r, ↓Api_Section.r, ↓Api_Code.r, ↓Api_Path.r, ↓Code_maker.r, ↓Api_Value.r, ixI hb, ixI hxx, ixI hyy] | refine Cut.go ?_))
      refine Split_ne (fun h5 => ?_) (fun h5 => ?_)
      · (repeat (first | simp -dsimp -implicitDefEqProofs (disch := omega) only [↓gp0, ↓gp1, ↓gp2, gq0, gq1, gq2, gq3, gq4, gq5, gq6, gq7, gq8, gq9, go0, go1, gl0, gl1, gl2, gl3, ↓reduceIte, Nat.reduceEqDiff, Nat.reduceAdd, Nat.reduceLeDiff, pBuild, fillA, ↓Api_Local.r, ↓Api_Item.r, ↓Api_Instr.r, ↓Api_Body.r, ↓Api_Site.r, ↓Api_Section.r, ↓Api_Code.r, ↓Api_Path.r, ↓Code_maker.r, ↓Api_Value.r] | refine Cut.go ?_))
        rw [bad (by simp [secB, endsB, codeAt, hb, hxx, h5])]
        exact ⟨rfl, kp1⟩
      (repeat (first | simp -dsimp -implicitDefEqProofs (disch := omega) only [↓gp0, ↓gp1, ↓gp2, gq0, gq1, gq2, gq3, gq4, gq5, gq6, gq7, gq8, gq9, go0, go1, gl0, gl1, gl2, gl3, ↓reduceIte, Nat.reduceEqDiff, Nat.reduceAdd, Nat.reduceLeDiff, pBuild, fillA, ↓Api_Local.r, ↓Api_Item.r, ↓Api_Instr.r, ↓Api_Body.r, ↓Api_Site.r, ↓Api_Section.r, ↓Api_Code.r, ↓Api_Path.r, ↓Code_maker.r, ↓Api_Value.r, ixI hb, ixI hxx, ixI hyy] | refine Cut.go ?_))
      refine Split_ne (fun h6 => ?_) (fun h6 => ?_)
      · (repeat (first | simp -dsimp -implicitDefEqProofs (disch := omega) only [↓gp0, ↓gp1, ↓gp2, gq0, gq1, gq2, gq3, gq4, gq5, gq6, gq7, gq8, gq9, go0, go1, gl0, gl1, gl2, gl3, ↓reduceIte, Nat.reduceEqDiff, Nat.reduceAdd, Nat.reduceLeDiff, pBuild, fillA, ↓Api_Local.r, ↓Api_Item.r, ↓Api_Instr.r, ↓Api_Body.r, ↓Api_Site.r, ↓Api_Section.r, ↓Api_Code.r, ↓Api_Path.r, ↓Code_maker.r, ↓Api_Value.r] | refine Cut.go ?_))
        rw [bad (by simp [secB, endsB, codeAt, hb, hyy, h6])]
        exact ⟨rfl, kp1⟩
      (repeat (first | simp -dsimp -implicitDefEqProofs (disch := omega) only [↓gp0, ↓gp1, ↓gp2, gq0, gq1, gq2, gq3, gq4, gq5, gq6, gq7, gq8, gq9, go0, go1, gl0, gl1, gl2, gl3, ↓reduceIte, Nat.reduceEqDiff, Nat.reduceAdd, Nat.reduceLeDiff, pBuild, fillA, ↓Api_Local.r, ↓Api_Item.r, ↓Api_Instr.r, ↓Api_Body.r, ↓Api_Site.r, ↓Api_Section.r, ↓Api_Code.r, ↓Api_Path.r, ↓Code_maker.r, ↓Api_Value.r, ixI hb, ixI hxx, ixI hyy] | refine Cut.go ?_))
      refine Split_ne (fun h7 => ?_) (fun h7 => ?_)
      · (repeat (first | simp -dsimp -implicitDefEqProofs (disch := omega) only [↓gp0, ↓gp1, ↓gp2, gq0, gq1, gq2, gq3, gq4, gq5, gq6, gq7, gq8, gq9, go0, go1, gl0, gl1, gl2, gl3, ↓reduceIte, Nat.reduceEqDiff, Nat.reduceAdd, Nat.reduceLeDiff, pBuild, fillA, ↓Api_Local.r, ↓Api_Item.r, ↓Api_Instr.r, ↓Api_Body.r, ↓Api_Site.r, ↓Api_Section.r, ↓Api_Code.r, ↓Api_Path.r, ↓Code_maker.r, ↓Api_Value.r] | refine Cut.go ?_))
        rw [bad (by simp [secB, endsB, codeAt, hb, hyy, h7])]
        exact ⟨rfl, kp1⟩
      (repeat (first | simp -dsimp -implicitDefEqProofs (disch := omega) only [↓gp0, ↓gp1, ↓gp2, gq0, gq1, gq2, gq3, gq4, gq5, gq6, gq7, gq8, gq9, go0, go1, gl0, gl1, gl2, gl3, ↓reduceIte, Nat.reduceEqDiff, Nat.reduceAdd, Nat.reduceLeDiff, pBuild, fillA, ↓Api_Local.r, ↓Api_Item.r, ↓Api_Instr.r, ↓Api_Body.r, ↓Api_Site.r, ↓Api_Section.r, ↓Api_Code.r, ↓Api_Path.r, ↓Code_maker.r, ↓Api_Value.r, slice_to 3 Api_Section.cells c.Sections k hk] | refine Cut.go ?_))
      have hlk : (slL (c.Sections.map (List.take k))).length = k := by rw [slL_take, List.length_take]; omega
      rw [hlk]
      have he : endsB c k s = true := by
        simp only [endsB, codeAt, hb, hxx, hyy, h4, h5, h6, h7, decide_true, Bool.and_true, Bool.and_eq_true, decide_eq_true_eq]
        omega
      refine sections_inner c s k hk hs _ _ _ _ _ (by simp) (by simp) _ (fun h2 hm k2 => ?_) (fun h2 hm k2 => ?_)
      · (repeat (first | simp -dsimp -implicitDefEqProofs (disch := omega) only [↓gp0, ↓gp1, ↓gp2, gq0, gq1, gq2, gq3, gq4, gq5, gq6, gq7, gq8, gq9, go0, go1, gl0, gl1, gl2, gl3, ↓reduceIte, Nat.reduceEqDiff, Nat.reduceAdd, Nat.reduceLeDiff, pBuild, fillA, ↓Api_Local.r, ↓Api_Item.r, ↓Api_Instr.r, ↓Api_Body.r, ↓Api_Site.r, ↓Api_Section.r, ↓Api_Code.r, ↓Api_Path.r, ↓Code_maker.r, ↓Api_Value.r] | refine Cut.go ?_))
        rw [bad (by unfold secB; rw [hm, Bool.and_false])]
        exact ⟨rfl, kp1.go k2⟩
      · (repeat (first | simp -dsimp -implicitDefEqProofs (disch := omega) only [↓gp0, ↓gp1, ↓gp2, gq0, gq1, gq2, gq3, gq4, gq5, gq6, gq7, gq8, gq9, go0, go1, gl0, gl1, gl2, gl3, ↓reduceIte, Nat.reduceEqDiff, Nat.reduceAdd, Nat.reduceLeDiff, pBuild, fillA, ↓Api_Local.r, ↓Api_Item.r, ↓Api_Instr.r, ↓Api_Body.r, ↓Api_Site.r, ↓Api_Section.r, ↓Api_Code.r, ↓Api_Path.r, ↓Code_maker.r, ↓Api_Value.r] | refine Cut.go ?_))
        rw [loopPost_normal, ← hI]
        exact ⟨_, by omega, k + 1, by omega, rfl, upTo_succ hup hx (by unfold secB; rw [hm, he]; rfl), kp1.go k2, by simp⟩
  · have hke : k = (slL c.Sections).length := by omega
    subst hke
    (repeat (first | simp -dsimp -implicitDefEqProofs (disch := omega) only [↓gp0, ↓gp1, ↓gp2, gq0, gq1, gq2, gq3, gq4, gq5, gq6, gq7, gq8, gq9, go0, go1, gl0, gl1, gl2, gl3, ↓reduceIte, Nat.reduceEqDiff, Nat.reduceAdd, Nat.reduceLeDiff, pBuild, fillA, ↓Api_Local.r, ↓Api_Item.r, ↓Api_Instr.r, ↓Api_Body.r, ↓Api_Site.r, ↓Api_Section.r, ↓Api_Code.r, ↓Api_Path.r, ↓Code_maker.r, ↓Api_Value.r] | refine Cut.go ?_))
    have : allK (secB c) (slL c.Sections) = true := upTo_all hup
    unfold sectionsB
    rw [this]
    refine ⟨by simp; try omega, kp⟩

end Go.Proofs.Ytppldbldpphlmaa
