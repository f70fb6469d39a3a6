/- The document's classes: who meets whom. -/
import Derived.Test.YtopfjochppdnfaaDoorClProg3
set_option linter.unusedVariables false
set_option linter.unusedSimpArgs false
set_option maxRecDepth 100000
set_option maxHeartbeats 1000000
namespace Go.Proofs.YtopfjochppdnfaaDoor
open Go.Abs

theorem has_does (x : Nat) (hx : x < 18446744073709551616) (k : Nat) (hk : k ≤ 1000000) (h : AHeap) : CallsA Tryd.prog 16 [.int .u64 (x : Nat), .int .i64 (k : Nat)] h (fun v h2 => v = .bool (x.testBit k) ∧ h2 = h) := by
  apply padlockref11_Has_wp
  have e0 : decide ((0 : Int) ≤ (k : Int)) = true := by simp
  by_cases h64 : k < 64
  · have e1 : decide ((k : Int) < 64) = true := by simp; omega
    have ec : IntKind.u64.wrap (k : Int) = (k : Int) := by rw [wr_u64]; omega
    have es : binA CmpK.other BinOp.shr (.int .u64 (x : Int)) (.int .u64 (k : Int)) = some (.int .u64 ((x / 2 ^ k : Nat) : Int)) := by rw [binA_shr, if_neg (by omega), iShr_u64 _ _ h64]
    have er : binA CmpK.other BinOp.rem (.int .u64 ((x / 2 ^ k : Nat) : Int)) (.int .u64 2) = some (.int .u64 ((x / 2 ^ k % 2 : Nat) : Int)) := by
      rw [binA_int_rem, if_neg (by decide)]
      rfl
    (repeat (first | simp -dsimp -implicitDefEqProofs (disch := omega) only [↓gp0, ↓gp1, ↓gp2, gq0, gq1, gq2, gq3, gq4, gq5, gq6, gq7, gq8, gq9, go0, go1, gl0, gl1, gl2, gl3, ↓reduceIte, Nat.reduceEqDiff, Nat.reduceAdd, Nat.reduceLeDiff, pBuild, fillA, ↓Api_Sets.r, e0, e1, ec, es, er] | refine Cut.go ?_))
    congr 1
    have : x.testBit k = decide (x / 2 ^ k % 2 = 1) := by
      rw [show x / 2 ^ k = x >>> k from (Nat.shiftRight_eq_div_pow x k).symm]
      have := Nat.testBit_shiftRight (i := k) (j := 0) x
      rw [Nat.add_zero] at this
      rw [← this, Nat.testBit_zero]
    rw [this]
    generalize x / 2 ^ k = q
    rw [Bool.eq_iff_iff]
    simp
    omega
  · have e1 : decide ((k : Int) < 64) = false := by simp; omega
    (repeat (first | simp -dsimp -implicitDefEqProofs (disch := omega) only [↓gp0, ↓gp1, ↓gp2, gq0, gq1, gq2, gq3, gq4, gq5, gq6, gq7, gq8, gq9, go0, go1, gl0, gl1, gl2, gl3, ↓reduceIte, Nat.reduceEqDiff, Nat.reduceAdd, Nat.reduceLeDiff, pBuild, fillA, ↓Api_Sets.r, e0, e1] | refine Cut.go ?_))
    rw [Nat.testBit_lt_two_pow (Nat.lt_of_lt_of_le (show x < 2 ^ 64 by simpa using hx) (Nat.pow_le_pow_right (by decide) (by omega)))]

def meetT (n : Int) (a b : Nat) (x : Nat) : Bool := x.testBit a && x.testBit b && decide ((a : Int) < n) && decide ((b : Int) < n)

theorem any_false_snoc {α : Type} (p : α → Bool) (l : List α) (x : α) (h1 : l.any p = false) (h2 : p x = false) : (l ++ [x]).any p = false := by simp [List.any_append, h1, h2]

theorem meets_row (n : Int) {o : Option (List Nat)} (ho : (slL o).length ≤ 100000) (hx : ∀ x ∈ slL o, x < 18446744073709551616) (a b : Nat) (ha : a ≤ 1000000) (hb : b ≤ 1000000) (A23 A24 A25 : AV) (h0 : AHeap) (Q : AExit → Fr → AHeap → Prop)
    (hret : (slL o).any (meetT n a b) = true → Q .ret (frOf [(8, .bool true)]) h0)
    (hex : (slL o).any (meetT n a b) = false → Q (.exit 2) (frOf [(0, .int .i64 n), (2, .int .i64 a), (3, .int .i64 b), (23, A23), (24, A24), (25, A25)]) h0) :
    WP Tryd.prog 55 (.loop c_padlockref12_Meets_6) (frOf [(0, .int .i64 n), (2, .int .i64 a), (3, .int .i64 b), (23, A23), (24, A24), (25, A25), (29, slAV 1 encN o), (30, .int .i64 (slL o).length), (31, .int .i64 0)]) h0 Q := by
  obtain ⟨I, hI⟩ : ∃ I : Nat → Fr → AHeap → Prop, I = (fun r fr hh => ∃ (j : Nat), r = (slL o).length - j ∧ j ≤ (slL o).length ∧ hh = h0 ∧ ((slL o).take j).any (meetT n a b) = false ∧ fr = frOf [(0, .int .i64 n), (2, .int .i64 a), (3, .int .i64 b), (23, A23), (24, A24), (25, A25), (29, slAV 1 encN o), (30, .int .i64 (slL o).length), (31, .int .i64 j)]) := ⟨_, rfl⟩
  refine WP_loop mixed_ (by kernel_rfl) I (slL o).length (by rw [hI]; exact ⟨0, rfl, Nat.zero_le _, rfl, by simp, rfl⟩) ?_
  intro r fr hh hi
  rw [hI] at hi
  obtain ⟨j, rfl, hj, rfl, hno, rfl⟩ := hi
  apply padlockref12_Meets_loop6
  (repeat (first | simp -dsimp -implicitDefEqProofs (disch := omega) only [↓gp0, ↓gp1, ↓gp2, gq0, gq1, gq2, gq3, gq4, gq5, gq6, gq7, gq8, gq9, go0, go1, gl0, gl1, gl2, gl3, ↓reduceIte, Nat.reduceEqDiff, Nat.reduceAdd, Nat.reduceLeDiff, pBuild, fillA, ↓Api_Sets.r] | refine Cut.go ?_))
  refine Split_lt (fun hjl => ?_) (fun hjl => ?_)
  · obtain ⟨x, hxj⟩ : ∃ x, (slL o)[j]? = some x := ⟨_, List.getElem?_eq_getElem (by omega)⟩
    have hmem := List.mem_of_getElem? hxj
    have hx1 := hx x hmem
    have ld : ∀ (H : AHeap) (K : AV → Prop), pLoad none (.iptr (encN x)) H K = K (.int .u64 (x : Nat)) := fun H K => by rw [pLoad_iptr]; simp [pCells, encN]
    have yes : meetT n a b x = true → (slL o).any (meetT n a b) = true := fun h => List.any_eq_true.2 ⟨x, hmem, h⟩
    have no : meetT n a b x = false → loopPost I ((slL o).length - j) Q .normal (frOf [(0, .int .i64 n), (2, .int .i64 a), (3, .int .i64 b), (23, A23), (24, A24), (25, A25), (29, slAV 1 encN o), (30, .int .i64 (slL o).length), (31, .int .i64 ((j + 1 : Nat) : Int))]) hh := fun h => by
      rw [loopPost_normal, hI]
      refine ⟨_, by omega, j + 1, rfl, by omega, rfl, ?_, rfl⟩
      rw [List.take_add_one, hxj]
      exact any_false_snoc _ _ _ hno h
    (repeat (first | simp -dsimp -implicitDefEqProofs (disch := omega) only [↓gp0, ↓gp1, ↓gp2, gq0, gq1, gq2, gq3, gq4, gq5, gq6, gq7, gq8, gq9, go0, go1, gl0, gl1, gl2, gl3, ↓reduceIte, Nat.reduceEqDiff, Nat.reduceAdd, Nat.reduceLeDiff, pBuild, fillA, ↓Api_Sets.r, pIndexAddr_slAV hxj, ld] | refine Cut.go ?_))
    refine CallsA.go (has_does x hx1 a ha _) ?_
    rcases h1 : x.testBit a with _ | _
    · (repeat (first | simp -dsimp -implicitDefEqProofs (disch := omega) only [↓gp0, ↓gp1, ↓gp2, gq0, gq1, gq2, gq3, gq4, gq5, gq6, gq7, gq8, gq9, go0, go1, gl0, gl1, gl2, gl3, ↓reduceIte, Nat.reduceEqDiff, Nat.reduceAdd, Nat.reduceLeDiff, pBuild, fillA, ↓Api_Sets.r, wk1 j (by omega)] | refine Cut.go ?_))
      exact no (by simp [meetT, h1])
    (repeat (first | simp -dsimp -implicitDefEqProofs (disch := omega) only [↓gp0, ↓gp1, ↓gp2, gq0, gq1, gq2, gq3, gq4, gq5, gq6, gq7, gq8, gq9, go0, go1, gl0, gl1, gl2, gl3, ↓reduceIte, Nat.reduceEqDiff, Nat.reduceAdd, Nat.reduceLeDiff, pBuild, fillA, ↓Api_Sets.r] | refine Cut.go ?_))
    refine CallsA.go (has_does x hx1 b hb _) ?_
    rcases h2 : x.testBit b with _ | _
    · (repeat (first | simp -dsimp -implicitDefEqProofs (disch := omega) only [↓gp0, ↓gp1, ↓gp2, gq0, gq1, gq2, gq3, gq4, gq5, gq6, gq7, gq8, gq9, go0, go1, gl0, gl1, gl2, gl3, ↓reduceIte, Nat.reduceEqDiff, Nat.reduceAdd, Nat.reduceLeDiff, pBuild, fillA, ↓Api_Sets.r, wk1 j (by omega)] | refine Cut.go ?_))
      exact no (by simp [meetT, h2])
    (repeat (first | simp -dsimp -implicitDefEqProofs (disch := omega) only [↓gp0, ↓gp1, ↓gp2, gq0, gq1, gq2, gq3, gq4, gq5, gq6, gq7, gq8, gq9, go0, go1, gl0, gl1, gl2, gl3, ↓reduceIte, Nat.reduceEqDiff, Nat.reduceAdd, Nat.reduceLeDiff, pBuild, fillA, ↓Api_Sets.r] | refine Cut.go ?_))
    refine Split_lt (fun h3 => ?_) (fun h3 => ?_)
    · (repeat (first | simp -dsimp -implicitDefEqProofs (disch := omega) only [↓gp0, ↓gp1, ↓gp2, gq0, gq1, gq2, gq3, gq4, gq5, gq6, gq7, gq8, gq9, go0, go1, gl0, gl1, gl2, gl3, ↓reduceIte, Nat.reduceEqDiff, Nat.reduceAdd, Nat.reduceLeDiff, pBuild, fillA, ↓Api_Sets.r] | refine Cut.go ?_))
      refine Split_lt (fun h4 => ?_) (fun h4 => ?_)
      · (repeat (first | simp -dsimp -implicitDefEqProofs (disch := omega) only [↓gp0, ↓gp1, ↓gp2, gq0, gq1, gq2, gq3, gq4, gq5, gq6, gq7, gq8, gq9, go0, go1, gl0, gl1, gl2, gl3, ↓reduceIte, Nat.reduceEqDiff, Nat.reduceAdd, Nat.reduceLeDiff, pBuild, fillA, ↓Api_Sets.r] | refine Cut.go ?_))
        exact hret (yes (by simp [meetT, h1, h2, h3, h4]))
      · (repeat (first | simp -dsimp -implicitDefEqProofs (disch := omega) only [↓gp0, ↓gp1, ↓gp2, gq0, gq1, gq2, gq3, gq4, gq5, gq6, gq7, gq8, gq9, go0, go1, gl0, gl1, gl2, gl3, ↓reduceIte, Nat.reduceEqDiff, Nat.reduceAdd, Nat.reduceLeDiff, pBuild, fillA, ↓Api_Sets.r, wk1 j (by omega)] | refine Cut.go ?_))
        exact no (by simp [meetT]; intros; omega)
    · (repeat (first | simp -dsimp -implicitDefEqProofs (disch := omega) only [↓gp0, ↓gp1, ↓gp2, gq0, gq1, gq2, gq3, gq4, gq5, gq6, gq7, gq8, gq9, go0, go1, gl0, gl1, gl2, gl3, ↓reduceIte, Nat.reduceEqDiff, Nat.reduceAdd, Nat.reduceLeDiff, pBuild, fillA, ↓Api_Sets.r, wk1 j (by omega)] | refine Cut.go ?_))
      exact no (by simp [meetT]; intros; omega)
  · (repeat (first | simp -dsimp -implicitDefEqProofs (disch := omega) only [↓gp0, ↓gp1, ↓gp2, gq0, gq1, gq2, gq3, gq4, gq5, gq6, gq7, gq8, gq9, go0, go1, gl0, gl1, gl2, gl3, ↓reduceIte, Nat.reduceEqDiff, Nat.reduceAdd, Nat.reduceLeDiff, pBuild, fillA, ↓Api_Sets.r] | refine Cut.go ?_))
    have e : j = (slL o).length := by omega
    subst e
    rw [List.take_length] at hno
    exact hex hno

theorem meets_rows (n : Int) {R : List (Option (List Nat))} (hR : R.length ≤ 200001) (hl : ∀ o ∈ R, (slL o).length ≤ 100000) (hx : ∀ x ∈ setsIn R, x < 18446744073709551616) (a b : Nat) (ha : a ≤ 1000000) (hb : b ≤ 1000000) {id : Nat} {h0 : AHeap} (ho : h0.objs id = some (.row 27 (rowsAV R))) (Q : AExit → Fr → AHeap → Prop)
    (hret : (setsIn R).any (meetT n a b) = true → Q .ret (frOf [(8, .bool true)]) h0)
    (hex : (setsIn R).any (meetT n a b) = false → Q (.exit 0) (frOf []) h0) :
    WP Tryd.prog 55 (.loop c_padlockref12_Meets_3) (frOf [(0, .int .i64 n), (2, .int .i64 a), (3, .int .i64 b), (23, .sl id 0 R.length 1), (24, .int .i64 R.length), (25, .int .i64 0)]) h0 Q := by
  obtain ⟨I, hI⟩ : ∃ I : Nat → Fr → AHeap → Prop, I = (fun r fr hh => ∃ (i : Nat), r = R.length - i ∧ i ≤ R.length ∧ hh = h0 ∧ (setsIn (R.take i)).any (meetT n a b) = false ∧ fr = frOf [(0, .int .i64 n), (2, .int .i64 a), (3, .int .i64 b), (23, .sl id 0 R.length 1), (24, .int .i64 R.length), (25, .int .i64 i)]) := ⟨_, rfl⟩
  refine WP_loop mixed_ (by kernel_rfl) I R.length (by rw [hI]; exact ⟨0, rfl, Nat.zero_le _, rfl, by simp [setsIn], rfl⟩) ?_
  intro r fr hh hi
  rw [hI] at hi
  obtain ⟨i, rfl, hi, rfl, hno, rfl⟩ := hi
  apply padlockref12_Meets_loop3
  (repeat (first | simp -dsimp -implicitDefEqProofs (disch := omega) only [↓gp0, ↓gp1, ↓gp2, gq0, gq1, gq2, gq3, gq4, gq5, gq6, gq7, gq8, gq9, go0, go1, gl0, gl1, gl2, gl3, ↓reduceIte, Nat.reduceEqDiff, Nat.reduceAdd, Nat.reduceLeDiff, pBuild, fillA, ↓Api_Sets.r] | refine Cut.go ?_))
  refine Split_lt (fun hil => ?_) (fun hil => ?_)
  · obtain ⟨o, hxo⟩ : ∃ o, R[i]? = some o := ⟨_, List.getElem?_eq_getElem (by omega)⟩
    have hmem : o ∈ R := List.mem_of_getElem? hxo
    have ld : ∀ (K : AV → Prop), pLoad none (.ptr id i) hh K = K (slAV 1 encN o) := fun K => by
      rw [pLoad_ptr ho, pCells_none_some (v := slAV 1 encN o) (by simp [rowsAV, hxo])]
    (repeat (first | simp -dsimp -implicitDefEqProofs (disch := omega) only [↓gp0, ↓gp1, ↓gp2, gq0, gq1, gq2, gq3, gq4, gq5, gq6, gq7, gq8, gq9, go0, go1, gl0, gl1, gl2, gl3, ↓reduceIte, Nat.reduceEqDiff, Nat.reduceAdd, Nat.reduceLeDiff, pBuild, fillA, ↓Api_Sets.r, ix_ns (show i < R.length by omega), ↓ld] | refine Cut.go ?_))
    refine meets_row n (hl o hmem) (fun x hxx => hx x (List.mem_flatMap.2 ⟨o, hmem, hxx⟩)) a b ha hb _ _ _ _ _ (fun hy => ?_) (fun hn => ?_)
    · (repeat (first | simp -dsimp -implicitDefEqProofs (disch := omega) only [↓gp0, ↓gp1, ↓gp2, gq0, gq1, gq2, gq3, gq4, gq5, gq6, gq7, gq8, gq9, go0, go1, gl0, gl1, gl2, gl3, ↓reduceIte, Nat.reduceEqDiff, Nat.reduceAdd, Nat.reduceLeDiff, pBuild, fillA, ↓Api_Sets.r] | refine Cut.go ?_))
      refine hret ?_
      obtain ⟨x, h1, h2⟩ := List.any_eq_true.1 hy
      exact List.any_eq_true.2 ⟨x, List.mem_flatMap.2 ⟨o, hmem, h1⟩, h2⟩
    · (repeat (first | simp -dsimp -implicitDefEqProofs (disch := omega) only [↓gp0, ↓gp1, ↓gp2, gq0, gq1, gq2, gq3, gq4, gq5, gq6, gq7, gq8, gq9, go0, go1, gl0, gl1, gl2, gl3, ↓reduceIte, Nat.reduceEqDiff, Nat.reduceAdd, Nat.reduceLeDiff, pBuild, fillA, ↓Api_Sets.r, wk1 i (by omega)] | refine Cut.go ?_))
      rw [loopPost_normal, hI]
      refine ⟨_, by omega, i + 1, rfl, by omega, rfl, ?_, rfl⟩
      rw [List.take_add_one, hxo]
      show (setsIn (List.take i R ++ [o])).any _ = false
      rw [setsIn_snoc, List.any_append, hno, hn]; rfl
  · (repeat (first | simp -dsimp -implicitDefEqProofs (disch := omega) only [↓gp0, ↓gp1, ↓gp2, gq0, gq1, gq2, gq3, gq4, gq5, gq6, gq7, gq8, gq9, go0, go1, gl0, gl1, gl2, gl3, ↓reduceIte, Nat.reduceEqDiff, Nat.reduceAdd, Nat.reduceLeDiff, pBuild, fillA, ↓Api_Sets.r] | refine Cut.go ?_))
    have e : i = R.length := by omega
    subst e
    rw [List.take_length] at hno
    exact hex hno

theorem meets_k (n : Int) (s : St) (hs : (slL s.Slots).length ≤ 100000) (hf : (slL s.Fields).length ≤ 100000) (hl : ∀ o ∈ rowsOf s, (slL o).length ≤ 100000) (hx : ∀ x ∈ setsOf s, x < 18446744073709551616) (a b : Nat) (ha : a ≤ 1000000) (hb : b ≤ 1000000) (h : AHeap) :
    CallsA Tryd.prog 18 [.int .i64 n, .agg s.cells, .int .i64 (a : Nat), .int .i64 (b : Nat)] h (fun v h2 => v = .bool ((setsOf s).any (meetT n a b)) ∧ Keeps h h2 (fun _ => False)) := by
  apply padlockref12_Meets_wp
  (repeat (first | simp -dsimp -implicitDefEqProofs (disch := omega) only [↓gp0, ↓gp1, ↓gp2, gq0, gq1, gq2, gq3, gq4, gq5, gq6, gq7, gq8, gq9, go0, go1, gl0, gl1, gl2, gl3, ↓reduceIte, Nat.reduceEqDiff, Nat.reduceAdd, Nat.reduceLeDiff, pBuild, fillA, ↓Api_Sets.r] | refine Cut.go ?_))
  rw [bsl1 (slAV_leafy _)]
  (repeat (first | simp -dsimp -implicitDefEqProofs (disch := omega) only [↓gp0, ↓gp1, ↓gp2, gq0, gq1, gq2, gq3, gq4, gq5, gq6, gq7, gq8, gq9, go0, go1, gl0, gl1, gl2, gl3, ↓reduceIte, Nat.reduceEqDiff, Nat.reduceAdd, Nat.reduceLeDiff, pBuild, fillA, ↓Api_Sets.r] | refine Cut.go ?_))
  have e0 : [slAV 1 encN s.Globals] = rowsAV [s.Globals] := rfl
  rw [e0]
  refine Eq.mpr (app_rows (l := [s.Globals]) (push_new _ _) (by simp; omega) _) ?_
  (repeat (first | simp -dsimp -implicitDefEqProofs (disch := omega) only [↓gp0, ↓gp1, ↓gp2, gq0, gq1, gq2, gq3, gq4, gq5, gq6, gq7, gq8, gq9, go0, go1, gl0, gl1, gl2, gl3, ↓reduceIte, Nat.reduceEqDiff, Nat.reduceAdd, Nat.reduceLeDiff, pBuild, fillA, ↓Api_Sets.r] | refine Cut.go ?_))
  refine Eq.mpr (app_rows (push_new _ _) (by simp; omega) _) ?_
  (repeat (first | simp -dsimp -implicitDefEqProofs (disch := omega) only [↓gp0, ↓gp1, ↓gp2, gq0, gq1, gq2, gq3, gq4, gq5, gq6, gq7, gq8, gq9, go0, go1, gl0, gl1, gl2, gl3, ↓reduceIte, Nat.reduceEqDiff, Nat.reduceAdd, Nat.reduceLeDiff, pBuild, fillA, ↓Api_Sets.r] | refine Cut.go ?_))
  obtain ⟨R, hR⟩ : ∃ R, R = s.Globals :: (slL s.Slots ++ slL s.Fields) := ⟨_, rfl⟩
  have hset : setsOf s = setsIn R := by rw [hR]; rfl
  have hrows : rowsOf s = R := by rw [hR]; rfl
  have hlen : (slL s.Slots ++ slL s.Fields).length + 1 = R.length := by rw [hR]; rfl
  rw [hset] at hx ⊢
  rw [hrows] at hl
  rw [← hR, hlen]
  have hRl : R.length ≤ 200001 := by rw [hR]; simp; omega
  have kp : Keeps h (((((h.push (.row 27 (rowsAV [s.Globals]))).kill h.next).push (.row 27 (rowsAV (s.Globals :: slL s.Slots)))).kill ((h.push (.row 27 (rowsAV [s.Globals]))).kill h.next).next).push (.row 27 (rowsAV R))) (fun _ => False) :=
    ((((Keeps.one _ _).killNew (Nat.le_refl _)).pushS _).killNew (by simp)).pushS _
  refine meets_rows n hRl hl hx a b ha hb (by first | exact push_new _ _ | simp) _ (fun hy => ?_) (fun hn => ?_)
  · (repeat (first | simp -dsimp -implicitDefEqProofs (disch := omega) only [↓gp0, ↓gp1, ↓gp2, gq0, gq1, gq2, gq3, gq4, gq5, gq6, gq7, gq8, gq9, go0, go1, gl0, gl1, gl2, gl3, ↓reduceIte, Nat.reduceEqDiff, Nat.reduceAdd, Nat.reduceLeDiff, pBuild, fillA, ↓Api_Sets.r] | refine Cut.go ?_))
    rw [hy]; exact ⟨rfl, kp⟩
  · (repeat (first | simp -dsimp -implicitDefEqProofs (disch := omega) only [↓gp0, ↓gp1, ↓gp2, gq0, gq1, gq2, gq3, gq4, gq5, gq6, gq7, gq8, gq9, go0, go1, gl0, gl1, gl2, gl3, ↓reduceIte, Nat.reduceEqDiff, Nat.reduceAdd, Nat.reduceLeDiff, pBuild, fillA, ↓Api_Sets.r] | refine Cut.go ?_))
    rw [hn]; exact ⟨rfl, kp⟩
end Go.Proofs.YtopfjochppdnfaaDoor
