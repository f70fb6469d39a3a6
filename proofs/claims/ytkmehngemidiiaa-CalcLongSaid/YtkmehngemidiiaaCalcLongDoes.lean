/- calc: the law 'long'. -/
import Derived.Test.YtkmehngemidiiaaCalcF
import Derived.Test.YtkmehngemidiiaaVcL
import Derived.Test.YtkmehngemidiiaaAbsGhost
set_option linter.unusedVariables false
set_option linter.unusedSimpArgs false
set_option maxRecDepth 8000
set_option maxHeartbeats 1000000
namespace Go.Proofs.Ytkmehngemidiiaa
open Go.Abs

def wantN (n : Nat) : Nat → Nat
  | 0 => n
  | k + 1 => (IntKind.u64.wrap (0 - (wantN n k : Int))).toNat
def itemsL (n k : Nat) : List It := ⟨1, 0, n⟩ :: List.replicate k ⟨4, 0, 0⟩
theorem itemsL_succ (n k : Nat) : itemsL n (k + 1) = itemsL n k ++ [⟨4, 0, 0⟩] := by
  simp only [itemsL, List.replicate_succ', List.cons_append]
theorem itemsL_len (n k : Nat) : (itemsL n k).length = k + 1 := by simp [itemsL]
theorem itemsL_okL (n k : Nat) : okL 0 (itemsL n k) ∧ high (itemsL n k) = 1 := by
  induction k with
  | zero =>
    refine ⟨?_, rfl⟩
    have := (okL_snoc (s := 0) (l := []) (x := ⟨1, 0, n⟩)).2 ⟨fun k hk => absurd hk (by simp), by simp [fitsB], by simp [needsI, high]⟩
    exact this
  | succ k ih =>
    rw [itemsL_succ]
    refine ⟨okL_snoc.2 ⟨ih.1, by simp [fitsB], by rw [ih.2]; simp [needsI]⟩, ?_⟩
    rw [high_snoc, ih.2]; simp [needsI]
theorem itemsL_run (n k : Nat) : runN [] [] [] (itemsL n k) = some [wantN n k] := by
  induction k with
  | zero => simp [itemsL, runN, stepN, needsI, leafN, wantN]
  | succ k ih =>
    rw [itemsL_succ, runN_snoc, ih]
    simp [stepN, needsI, unN, wantN]
theorem itemsL_good (n k : Nat) : goodP (itemsL n k) 0 ↔ k ≤ 63 := by
  unfold goodP
  rw [itemsL_len]
  have := itemsL_okL n k
  constructor
  · rintro ⟨-, -, h⟩; omega
  · intro h; exact ⟨this.1, this.2, by omega⟩
theorem itemsL_eval (n k : Nat) : evalN [] [] (itemsL n k) = if k ≤ 63 then (wantN n k, 0) else (0, 0) := by
  unfold evalN
  rw [show (((([] : List Nat).length : Nat)) : Int) = 0 from rfl]
  by_cases hk : k ≤ 63
  · rw [if_pos ((itemsL_good n k).2 hk), if_pos hk, itemsL_run]; rfl
  · rw [if_neg (fun h => hk ((itemsL_good n k).1 h)), if_neg hk]
def rowL (n k : Nat) : List AV := ((itemsL n k).map Api_Item.cells).flatten
theorem rowL_len (n k : Nat) : (rowL n k).length = (k + 1) * 3 := by
  have : ∀ l : List It, ((l.map Api_Item.cells).flatten).length = l.length * 3 := by
    intro l
    induction l with
    | nil => rfl
    | cons x l ih => simp only [List.map_cons, List.flatten_cons, List.length_append, ih, List.length_cons, Api_Item.cells, List.length_append, List.length_nil, encI, encN]; simp; omega
  unfold rowL
  rw [this, itemsL_len]
theorem rowL_succ (n k : Nat) : (rowL n k).take ((k + 1) * 3) ++ [AV.int .i64 4, .int .i64 0, .int .u64 0] = rowL n (k + 1) := by
  rw [List.take_of_length_le (by rw [rowL_len]; omega)]
  unfold rowL
  rw [itemsL_succ, List.map_append, List.flatten_append]
  rfl
theorem itemsL_ok (n k : Nat) (hn : okN n) : ∀ x ∈ itemsL n k, x.ok := by
  intro x hx
  rcases List.mem_cons.1 hx with rfl | hx
  · exact ⟨by constructor <;> simp, by constructor <;> simp, hn⟩
  · obtain ⟨-, rfl⟩ := List.mem_replicate.1 hx
    exact ⟨by constructor <;> simp, by constructor <;> simp, by simp [okN]⟩

theorem CalcLong_does (n : Nat) (S : Int) (hn : okN n) (hS : okI S) (h : AHeap) :
    CallsA Try.prog 12 [.int .u64 (n : Nat), .int .i64 S] h (fun v _ => v = .bool true) := by
  apply padlocklaw08_CalcLongR_wp
  refine (calc_alive_does h).mono ?_
  rintro _ h1 ⟨rfl, -⟩
  by_cases c1 : S < 0
  · have d1 : decide (S < 0) = true := decide_eq_true c1
    try simp -dsimp -implicitDefEqProofs only [↓later_1, ↓later_2, ↓later_3, obind_some, ↓Split_true, ↓Split_false, ↓run_pCond, ↓run_pCond_unkb, ↓run_pGuardT, ↓run_pGuardF, ↓run_pGuard_unkb, ↓run_pGuardST, ↓run_pGuardSF, ↓pGuard_tup, ↓pGuardS_tup, ↓run_pPick, ↓run_pIdx, ↓run_pExtract0, ↓run_pExtractS, ↓pJoin_eq, nth_zero, nth_cons, exitQ_normal, exitQ_exit, exitQ_ret, frOf_cons, ↓reduceIte, Nat.reduceEqDiff, loopPost_exit, loopPost_ret, pLen_str, pLen_isl, pLen_gsl, pLen_sl, pLen_nils, pLen_eml, pLen_array, pLen_slAV, pConv_int, pConv_str, pBox_true, pBox_false, pAlloc_eq, cells_agg, fits_agg, pNil_ptr, pNil_iptr, pNil_fn, pFieldAddr_ptr, pFieldAddr_iptr, pField_agg, pCells_zero, pCells_succ, pCells_some, Nat.reduceAdd, Nat.reduceLeDiff, Nat.le_refl, pLoad_iptr, pLoad_push, Nat.zero_add, Nat.add_zero, List.drop_zero, List.drop_succ_cons, List.length_cons, List.length_nil, List.take_succ_cons, List.take_zero, true_and, and_true, binA_int_eql, binA_int_neq, binA_int_lss, binA_int_leq, binA_int_gtr, binA_int_geq, binA_int_add, binA_int_sub, binA_int_mul, binA_int_and, binA_int_or, binA_int_xor, binA_str_eql, binA_str_neq, binA_bool_eql, binA_bool_neq, binA_ptr_eql_nil, binA_ptr_neq_nil, binA_iptr_eql_nil, binA_iptr_neq_nil, binA_nil_eql_nil, binA_nil_neq_nil, unA_not, unA_not_unkb, unA_neg, Bool.not_true, Bool.not_false, false_implies, true_implies, eq_self, d1]
  have d1 : decide (S < 0) = false := decide_eq_false c1
  by_cases c2 : 200 < S
  · have d2 : decide (200 < S) = true := decide_eq_true c2
    try simp -dsimp -implicitDefEqProofs only [↓later_1, ↓later_2, ↓later_3, obind_some, ↓Split_true, ↓Split_false, ↓run_pCond, ↓run_pCond_unkb, ↓run_pGuardT, ↓run_pGuardF, ↓run_pGuard_unkb, ↓run_pGuardST, ↓run_pGuardSF, ↓pGuard_tup, ↓pGuardS_tup, ↓run_pPick, ↓run_pIdx, ↓run_pExtract0, ↓run_pExtractS, ↓pJoin_eq, nth_zero, nth_cons, exitQ_normal, exitQ_exit, exitQ_ret, frOf_cons, ↓reduceIte, Nat.reduceEqDiff, loopPost_exit, loopPost_ret, pLen_str, pLen_isl, pLen_gsl, pLen_sl, pLen_nils, pLen_eml, pLen_array, pLen_slAV, pConv_int, pConv_str, pBox_true, pBox_false, pAlloc_eq, cells_agg, fits_agg, pNil_ptr, pNil_iptr, pNil_fn, pFieldAddr_ptr, pFieldAddr_iptr, pField_agg, pCells_zero, pCells_succ, pCells_some, Nat.reduceAdd, Nat.reduceLeDiff, Nat.le_refl, pLoad_iptr, pLoad_push, Nat.zero_add, Nat.add_zero, List.drop_zero, List.drop_succ_cons, List.length_cons, List.length_nil, List.take_succ_cons, List.take_zero, true_and, and_true, binA_int_eql, binA_int_neq, binA_int_lss, binA_int_leq, binA_int_gtr, binA_int_geq, binA_int_add, binA_int_sub, binA_int_mul, binA_int_and, binA_int_or, binA_int_xor, binA_str_eql, binA_str_neq, binA_bool_eql, binA_bool_neq, binA_ptr_eql_nil, binA_ptr_neq_nil, binA_iptr_eql_nil, binA_iptr_neq_nil, binA_nil_eql_nil, binA_nil_neq_nil, unA_not, unA_not_unkb, unA_neg, Bool.not_true, Bool.not_false, false_implies, true_implies, eq_self, d1, d2]
  have d2 : decide (200 < S) = false := decide_eq_false c2
  obtain ⟨m, rfl⟩ : ∃ m : Nat, S = m := ⟨S.toNat, by omega⟩
  try simp -dsimp -implicitDefEqProofs only [↓later_1, ↓later_2, ↓later_3, obind_some, ↓Split_true, ↓Split_false, ↓run_pCond, ↓run_pCond_unkb, ↓run_pGuardT, ↓run_pGuardF, ↓run_pGuard_unkb, ↓run_pGuardST, ↓run_pGuardSF, ↓pGuard_tup, ↓pGuardS_tup, ↓run_pPick, ↓run_pIdx, ↓run_pExtract0, ↓run_pExtractS, ↓pJoin_eq, nth_zero, nth_cons, exitQ_normal, exitQ_exit, exitQ_ret, frOf_cons, ↓reduceIte, Nat.reduceEqDiff, loopPost_exit, loopPost_ret, pLen_str, pLen_isl, pLen_gsl, pLen_sl, pLen_nils, pLen_eml, pLen_array, pLen_slAV, pConv_int, pConv_str, pBox_true, pBox_false, pAlloc_eq, cells_agg, fits_agg, pNil_ptr, pNil_iptr, pNil_fn, pFieldAddr_ptr, pFieldAddr_iptr, pField_agg, pCells_zero, pCells_succ, pCells_some, Nat.reduceAdd, Nat.reduceLeDiff, Nat.le_refl, pLoad_iptr, pLoad_push, Nat.zero_add, Nat.add_zero, List.drop_zero, List.drop_succ_cons, List.length_cons, List.length_nil, List.take_succ_cons, List.take_zero, true_and, and_true, binA_int_eql, binA_int_neq, binA_int_lss, binA_int_leq, binA_int_gtr, binA_int_geq, binA_int_add, binA_int_sub, binA_int_mul, binA_int_and, binA_int_or, binA_int_xor, binA_str_eql, binA_str_neq, binA_bool_eql, binA_bool_neq, binA_ptr_eql_nil, binA_ptr_neq_nil, binA_iptr_eql_nil, binA_iptr_neq_nil, binA_nil_eql_nil, binA_nil_neq_nil, unA_not, unA_not_unkb, unA_neg, Bool.not_true, Bool.not_false, false_implies, true_implies, eq_self, d1, d2, pBuild, fillA, AV.fits, AV.cells, pBuildSl, fillE, List.getElem?_cons_zero, List.getElem?_cons_succ, List.replicate_succ, List.replicate_zero, List.set_cons_zero, List.set_cons_succ, and_self, if_true, List.nil_append, List.cons_append, List.append_nil, List.length_replicate, Nat.reduceMul, Nat.reduceLT, List.length_set, Nat.lt_add_left_iff_pos, Nat.zero_lt_succ, Nat.succ_ne_self, bld1, Bool.false_eq_true, if_false, List.flatten_cons, List.flatten_nil, Nat.zero_add]
  have aS : ∀ k : Nat, slAV 3 Api_Item.cells (some (itemsL n k)) = .isl 3 ((itemsL n k).map Api_Item.cells) := fun k => rfl
  refine WP.ghostPost (Q' := fun e fr hh => e = .exit 0 ∧ ∃ id, fr = frOf [(1, .int .i64 (m : Int)), (5, .sl id 0 (m + 1) 3), (6, .int .u64 (wantN n m : Nat))] ∧ hh.objs id = some (.row 44 (rowL n m))) ?_ ?_
  · refine WP_loop mixed_ (by kernel_rfl) (fun j fr hh => ∃ (k id : Nat), k ≤ m ∧ j = m - k ∧ fr = frOf [(1, .int .i64 (m : Int)), (5, .sl id 0 (k + 1) 3), (6, .int .u64 (wantN n k : Nat)), (7, .int .i64 (k : Nat))] ∧ hh.objs id = some (.row 44 (rowL n k))) m ⟨0, h1.next, by omega, by omega, rfl, by simp; rfl⟩ ?_
    rintro j fr hh ⟨k, id, hk, rfl, rfl, ho⟩
    apply padlocklaw08_CalcLongR_loop8
    generalize hI : (fun (m : Nat) (fr : Fr) (hh : AHeap) => _) = I
    by_cases hkl : k < m
    · have d0 : decide ((k : Int) < (m : Int)) = true := decide_eq_true (by omega)
      have wk : IntKind.i64.wrap ((k : Int) + 1) = ((k + 1 : Nat) : Int) := by rw [wrapI (by omega) (by omega)]; omega
      have ww : IntKind.u64.wrap (0 - (wantN n k : Int)) = ((wantN n (k + 1) : Nat) : Int) := (u64n _).symm
      have hp : ∀ K : AV → AHeap → Prop, K (.sl hh.next 0 (k + 1 + 1) 3) ((hh.kill id).push (.row 44 (rowL n (k + 1)))) → pAppend false { e := 44, sz := 3, by_ := 24 } (.sl id 0 (k + 1) 3) (.isl 3 [[.int .i64 4, .int .i64 0, .int .u64 0]]) hh K := by
        intro K hK
        simp only [pAppend, srcElems, if_true, ho]
        refine ⟨trivial, trivial, by rw [rowL_len]; omega, by simp [bounded, maxLen]; omega, ?_⟩
        have e1 : ([[AV.int .i64 4, .int .i64 0, .int .u64 0]] : List (List AV)).flatten = [AV.int .i64 4, .int .i64 0, .int .u64 0] := rfl
        rw [e1, rowL_succ]
        exact hK
      try simp -dsimp -implicitDefEqProofs only [↓later_1, ↓later_2, ↓later_3, obind_some, ↓Split_true, ↓Split_false, ↓run_pCond, ↓run_pCond_unkb, ↓run_pGuardT, ↓run_pGuardF, ↓run_pGuard_unkb, ↓run_pGuardST, ↓run_pGuardSF, ↓pGuard_tup, ↓pGuardS_tup, ↓run_pPick, ↓run_pIdx, ↓run_pExtract0, ↓run_pExtractS, ↓pJoin_eq, nth_zero, nth_cons, exitQ_normal, exitQ_exit, exitQ_ret, frOf_cons, ↓reduceIte, Nat.reduceEqDiff, loopPost_exit, loopPost_ret, pLen_str, pLen_isl, pLen_gsl, pLen_sl, pLen_nils, pLen_eml, pLen_array, pLen_slAV, pConv_int, pConv_str, pBox_true, pBox_false, pAlloc_eq, cells_agg, fits_agg, pNil_ptr, pNil_iptr, pNil_fn, pFieldAddr_ptr, pFieldAddr_iptr, pField_agg, pCells_zero, pCells_succ, pCells_some, Nat.reduceAdd, Nat.reduceLeDiff, Nat.le_refl, pLoad_iptr, pLoad_push, Nat.zero_add, Nat.add_zero, List.drop_zero, List.drop_succ_cons, List.length_cons, List.length_nil, List.take_succ_cons, List.take_zero, true_and, and_true, binA_int_eql, binA_int_neq, binA_int_lss, binA_int_leq, binA_int_gtr, binA_int_geq, binA_int_add, binA_int_sub, binA_int_mul, binA_int_and, binA_int_or, binA_int_xor, binA_str_eql, binA_str_neq, binA_bool_eql, binA_bool_neq, binA_ptr_eql_nil, binA_ptr_neq_nil, binA_iptr_eql_nil, binA_iptr_neq_nil, binA_nil_eql_nil, binA_nil_neq_nil, unA_not, unA_not_unkb, unA_neg, Bool.not_true, Bool.not_false, false_implies, true_implies, eq_self, d0, pBuild, fillA, AV.fits, AV.cells, pBuildSl, fillE, List.getElem?_cons_zero, List.getElem?_cons_succ, List.replicate_succ, List.replicate_zero, List.set_cons_zero, List.set_cons_succ, and_self, if_true, List.nil_append, List.cons_append, List.append_nil, List.length_replicate, Nat.reduceMul, Nat.reduceLT, List.length_set, Nat.lt_add_left_iff_pos, Nat.zero_lt_succ, Nat.succ_ne_self]
      refine hp _ ?_
      try simp -dsimp -implicitDefEqProofs only [↓later_1, ↓later_2, ↓later_3, obind_some, ↓Split_true, ↓Split_false, ↓run_pCond, ↓run_pCond_unkb, ↓run_pGuardT, ↓run_pGuardF, ↓run_pGuard_unkb, ↓run_pGuardST, ↓run_pGuardSF, ↓pGuard_tup, ↓pGuardS_tup, ↓run_pPick, ↓run_pIdx, ↓run_pExtract0, ↓run_pExtractS, ↓pJoin_eq, nth_zero, nth_cons, exitQ_normal, exitQ_exit, exitQ_ret, frOf_cons, ↓reduceIte, Nat.reduceEqDiff, loopPost_exit, loopPost_ret, pLen_str, pLen_isl, pLen_gsl, pLen_sl, pLen_nils, pLen_eml, pLen_array, pLen_slAV, pConv_int, pConv_str, pBox_true, pBox_false, pAlloc_eq, cells_agg, fits_agg, pNil_ptr, pNil_iptr, pNil_fn, pFieldAddr_ptr, pFieldAddr_iptr, pField_agg, pCells_zero, pCells_succ, pCells_some, Nat.reduceAdd, Nat.reduceLeDiff, Nat.le_refl, pLoad_iptr, pLoad_push, Nat.zero_add, Nat.add_zero, List.drop_zero, List.drop_succ_cons, List.length_cons, List.length_nil, List.take_succ_cons, List.take_zero, true_and, and_true, binA_int_eql, binA_int_neq, binA_int_lss, binA_int_leq, binA_int_gtr, binA_int_geq, binA_int_add, binA_int_sub, binA_int_mul, binA_int_and, binA_int_or, binA_int_xor, binA_str_eql, binA_str_neq, binA_bool_eql, binA_bool_neq, binA_ptr_eql_nil, binA_ptr_neq_nil, binA_iptr_eql_nil, binA_iptr_neq_nil, binA_nil_eql_nil, binA_nil_neq_nil, unA_not, unA_not_unkb, unA_neg, Bool.not_true, Bool.not_false, false_implies, true_implies, eq_self, ww, wk]
      rw [loopPost_normal, ← hI]
      exact ⟨_, by omega, k + 1, _, by omega, rfl, rfl, by simp⟩
    · have hke : k = m := by omega
      subst hke
      have d0 : decide ((k : Int) < (k : Int)) = false := decide_eq_false (by omega)
      try simp -dsimp -implicitDefEqProofs only [↓later_1, ↓later_2, ↓later_3, obind_some, ↓Split_true, ↓Split_false, ↓run_pCond, ↓run_pCond_unkb, ↓run_pGuardT, ↓run_pGuardF, ↓run_pGuard_unkb, ↓run_pGuardST, ↓run_pGuardSF, ↓pGuard_tup, ↓pGuardS_tup, ↓run_pPick, ↓run_pIdx, ↓run_pExtract0, ↓run_pExtractS, ↓pJoin_eq, nth_zero, nth_cons, exitQ_normal, exitQ_exit, exitQ_ret, frOf_cons, ↓reduceIte, Nat.reduceEqDiff, loopPost_exit, loopPost_ret, pLen_str, pLen_isl, pLen_gsl, pLen_sl, pLen_nils, pLen_eml, pLen_array, pLen_slAV, pConv_int, pConv_str, pBox_true, pBox_false, pAlloc_eq, cells_agg, fits_agg, pNil_ptr, pNil_iptr, pNil_fn, pFieldAddr_ptr, pFieldAddr_iptr, pField_agg, pCells_zero, pCells_succ, pCells_some, Nat.reduceAdd, Nat.reduceLeDiff, Nat.le_refl, pLoad_iptr, pLoad_push, Nat.zero_add, Nat.add_zero, List.drop_zero, List.drop_succ_cons, List.length_cons, List.length_nil, List.take_succ_cons, List.take_zero, true_and, and_true, binA_int_eql, binA_int_neq, binA_int_lss, binA_int_leq, binA_int_gtr, binA_int_geq, binA_int_add, binA_int_sub, binA_int_mul, binA_int_and, binA_int_or, binA_int_xor, binA_str_eql, binA_str_neq, binA_bool_eql, binA_bool_neq, binA_ptr_eql_nil, binA_ptr_neq_nil, binA_iptr_eql_nil, binA_iptr_neq_nil, binA_nil_eql_nil, binA_nil_neq_nil, unA_not, unA_not_unkb, unA_neg, Bool.not_true, Bool.not_false, false_implies, true_implies, eq_self, d0]
      first | exact ⟨rfl, id, rfl, ho⟩ | exact ⟨id, rfl, ho⟩
  · rintro e fr hh ⟨rfl, id, rfl, ho⟩
    refine ⟨_, _, Ghost.freeze (s := 5) rfl ho (by rw [rowL_len]; omega) (by omega), ?_⟩
    have ec : chunk 3 (m + 1) (rowL n m) = (itemsL n m).map Api_Item.cells := by
      have := chunk_flat 3 ((itemsL n m).map Api_Item.cells) (by intro e he; obtain ⟨x, -, rfl⟩ := List.mem_map.1 he; rfl)
      rw [List.length_map, itemsL_len] at this
      exact this
    have ef : (fun i => if i = 5 then AV.isl 3 (chunk 3 (m + 1) (rowL n m)) else frOf [(1, .int .i64 (m : Int)), (5, .sl id 0 (m + 1) 3), (6, .int .u64 (wantN n m : Nat))] i) = frOf [(1, .int .i64 (m : Int)), (5, slAV 3 Api_Item.cells (some (itemsL n m))), (6, .int .u64 (wantN n m : Nat))] := by
      funext i
      rw [ec, aS]
      simp only [frOf]
      by_cases e1 : i = 1
      · subst e1; rfl
      · by_cases e5 : i = 5
        · subst e5; rfl
        · simp only [if_neg e1, if_neg e5]
    rw [ef]
    have hev := calc_Eval_does none none (some (itemsL n m)) ⟨by simp, by simp⟩ (by simp) (by simp) ⟨by simp only [slL_some, itemsL_len, maxLen]; omega, by simpa using itemsL_ok n m hn⟩ (by simp only [slL_some, itemsL_len]; omega)
    have hgo := fun h => calc_Good_does 0 (by constructor <;> simp) (some (itemsL n m)) ⟨by simp only [slL_some, itemsL_len, maxLen]; omega, by simpa using itemsL_ok n m hn⟩ h
    simp only [slL_some, slL_none, itemsL_eval] at hev hgo
    have c4 : slAV 1 encI (none : Option (List Int)) = .nils := rfl
    have c5 : slAV 1 encN (none : Option (List Nat)) = .nils := rfl
    rw [c4, c5] at hev
    try simp -dsimp -implicitDefEqProofs only [↓later_1, ↓later_2, ↓later_3, obind_some, ↓Split_true, ↓Split_false, ↓run_pCond, ↓run_pCond_unkb, ↓run_pGuardT, ↓run_pGuardF, ↓run_pGuard_unkb, ↓run_pGuardST, ↓run_pGuardSF, ↓pGuard_tup, ↓pGuardS_tup, ↓run_pPick, ↓run_pIdx, ↓run_pExtract0, ↓run_pExtractS, ↓pJoin_eq, nth_zero, nth_cons, exitQ_normal, exitQ_exit, exitQ_ret, frOf_cons, ↓reduceIte, Nat.reduceEqDiff, loopPost_exit, loopPost_ret, pLen_str, pLen_isl, pLen_gsl, pLen_sl, pLen_nils, pLen_eml, pLen_array, pLen_slAV, pConv_int, pConv_str, pBox_true, pBox_false, pAlloc_eq, cells_agg, fits_agg, pNil_ptr, pNil_iptr, pNil_fn, pFieldAddr_ptr, pFieldAddr_iptr, pField_agg, pCells_zero, pCells_succ, pCells_some, Nat.reduceAdd, Nat.reduceLeDiff, Nat.le_refl, pLoad_iptr, pLoad_push, Nat.zero_add, Nat.add_zero, List.drop_zero, List.drop_succ_cons, List.length_cons, List.length_nil, List.take_succ_cons, List.take_zero, true_and, and_true, binA_int_eql, binA_int_neq, binA_int_lss, binA_int_leq, binA_int_gtr, binA_int_geq, binA_int_add, binA_int_sub, binA_int_mul, binA_int_and, binA_int_or, binA_int_xor, binA_str_eql, binA_str_neq, binA_bool_eql, binA_bool_neq, binA_ptr_eql_nil, binA_ptr_neq_nil, binA_iptr_eql_nil, binA_iptr_neq_nil, binA_nil_eql_nil, binA_nil_neq_nil, unA_not, unA_not_unkb, unA_neg, Bool.not_true, Bool.not_false, false_implies, true_implies, eq_self]
    refine (hev _).mono ?_
    rintro _ h2 ⟨rfl, -⟩
    by_cases hm : m ≤ 63
    · rw [if_pos hm]
      have d3 : decide ((63 : Int) < (m : Int)) = false := decide_eq_false (by omega)
      have b3 : ∀ n : Int, (n == n) = true := by simp
      have hgb : goodB (itemsL n m) 0 = true := by unfold goodB; exact @decide_eq_true _ (Classical.propDecidable _) ((itemsL_good n m).2 hm)
      try simp -dsimp -implicitDefEqProofs only [↓later_1, ↓later_2, ↓later_3, obind_some, ↓Split_true, ↓Split_false, ↓run_pCond, ↓run_pCond_unkb, ↓run_pGuardT, ↓run_pGuardF, ↓run_pGuard_unkb, ↓run_pGuardST, ↓run_pGuardSF, ↓pGuard_tup, ↓pGuardS_tup, ↓run_pPick, ↓run_pIdx, ↓run_pExtract0, ↓run_pExtractS, ↓pJoin_eq, nth_zero, nth_cons, exitQ_normal, exitQ_exit, exitQ_ret, frOf_cons, ↓reduceIte, Nat.reduceEqDiff, loopPost_exit, loopPost_ret, pLen_str, pLen_isl, pLen_gsl, pLen_sl, pLen_nils, pLen_eml, pLen_array, pLen_slAV, pConv_int, pConv_str, pBox_true, pBox_false, pAlloc_eq, cells_agg, fits_agg, pNil_ptr, pNil_iptr, pNil_fn, pFieldAddr_ptr, pFieldAddr_iptr, pField_agg, pCells_zero, pCells_succ, pCells_some, Nat.reduceAdd, Nat.reduceLeDiff, Nat.le_refl, pLoad_iptr, pLoad_push, Nat.zero_add, Nat.add_zero, List.drop_zero, List.drop_succ_cons, List.length_cons, List.length_nil, List.take_succ_cons, List.take_zero, true_and, and_true, binA_int_eql, binA_int_neq, binA_int_lss, binA_int_leq, binA_int_gtr, binA_int_geq, binA_int_add, binA_int_sub, binA_int_mul, binA_int_and, binA_int_or, binA_int_xor, binA_str_eql, binA_str_neq, binA_bool_eql, binA_bool_neq, binA_ptr_eql_nil, binA_ptr_neq_nil, binA_iptr_eql_nil, binA_iptr_neq_nil, binA_nil_eql_nil, binA_nil_neq_nil, unA_not, unA_not_unkb, unA_neg, Bool.not_true, Bool.not_false, false_implies, true_implies, eq_self, d3, b3]
      refine (hgo _).mono ?_
      rintro _ h3 ⟨rfl, -⟩
      try simp -dsimp -implicitDefEqProofs only [↓later_1, ↓later_2, ↓later_3, obind_some, ↓Split_true, ↓Split_false, ↓run_pCond, ↓run_pCond_unkb, ↓run_pGuardT, ↓run_pGuardF, ↓run_pGuard_unkb, ↓run_pGuardST, ↓run_pGuardSF, ↓pGuard_tup, ↓pGuardS_tup, ↓run_pPick, ↓run_pIdx, ↓run_pExtract0, ↓run_pExtractS, ↓pJoin_eq, nth_zero, nth_cons, exitQ_normal, exitQ_exit, exitQ_ret, frOf_cons, ↓reduceIte, Nat.reduceEqDiff, loopPost_exit, loopPost_ret, pLen_str, pLen_isl, pLen_gsl, pLen_sl, pLen_nils, pLen_eml, pLen_array, pLen_slAV, pConv_int, pConv_str, pBox_true, pBox_false, pAlloc_eq, cells_agg, fits_agg, pNil_ptr, pNil_iptr, pNil_fn, pFieldAddr_ptr, pFieldAddr_iptr, pField_agg, pCells_zero, pCells_succ, pCells_some, Nat.reduceAdd, Nat.reduceLeDiff, Nat.le_refl, pLoad_iptr, pLoad_push, Nat.zero_add, Nat.add_zero, List.drop_zero, List.drop_succ_cons, List.length_cons, List.length_nil, List.take_succ_cons, List.take_zero, true_and, and_true, binA_int_eql, binA_int_neq, binA_int_lss, binA_int_leq, binA_int_gtr, binA_int_geq, binA_int_add, binA_int_sub, binA_int_mul, binA_int_and, binA_int_or, binA_int_xor, binA_str_eql, binA_str_neq, binA_bool_eql, binA_bool_neq, binA_ptr_eql_nil, binA_ptr_neq_nil, binA_iptr_eql_nil, binA_iptr_neq_nil, binA_nil_eql_nil, binA_nil_neq_nil, unA_not, unA_not_unkb, unA_neg, Bool.not_true, Bool.not_false, false_implies, true_implies, eq_self, hgb]
    · rw [if_neg hm]
      have d3 : decide ((63 : Int) < (m : Int)) = true := decide_eq_true (by omega)
      have b3 : ∀ n : Int, (n == n) = true := by simp
      have hgb : goodB (itemsL n m) 0 = false := by unfold goodB; exact @decide_eq_false _ (Classical.propDecidable _) (fun hh => hm ((itemsL_good n m).1 hh))
      try simp -dsimp -implicitDefEqProofs only [↓later_1, ↓later_2, ↓later_3, obind_some, ↓Split_true, ↓Split_false, ↓run_pCond, ↓run_pCond_unkb, ↓run_pGuardT, ↓run_pGuardF, ↓run_pGuard_unkb, ↓run_pGuardST, ↓run_pGuardSF, ↓pGuard_tup, ↓pGuardS_tup, ↓run_pPick, ↓run_pIdx, ↓run_pExtract0, ↓run_pExtractS, ↓pJoin_eq, nth_zero, nth_cons, exitQ_normal, exitQ_exit, exitQ_ret, frOf_cons, ↓reduceIte, Nat.reduceEqDiff, loopPost_exit, loopPost_ret, pLen_str, pLen_isl, pLen_gsl, pLen_sl, pLen_nils, pLen_eml, pLen_array, pLen_slAV, pConv_int, pConv_str, pBox_true, pBox_false, pAlloc_eq, cells_agg, fits_agg, pNil_ptr, pNil_iptr, pNil_fn, pFieldAddr_ptr, pFieldAddr_iptr, pField_agg, pCells_zero, pCells_succ, pCells_some, Nat.reduceAdd, Nat.reduceLeDiff, Nat.le_refl, pLoad_iptr, pLoad_push, Nat.zero_add, Nat.add_zero, List.drop_zero, List.drop_succ_cons, List.length_cons, List.length_nil, List.take_succ_cons, List.take_zero, true_and, and_true, binA_int_eql, binA_int_neq, binA_int_lss, binA_int_leq, binA_int_gtr, binA_int_geq, binA_int_add, binA_int_sub, binA_int_mul, binA_int_and, binA_int_or, binA_int_xor, binA_str_eql, binA_str_neq, binA_bool_eql, binA_bool_neq, binA_ptr_eql_nil, binA_ptr_neq_nil, binA_iptr_eql_nil, binA_iptr_neq_nil, binA_nil_eql_nil, binA_nil_neq_nil, unA_not, unA_not_unkb, unA_neg, Bool.not_true, Bool.not_false, false_implies, true_implies, eq_self, d3, b3, show (((0 : Nat) : Int) == 0) = true from rfl]
      refine (hgo _).mono ?_
      rintro _ h3 ⟨rfl, -⟩
      try simp -dsimp -implicitDefEqProofs only [↓later_1, ↓later_2, ↓later_3, obind_some, ↓Split_true, ↓Split_false, ↓run_pCond, ↓run_pCond_unkb, ↓run_pGuardT, ↓run_pGuardF, ↓run_pGuard_unkb, ↓run_pGuardST, ↓run_pGuardSF, ↓pGuard_tup, ↓pGuardS_tup, ↓run_pPick, ↓run_pIdx, ↓run_pExtract0, ↓run_pExtractS, ↓pJoin_eq, nth_zero, nth_cons, exitQ_normal, exitQ_exit, exitQ_ret, frOf_cons, ↓reduceIte, Nat.reduceEqDiff, loopPost_exit, loopPost_ret, pLen_str, pLen_isl, pLen_gsl, pLen_sl, pLen_nils, pLen_eml, pLen_array, pLen_slAV, pConv_int, pConv_str, pBox_true, pBox_false, pAlloc_eq, cells_agg, fits_agg, pNil_ptr, pNil_iptr, pNil_fn, pFieldAddr_ptr, pFieldAddr_iptr, pField_agg, pCells_zero, pCells_succ, pCells_some, Nat.reduceAdd, Nat.reduceLeDiff, Nat.le_refl, pLoad_iptr, pLoad_push, Nat.zero_add, Nat.add_zero, List.drop_zero, List.drop_succ_cons, List.length_cons, List.length_nil, List.take_succ_cons, List.take_zero, true_and, and_true, binA_int_eql, binA_int_neq, binA_int_lss, binA_int_leq, binA_int_gtr, binA_int_geq, binA_int_add, binA_int_sub, binA_int_mul, binA_int_and, binA_int_or, binA_int_xor, binA_str_eql, binA_str_neq, binA_bool_eql, binA_bool_neq, binA_ptr_eql_nil, binA_ptr_neq_nil, binA_iptr_eql_nil, binA_iptr_neq_nil, binA_nil_eql_nil, binA_nil_neq_nil, unA_not, unA_not_unkb, unA_neg, Bool.not_true, Bool.not_false, false_implies, true_implies, eq_self, hgb]

end Go.Proofs.Ytkmehngemidiiaa
