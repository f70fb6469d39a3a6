/- calc: the program's Eval. -/
import Derived.Test.YtkmehngemidiiaaCalcC
set_option linter.unusedVariables false
set_option linter.unusedSimpArgs false
set_option maxRecDepth 8000
set_option maxHeartbeats 1000000
namespace Go.Proofs.Ytkmehngemidiiaa
open Go.Abs

theorem encN_at {o : Option (List Nat)} {k : Nat} (hk : k < (slL o).length) (kk : IntKind) (K : AV → Prop) : pIndexAddr (.slice 1) (slAV 1 encN o) (.int kk (k : Int)) K = K (.iptr [.int .u64 (((slL o).getD k 0 : Nat) : Int)]) := by
  rw [pIndexAddr_slAV (x := (slL o).getD k 0) (by simp [hk])]; rfl
theorem encI_at {o : Option (List Int)} {k : Nat} (hk : k < (slL o).length) (kk : IntKind) (K : AV → Prop) : pIndexAddr (.slice 1) (slAV 1 encI o) (.int kk (k : Int)) K = K (.iptr [.int .i64 ((slL o).getD k 0)]) := by
  rw [pIndexAddr_slAV (x := (slL o).getD k 0) (by simp [hk])]; rfl

/-- One round of the program's Eval. -/
theorem eval_round {slots : Option (List Nat)} {inputs : Option (List Int)} {items : Option (List It)} (hi : (slL inputs).length ≤ 1000000) (hit : (slL items).length ≤ 1000) {h : AHeap} {lo : Nat} (hlo : lo ≤ h.next) {a : AV} {st : List Nat} (hst : ∀ v ∈ st, okN v) (hsl : st.length ≤ 900) (p : StkAt h lo a st.reverse)
    {k : Nat} {x : It} (hx : (slL items)[k]? = some x) (hxok : x.ok) (hf : fitsB x (slL slots).length = true) (hn : needsI x.Op ≤ st.length) (Q : AExit → Fr → AHeap → Prop)
    (hQn : ∀ a2 h2 st2, stepN (slL slots) (slL inputs) st x = some st2 → StkAt h2 lo a2 st2.reverse → Keeps h h2 (fun y => lo ≤ y) → Q .normal (frOf [(0, slAV 1 encN slots), (1, slAV 1 encI inputs), (8, a2), (20, slAV 3 Api_Item.cells items), (21, .int .i64 (slL items).length), (22, .int .i64 (k + 1 : Nat))]) h2)
    (hQr : ∀ h2, stepN (slL slots) (slL inputs) st x = none → Keeps h h2 (fun y => lo ≤ y) → Q .ret (frOf [(6, .int .u64 0), (7, .int .i64 1)]) h2) :
    WP Try.prog 109 c_calc_Eval_5 (frOf [(0, slAV 1 encN slots), (1, slAV 1 encI inputs), (8, a), (20, slAV 3 Api_Item.cells items), (21, .int .i64 (slL items).length), (22, .int .i64 k)]) h Q := by
  have hkl := (List.getElem?_eq_some_iff.1 hx).1
  obtain ⟨-, -, hnn⟩ := hxok
  unfold okN at hnn
  apply calc_Eval_loop5
  have d0 : decide ((k : Int) < ((slL items).length : Int)) = true := decide_eq_true (by omega)
  have hc : x.cells = [.int .i64 x.Op, .int .i64 x.Bin, .int .u64 (x.N : Nat)] := rfl
  try simp -dsimp -implicitDefEqProofs only [↓later_1, ↓later_2, ↓later_3, obind_some, ↓Split_true, ↓Split_false, ↓run_pCond, ↓run_pCond_unkb, ↓run_pGuardT, ↓run_pGuardF, ↓run_pGuard_unkb, ↓run_pGuardST, ↓run_pGuardSF, ↓pGuard_tup, ↓pGuardS_tup, ↓run_pPick, ↓run_pIdx, ↓run_pExtract0, ↓run_pExtractS, ↓pJoin_eq, nth_zero, nth_cons, exitQ_normal, exitQ_exit, exitQ_ret, frOf_cons, ↓reduceIte, Nat.reduceEqDiff, loopPost_exit, loopPost_ret, pLen_str, pLen_isl, pLen_gsl, pLen_sl, pLen_nils, pLen_eml, pLen_array, pLen_slAV, pConv_int, pConv_str, pBox_true, pBox_false, pAlloc_eq, cells_agg, fits_agg, pNil_ptr, pNil_iptr, pNil_fn, pFieldAddr_ptr, pFieldAddr_iptr, pField_agg, pCells_zero, pCells_succ, pCells_some, Nat.reduceAdd, Nat.reduceLeDiff, Nat.le_refl, pLoad_iptr, pLoad_push, Nat.zero_add, Nat.add_zero, List.drop_zero, List.drop_succ_cons, List.length_cons, List.length_nil, List.take_succ_cons, List.take_zero, true_and, and_true, binA_int_eql, binA_int_neq, binA_int_lss, binA_int_leq, binA_int_gtr, binA_int_geq, binA_int_add, binA_int_sub, binA_int_mul, binA_int_and, binA_int_or, binA_int_xor, binA_str_eql, binA_str_neq, binA_bool_eql, binA_bool_neq, binA_ptr_eql_nil, binA_ptr_neq_nil, binA_iptr_eql_nil, binA_iptr_neq_nil, binA_nil_eql_nil, binA_nil_neq_nil, unA_not, unA_not_unkb, unA_neg, Bool.not_true, Bool.not_false, false_implies, true_implies, eq_self, d0, pIndexAddr_slAV hx, hc]
  rw [pStore_push (by rfl) (by rfl)]
  have kA := Keeps.push h (.row 44 [.int .i64 x.Op, .int .i64 x.Bin, .int .u64 (x.N : Nat)])
  have pA := p.keeps kA (fun _ _ _ h => h)
  have hloA : lo ≤ (h.push (.row 44 [.int .i64 x.Op, .int .i64 x.Bin, .int .u64 (x.N : Nat)])).next := by simp; omega
  have wk : IntKind.i64.wrap ((k : Int) + 1) = ((k + 1 : Nat) : Int) := by rw [wrapI (by omega) (by omega)]; omega
  have push : ∀ (v : Nat), stepN (slL slots) (slL inputs) st x = some (v :: st) → pAppend false { e := 28, sz := 1, by_ := 8 } a (.isl 1 [[.int .u64 (v : Int)]]) (h.push (.row 44 [.int .i64 x.Op, .int .i64 x.Bin, .int .u64 (x.N : Nat)])) (fun v15 h16 =>
      obind (binA CmpK.other BinOp.add (.int .i64 (k : Int)) (AV.int IntKind.i64 1)) (fun v17 => Q AExit.normal (frOf [(0, slAV 1 encN slots), (1, slAV 1 encI inputs), (8, v15), (20, slAV 3 Api_Item.cells items), (21, .int .i64 (slL items).length), (22, v17)]) h16)) := by
    intro v hs
    refine stk_push pA hloA (by simp; omega) v ?_
    intro a2 h2 p2 k2
    try simp -dsimp -implicitDefEqProofs only [↓later_1, ↓later_2, ↓later_3, obind_some, ↓Split_true, ↓Split_false, ↓run_pCond, ↓run_pCond_unkb, ↓run_pGuardT, ↓run_pGuardF, ↓run_pGuard_unkb, ↓run_pGuardST, ↓run_pGuardSF, ↓pGuard_tup, ↓pGuardS_tup, ↓run_pPick, ↓run_pIdx, ↓run_pExtract0, ↓run_pExtractS, ↓pJoin_eq, nth_zero, nth_cons, exitQ_normal, exitQ_exit, exitQ_ret, frOf_cons, ↓reduceIte, Nat.reduceEqDiff, loopPost_exit, loopPost_ret, pLen_str, pLen_isl, pLen_gsl, pLen_sl, pLen_nils, pLen_eml, pLen_array, pLen_slAV, pConv_int, pConv_str, pBox_true, pBox_false, pAlloc_eq, cells_agg, fits_agg, pNil_ptr, pNil_iptr, pNil_fn, pFieldAddr_ptr, pFieldAddr_iptr, pField_agg, pCells_zero, pCells_succ, pCells_some, Nat.reduceAdd, Nat.reduceLeDiff, Nat.le_refl, pLoad_iptr, pLoad_push, Nat.zero_add, Nat.add_zero, List.drop_zero, List.drop_succ_cons, List.length_cons, List.length_nil, List.take_succ_cons, List.take_zero, true_and, and_true, binA_int_eql, binA_int_neq, binA_int_lss, binA_int_leq, binA_int_gtr, binA_int_geq, binA_int_add, binA_int_sub, binA_int_mul, binA_int_and, binA_int_or, binA_int_xor, binA_str_eql, binA_str_neq, binA_bool_eql, binA_bool_neq, binA_ptr_eql_nil, binA_ptr_neq_nil, binA_iptr_eql_nil, binA_iptr_neq_nil, binA_nil_eql_nil, binA_nil_neq_nil, unA_not, unA_not_unkb, unA_neg, Bool.not_true, Bool.not_false, false_implies, true_implies, eq_self, wk]
    exact hQn a2 h2 _ hs (by simpa using p2) ((kA.mono (fun _ h => h.elim)).trans k2 (fun _ _ h => h))
  have hstep0 : needsI x.Op = 0 → stepN (slL slots) (slL inputs) st x = some (leafN (slL slots) (slL inputs) x :: st) := fun h0 => by unfold stepN; rw [if_pos h0]
  have eb : ∀ b : Int, x.Op = b → ∀ c : Int, (x.Op == c) = decide (b = c) := fun b hb c => by rw [hb]; rfl
  have ops : ∀ b : Int, x.Op = b → (x.Op == 1) = decide (b = 1) ∧ (x.Op == 2) = decide (b = 2) ∧ (x.Op == 3) = decide (b = 3) ∧ (x.Op == 8) = decide (b = 8) ∧ (x.Op == 9) = decide (b = 9) ∧ (x.Op == 10) = decide (b = 10) := by
    intro b hb; subst hb; exact ⟨rfl, rfl, rfl, rfl, rfl, rfl⟩
  by_cases h1 : x.Op = 1
  · have hl : leafN (slL slots) (slL inputs) x = x.N := by unfold leafN; rw [if_pos h1]
    have := push x.N (by rw [hstep0 (by rw [h1]; decide), hl])
    obtain ⟨e1, -⟩ := ops 1 h1
    rw [decide_eq_true rfl] at e1
    try simp -dsimp -implicitDefEqProofs only [↓later_1, ↓later_2, ↓later_3, obind_some, ↓Split_true, ↓Split_false, ↓run_pCond, ↓run_pCond_unkb, ↓run_pGuardT, ↓run_pGuardF, ↓run_pGuard_unkb, ↓run_pGuardST, ↓run_pGuardSF, ↓pGuard_tup, ↓pGuardS_tup, ↓run_pPick, ↓run_pIdx, ↓run_pExtract0, ↓run_pExtractS, ↓pJoin_eq, nth_zero, nth_cons, exitQ_normal, exitQ_exit, exitQ_ret, frOf_cons, ↓reduceIte, Nat.reduceEqDiff, loopPost_exit, loopPost_ret, pLen_str, pLen_isl, pLen_gsl, pLen_sl, pLen_nils, pLen_eml, pLen_array, pLen_slAV, pConv_int, pConv_str, pBox_true, pBox_false, pAlloc_eq, cells_agg, fits_agg, pNil_ptr, pNil_iptr, pNil_fn, pFieldAddr_ptr, pFieldAddr_iptr, pField_agg, pCells_zero, pCells_succ, pCells_some, Nat.reduceAdd, Nat.reduceLeDiff, Nat.le_refl, pLoad_iptr, pLoad_push, Nat.zero_add, Nat.add_zero, List.drop_zero, List.drop_succ_cons, List.length_cons, List.length_nil, List.take_succ_cons, List.take_zero, true_and, and_true, binA_int_eql, binA_int_neq, binA_int_lss, binA_int_leq, binA_int_gtr, binA_int_geq, binA_int_add, binA_int_sub, binA_int_mul, binA_int_and, binA_int_or, binA_int_xor, binA_str_eql, binA_str_neq, binA_bool_eql, binA_bool_neq, binA_ptr_eql_nil, binA_ptr_neq_nil, binA_iptr_eql_nil, binA_iptr_neq_nil, binA_nil_eql_nil, binA_nil_neq_nil, unA_not, unA_not_unkb, unA_neg, Bool.not_true, Bool.not_false, false_implies, true_implies, eq_self, e1, pA.len, bld1]
    exact this
  have q1 : (x.Op == 1) = false := by simp [h1]
  by_cases h2 : x.Op = 2
  · have hl : leafN (slL slots) (slL inputs) x = (slL slots).getD x.N 0 := by unfold leafN; rw [if_neg h1, if_pos h2]
    have hb : x.N < (slL slots).length := by
      unfold fitsB at hf
      rw [if_neg h1, if_pos h2] at hf
      simp only [Bool.and_eq_true, decide_eq_true_eq] at hf
      omega
    have := push ((slL slots).getD x.N 0) (by rw [hstep0 (by rw [h2]; decide), hl])
    obtain ⟨-, e2, -⟩ := ops 2 h2
    rw [decide_eq_true rfl] at e2
    try simp -dsimp -implicitDefEqProofs only [↓later_1, ↓later_2, ↓later_3, obind_some, ↓Split_true, ↓Split_false, ↓run_pCond, ↓run_pCond_unkb, ↓run_pGuardT, ↓run_pGuardF, ↓run_pGuard_unkb, ↓run_pGuardST, ↓run_pGuardSF, ↓pGuard_tup, ↓pGuardS_tup, ↓run_pPick, ↓run_pIdx, ↓run_pExtract0, ↓run_pExtractS, ↓pJoin_eq, nth_zero, nth_cons, exitQ_normal, exitQ_exit, exitQ_ret, frOf_cons, ↓reduceIte, Nat.reduceEqDiff, loopPost_exit, loopPost_ret, pLen_str, pLen_isl, pLen_gsl, pLen_sl, pLen_nils, pLen_eml, pLen_array, pLen_slAV, pConv_int, pConv_str, pBox_true, pBox_false, pAlloc_eq, cells_agg, fits_agg, pNil_ptr, pNil_iptr, pNil_fn, pFieldAddr_ptr, pFieldAddr_iptr, pField_agg, pCells_zero, pCells_succ, pCells_some, Nat.reduceAdd, Nat.reduceLeDiff, Nat.le_refl, pLoad_iptr, pLoad_push, Nat.zero_add, Nat.add_zero, List.drop_zero, List.drop_succ_cons, List.length_cons, List.length_nil, List.take_succ_cons, List.take_zero, true_and, and_true, binA_int_eql, binA_int_neq, binA_int_lss, binA_int_leq, binA_int_gtr, binA_int_geq, binA_int_add, binA_int_sub, binA_int_mul, binA_int_and, binA_int_or, binA_int_xor, binA_str_eql, binA_str_neq, binA_bool_eql, binA_bool_neq, binA_ptr_eql_nil, binA_ptr_neq_nil, binA_iptr_eql_nil, binA_iptr_neq_nil, binA_nil_eql_nil, binA_nil_neq_nil, unA_not, unA_not_unkb, unA_neg, Bool.not_true, Bool.not_false, false_implies, true_implies, eq_self, q1, e2, pA.len, bld1, encN_at hb]
    exact this
  have q2 : (x.Op == 2) = false := by simp [h2]
  by_cases h3 : x.Op = 3
  · have hl : leafN (slL slots) (slL inputs) x = (IntKind.u64.wrap ((slL inputs).getD x.N 0)).toNat := by unfold leafN; rw [if_neg h1, if_neg h2]
    have hb : x.N < 16 := by
      unfold fitsB at hf
      rw [if_neg h1, if_neg h2, if_pos h3] at hf
      simp only [Bool.and_eq_true, decide_eq_true_eq] at hf
      omega
    have := push (IntKind.u64.wrap ((slL inputs).getD x.N 0)).toNat (by rw [hstep0 (by rw [h3]; decide), hl])
    rw [u64n] at this
    obtain ⟨-, -, e3, -⟩ := ops 3 h3
    rw [decide_eq_true rfl] at e3
    have wn : IntKind.i64.wrap (x.N : Int) = (x.N : Int) := wrapI (by omega) (by omega)
    try simp -dsimp -implicitDefEqProofs only [↓later_1, ↓later_2, ↓later_3, obind_some, ↓Split_true, ↓Split_false, ↓run_pCond, ↓run_pCond_unkb, ↓run_pGuardT, ↓run_pGuardF, ↓run_pGuard_unkb, ↓run_pGuardST, ↓run_pGuardSF, ↓pGuard_tup, ↓pGuardS_tup, ↓run_pPick, ↓run_pIdx, ↓run_pExtract0, ↓run_pExtractS, ↓pJoin_eq, nth_zero, nth_cons, exitQ_normal, exitQ_exit, exitQ_ret, frOf_cons, ↓reduceIte, Nat.reduceEqDiff, loopPost_exit, loopPost_ret, pLen_str, pLen_isl, pLen_gsl, pLen_sl, pLen_nils, pLen_eml, pLen_array, pLen_slAV, pConv_int, pConv_str, pBox_true, pBox_false, pAlloc_eq, cells_agg, fits_agg, pNil_ptr, pNil_iptr, pNil_fn, pFieldAddr_ptr, pFieldAddr_iptr, pField_agg, pCells_zero, pCells_succ, pCells_some, Nat.reduceAdd, Nat.reduceLeDiff, Nat.le_refl, pLoad_iptr, pLoad_push, Nat.zero_add, Nat.add_zero, List.drop_zero, List.drop_succ_cons, List.length_cons, List.length_nil, List.take_succ_cons, List.take_zero, true_and, and_true, binA_int_eql, binA_int_neq, binA_int_lss, binA_int_leq, binA_int_gtr, binA_int_geq, binA_int_add, binA_int_sub, binA_int_mul, binA_int_and, binA_int_or, binA_int_xor, binA_str_eql, binA_str_neq, binA_bool_eql, binA_bool_neq, binA_ptr_eql_nil, binA_ptr_neq_nil, binA_iptr_eql_nil, binA_iptr_neq_nil, binA_nil_eql_nil, binA_nil_neq_nil, unA_not, unA_not_unkb, unA_neg, Bool.not_true, Bool.not_false, false_implies, true_implies, eq_self, q1, q2, e3, pA.len, wn]
    refine Split_lt (fun hlt => ?_) (fun hge => ?_)
    · try simp -dsimp -implicitDefEqProofs only [↓later_1, ↓later_2, ↓later_3, obind_some, ↓Split_true, ↓Split_false, ↓run_pCond, ↓run_pCond_unkb, ↓run_pGuardT, ↓run_pGuardF, ↓run_pGuard_unkb, ↓run_pGuardST, ↓run_pGuardSF, ↓pGuard_tup, ↓pGuardS_tup, ↓run_pPick, ↓run_pIdx, ↓run_pExtract0, ↓run_pExtractS, ↓pJoin_eq, nth_zero, nth_cons, exitQ_normal, exitQ_exit, exitQ_ret, frOf_cons, ↓reduceIte, Nat.reduceEqDiff, loopPost_exit, loopPost_ret, pLen_str, pLen_isl, pLen_gsl, pLen_sl, pLen_nils, pLen_eml, pLen_array, pLen_slAV, pConv_int, pConv_str, pBox_true, pBox_false, pAlloc_eq, cells_agg, fits_agg, pNil_ptr, pNil_iptr, pNil_fn, pFieldAddr_ptr, pFieldAddr_iptr, pField_agg, pCells_zero, pCells_succ, pCells_some, Nat.reduceAdd, Nat.reduceLeDiff, Nat.le_refl, pLoad_iptr, pLoad_push, Nat.zero_add, Nat.add_zero, List.drop_zero, List.drop_succ_cons, List.length_cons, List.length_nil, List.take_succ_cons, List.take_zero, true_and, and_true, binA_int_eql, binA_int_neq, binA_int_lss, binA_int_leq, binA_int_gtr, binA_int_geq, binA_int_add, binA_int_sub, binA_int_mul, binA_int_and, binA_int_or, binA_int_xor, binA_str_eql, binA_str_neq, binA_bool_eql, binA_bool_neq, binA_ptr_eql_nil, binA_ptr_neq_nil, binA_iptr_eql_nil, binA_iptr_neq_nil, binA_nil_eql_nil, binA_nil_neq_nil, unA_not, unA_not_unkb, unA_neg, Bool.not_true, Bool.not_false, false_implies, true_implies, eq_self, bld1, encI_at (o := inputs) (k := x.N) (by omega)]
      exact this
    · have h00 : (slL inputs).getD x.N 0 = 0 := by simp [List.getElem?_eq_none (show (slL inputs).length ≤ x.N by omega)]
      rw [h00] at this
      try simp -dsimp -implicitDefEqProofs only [↓later_1, ↓later_2, ↓later_3, obind_some, ↓Split_true, ↓Split_false, ↓run_pCond, ↓run_pCond_unkb, ↓run_pGuardT, ↓run_pGuardF, ↓run_pGuard_unkb, ↓run_pGuardST, ↓run_pGuardSF, ↓pGuard_tup, ↓pGuardS_tup, ↓run_pPick, ↓run_pIdx, ↓run_pExtract0, ↓run_pExtractS, ↓pJoin_eq, nth_zero, nth_cons, exitQ_normal, exitQ_exit, exitQ_ret, frOf_cons, ↓reduceIte, Nat.reduceEqDiff, loopPost_exit, loopPost_ret, pLen_str, pLen_isl, pLen_gsl, pLen_sl, pLen_nils, pLen_eml, pLen_array, pLen_slAV, pConv_int, pConv_str, pBox_true, pBox_false, pAlloc_eq, cells_agg, fits_agg, pNil_ptr, pNil_iptr, pNil_fn, pFieldAddr_ptr, pFieldAddr_iptr, pField_agg, pCells_zero, pCells_succ, pCells_some, Nat.reduceAdd, Nat.reduceLeDiff, Nat.le_refl, pLoad_iptr, pLoad_push, Nat.zero_add, Nat.add_zero, List.drop_zero, List.drop_succ_cons, List.length_cons, List.length_nil, List.take_succ_cons, List.take_zero, true_and, and_true, binA_int_eql, binA_int_neq, binA_int_lss, binA_int_leq, binA_int_gtr, binA_int_geq, binA_int_add, binA_int_sub, binA_int_mul, binA_int_and, binA_int_or, binA_int_xor, binA_str_eql, binA_str_neq, binA_bool_eql, binA_bool_neq, binA_ptr_eql_nil, binA_ptr_neq_nil, binA_iptr_eql_nil, binA_iptr_neq_nil, binA_nil_eql_nil, binA_nil_neq_nil, unA_not, unA_not_unkb, unA_neg, Bool.not_true, Bool.not_false, false_implies, true_implies, eq_self, bld1]
      exact this
  have q3 : (x.Op == 3) = false := by simp [h3]
  have hnb := fits_needs hf
  by_cases h8 : 8 ≤ x.Op ∧ x.Op ≤ 10
  · have hnd : needsI x.Op = 2 := by unfold needsI; rw [if_neg (by omega), if_neg (by omega), if_pos h8]
    match st, hn, hst, hsl, pA, hQn, hQr with
    | [], hn, _, _, _, _, _ => simp at hn; omega
    | [b], hn, _, _, _, _, _ => simp at hn; omega
    | b :: c :: r, _, hst, hsl, pA, hQn, hQr =>
      clear push
      have er : (b :: c :: r).reverse = r.reverse ++ [c, b] := by simp
      rw [er] at pA
      have len : (r.reverse ++ [c, b]).length = r.length + 2 := by simp
      have g1 : (r.reverse ++ [c, b])[r.length]? = some c := by rw [List.getElem?_append_right (by simp)]; simp
      have g2 : (r.reverse ++ [c, b])[r.length + 1]? = some b := by rw [List.getElem?_append_right (by simp)]; simp
      have hr9 : r.length ≤ 898 := by simp at hsl; omega
      have w2 : IntKind.i64.wrap (((r.reverse ++ [c, b]).length : Int) - 2) = ((r.length : Nat) : Int) := by rw [len, wrapI (by omega) (by omega)]; omega
      have w1 : IntKind.i64.wrap (((r.reverse ++ [c, b]).length : Int) - 1) = ((r.length + 1 : Nat) : Int) := by rw [len, wrapI (by omega) (by omega)]; omega
      have body : ∀ hh, hh = h.push (.row 44 [.int .i64 x.Op, .int .i64 x.Bin, .int .u64 (x.N : Nat)]) → ∀ K : AV → AHeap → Prop,
          (∀ v, binN x c b = some v → K (.tup [.int .u64 (v : Nat), .bool true]) hh) → (binN x c b = none → K (.tup [.int .u64 0, .bool false]) hh) → CallsA Try.prog 42 [.agg [.int .i64 x.Op, .int .i64 x.Bin, .int .u64 (x.N : Nat)], .int .u64 c, .int .u64 b] hh K := by
        intro hh _ K k1 k2
        refine (calc_binary_does x c b hh).mono ?_
        rintro _ _ ⟨rfl, rfl⟩
        unfold binV
        cases hb : binN x c b with
        | some v => exact k1 v hb
        | none => exact k2 hb
      have st1 : ∀ v, binN x c b = some v → stepN (slL slots) (slL inputs) (b :: c :: r) x = some (v :: r) := fun v hv => by unfold stepN; rw [if_neg (by omega), if_neg (by omega)]; simp only [hv, Option.map_some]
      have st0 : binN x c b = none → stepN (slL slots) (slL inputs) (b :: c :: r) x = none := fun hv => by unfold stepN; rw [if_neg (by omega), if_neg (by omega)]; simp only [hv, Option.map_none]
      have lhs : List.take 3 [AV.int .i64 x.Op, .int .i64 x.Bin, .int .u64 (x.N : Nat)] = [AV.int .i64 x.Op, .int .i64 x.Bin, .int .u64 (x.N : Nat)] := rfl
      have cases3 : ((x.Op == 8) = true ∧ (x.Op == 9) = false ∧ (x.Op == 10) = false) ∨ ((x.Op == 8) = false ∧ (x.Op == 9) = true ∧ (x.Op == 10) = false) ∨ ((x.Op == 8) = false ∧ (x.Op == 9) = false ∧ (x.Op == 10) = true) := by
        rcases (by omega : x.Op = 8 ∨ x.Op = 9 ∨ x.Op = 10) with e | e | e
        · obtain ⟨-, -, -, e8, e9, e10⟩ := ops 8 e
          exact Or.inl ⟨e8, e9, e10⟩
        · obtain ⟨-, -, -, e8, e9, e10⟩ := ops 9 e
          exact Or.inr (Or.inl ⟨e8, e9, e10⟩)
        · obtain ⟨-, -, -, e8, e9, e10⟩ := ops 10 e
          exact Or.inr (Or.inr ⟨e8, e9, e10⟩)
      rcases cases3 with ⟨e8, e9, e10⟩ | ⟨e8, e9, e10⟩ | ⟨e8, e9, e10⟩
      all_goals
        try simp -dsimp -implicitDefEqProofs only [↓later_1, ↓later_2, ↓later_3, obind_some, ↓Split_true, ↓Split_false, ↓run_pCond, ↓run_pCond_unkb, ↓run_pGuardT, ↓run_pGuardF, ↓run_pGuard_unkb, ↓run_pGuardST, ↓run_pGuardSF, ↓pGuard_tup, ↓pGuardS_tup, ↓run_pPick, ↓run_pIdx, ↓run_pExtract0, ↓run_pExtractS, ↓pJoin_eq, nth_zero, nth_cons, exitQ_normal, exitQ_exit, exitQ_ret, frOf_cons, ↓reduceIte, Nat.reduceEqDiff, loopPost_exit, loopPost_ret, pLen_str, pLen_isl, pLen_gsl, pLen_sl, pLen_nils, pLen_eml, pLen_array, pLen_slAV, pConv_int, pConv_str, pBox_true, pBox_false, pAlloc_eq, cells_agg, fits_agg, pNil_ptr, pNil_iptr, pNil_fn, pFieldAddr_ptr, pFieldAddr_iptr, pField_agg, pCells_zero, pCells_succ, pCells_some, Nat.reduceAdd, Nat.reduceLeDiff, Nat.le_refl, pLoad_iptr, pLoad_push, Nat.zero_add, Nat.add_zero, List.drop_zero, List.drop_succ_cons, List.length_cons, List.length_nil, List.take_succ_cons, List.take_zero, true_and, and_true, binA_int_eql, binA_int_neq, binA_int_lss, binA_int_leq, binA_int_gtr, binA_int_geq, binA_int_add, binA_int_sub, binA_int_mul, binA_int_and, binA_int_or, binA_int_xor, binA_str_eql, binA_str_neq, binA_bool_eql, binA_bool_neq, binA_ptr_eql_nil, binA_ptr_neq_nil, binA_iptr_eql_nil, binA_iptr_neq_nil, binA_nil_eql_nil, binA_nil_neq_nil, unA_not, unA_not_unkb, unA_neg, Bool.not_true, Bool.not_false, false_implies, true_implies, eq_self, q1, q2, q3, e8, e9, e10, pA.len, w2, w1]
        refine StkAt.get pA g1 _ ?_
        try simp -dsimp -implicitDefEqProofs only [↓later_1, ↓later_2, ↓later_3, obind_some, ↓Split_true, ↓Split_false, ↓run_pCond, ↓run_pCond_unkb, ↓run_pGuardT, ↓run_pGuardF, ↓run_pGuard_unkb, ↓run_pGuardST, ↓run_pGuardSF, ↓pGuard_tup, ↓pGuardS_tup, ↓run_pPick, ↓run_pIdx, ↓run_pExtract0, ↓run_pExtractS, ↓pJoin_eq, nth_zero, nth_cons, exitQ_normal, exitQ_exit, exitQ_ret, frOf_cons, ↓reduceIte, Nat.reduceEqDiff, loopPost_exit, loopPost_ret, pLen_str, pLen_isl, pLen_gsl, pLen_sl, pLen_nils, pLen_eml, pLen_array, pLen_slAV, pConv_int, pConv_str, pBox_true, pBox_false, pAlloc_eq, cells_agg, fits_agg, pNil_ptr, pNil_iptr, pNil_fn, pFieldAddr_ptr, pFieldAddr_iptr, pField_agg, pCells_zero, pCells_succ, pCells_some, Nat.reduceAdd, Nat.reduceLeDiff, Nat.le_refl, pLoad_iptr, pLoad_push, Nat.zero_add, Nat.add_zero, List.drop_zero, List.drop_succ_cons, List.length_cons, List.length_nil, List.take_succ_cons, List.take_zero, true_and, and_true, binA_int_eql, binA_int_neq, binA_int_lss, binA_int_leq, binA_int_gtr, binA_int_geq, binA_int_add, binA_int_sub, binA_int_mul, binA_int_and, binA_int_or, binA_int_xor, binA_str_eql, binA_str_neq, binA_bool_eql, binA_bool_neq, binA_ptr_eql_nil, binA_ptr_neq_nil, binA_iptr_eql_nil, binA_iptr_neq_nil, binA_nil_eql_nil, binA_nil_neq_nil, unA_not, unA_not_unkb, unA_neg, Bool.not_true, Bool.not_false, false_implies, true_implies, eq_self, w1]
        refine StkAt.get pA g2 _ ?_
        try simp -dsimp -implicitDefEqProofs only [↓later_1, ↓later_2, ↓later_3, obind_some, ↓Split_true, ↓Split_false, ↓run_pCond, ↓run_pCond_unkb, ↓run_pGuardT, ↓run_pGuardF, ↓run_pGuard_unkb, ↓run_pGuardST, ↓run_pGuardSF, ↓pGuard_tup, ↓pGuardS_tup, ↓run_pPick, ↓run_pIdx, ↓run_pExtract0, ↓run_pExtractS, ↓pJoin_eq, nth_zero, nth_cons, exitQ_normal, exitQ_exit, exitQ_ret, frOf_cons, ↓reduceIte, Nat.reduceEqDiff, loopPost_exit, loopPost_ret, pLen_str, pLen_isl, pLen_gsl, pLen_sl, pLen_nils, pLen_eml, pLen_array, pLen_slAV, pConv_int, pConv_str, pBox_true, pBox_false, pAlloc_eq, cells_agg, fits_agg, pNil_ptr, pNil_iptr, pNil_fn, pFieldAddr_ptr, pFieldAddr_iptr, pField_agg, pCells_zero, pCells_succ, pCells_some, Nat.reduceAdd, Nat.reduceLeDiff, Nat.le_refl, pLoad_iptr, pLoad_push, Nat.zero_add, Nat.add_zero, List.drop_zero, List.drop_succ_cons, List.length_cons, List.length_nil, List.take_succ_cons, List.take_zero, true_and, and_true, binA_int_eql, binA_int_neq, binA_int_lss, binA_int_leq, binA_int_gtr, binA_int_geq, binA_int_add, binA_int_sub, binA_int_mul, binA_int_and, binA_int_or, binA_int_xor, binA_str_eql, binA_str_neq, binA_bool_eql, binA_bool_neq, binA_ptr_eql_nil, binA_ptr_neq_nil, binA_iptr_eql_nil, binA_iptr_neq_nil, binA_nil_eql_nil, binA_nil_neq_nil, unA_not, unA_not_unkb, unA_neg, Bool.not_true, Bool.not_false, false_implies, true_implies, eq_self]
        refine body _ rfl _ (fun v hv => ?_) (fun hv => ?_)
        · try simp -dsimp -implicitDefEqProofs only [↓later_1, ↓later_2, ↓later_3, obind_some, ↓Split_true, ↓Split_false, ↓run_pCond, ↓run_pCond_unkb, ↓run_pGuardT, ↓run_pGuardF, ↓run_pGuard_unkb, ↓run_pGuardST, ↓run_pGuardSF, ↓pGuard_tup, ↓pGuardS_tup, ↓run_pPick, ↓run_pIdx, ↓run_pExtract0, ↓run_pExtractS, ↓pJoin_eq, nth_zero, nth_cons, exitQ_normal, exitQ_exit, exitQ_ret, frOf_cons, ↓reduceIte, Nat.reduceEqDiff, loopPost_exit, loopPost_ret, pLen_str, pLen_isl, pLen_gsl, pLen_sl, pLen_nils, pLen_eml, pLen_array, pLen_slAV, pConv_int, pConv_str, pBox_true, pBox_false, pAlloc_eq, cells_agg, fits_agg, pNil_ptr, pNil_iptr, pNil_fn, pFieldAddr_ptr, pFieldAddr_iptr, pField_agg, pCells_zero, pCells_succ, pCells_some, Nat.reduceAdd, Nat.reduceLeDiff, Nat.le_refl, pLoad_iptr, pLoad_push, Nat.zero_add, Nat.add_zero, List.drop_zero, List.drop_succ_cons, List.length_cons, List.length_nil, List.take_succ_cons, List.take_zero, true_and, and_true, binA_int_eql, binA_int_neq, binA_int_lss, binA_int_leq, binA_int_gtr, binA_int_geq, binA_int_add, binA_int_sub, binA_int_mul, binA_int_and, binA_int_or, binA_int_xor, binA_str_eql, binA_str_neq, binA_bool_eql, binA_bool_neq, binA_ptr_eql_nil, binA_ptr_neq_nil, binA_iptr_eql_nil, binA_iptr_neq_nil, binA_nil_eql_nil, binA_nil_neq_nil, unA_not, unA_not_unkb, unA_neg, Bool.not_true, Bool.not_false, false_implies, true_implies, eq_self, w2]
          have lr : r.length = r.reverse.length := by simp
          rw [lr]
          refine stk_two pA hloA (by simp; omega) v fun s hs => ?_
          try simp -dsimp -implicitDefEqProofs only [↓later_1, ↓later_2, ↓later_3, obind_some, ↓Split_true, ↓Split_false, ↓run_pCond, ↓run_pCond_unkb, ↓run_pGuardT, ↓run_pGuardF, ↓run_pGuard_unkb, ↓run_pGuardST, ↓run_pGuardSF, ↓pGuard_tup, ↓pGuardS_tup, ↓run_pPick, ↓run_pIdx, ↓run_pExtract0, ↓run_pExtractS, ↓pJoin_eq, nth_zero, nth_cons, exitQ_normal, exitQ_exit, exitQ_ret, frOf_cons, ↓reduceIte, Nat.reduceEqDiff, loopPost_exit, loopPost_ret, pLen_str, pLen_isl, pLen_gsl, pLen_sl, pLen_nils, pLen_eml, pLen_array, pLen_slAV, pConv_int, pConv_str, pBox_true, pBox_false, pAlloc_eq, cells_agg, fits_agg, pNil_ptr, pNil_iptr, pNil_fn, pFieldAddr_ptr, pFieldAddr_iptr, pField_agg, pCells_zero, pCells_succ, pCells_some, Nat.reduceAdd, Nat.reduceLeDiff, Nat.le_refl, pLoad_iptr, pLoad_push, Nat.zero_add, Nat.add_zero, List.drop_zero, List.drop_succ_cons, List.length_cons, List.length_nil, List.take_succ_cons, List.take_zero, true_and, and_true, binA_int_eql, binA_int_neq, binA_int_lss, binA_int_leq, binA_int_gtr, binA_int_geq, binA_int_add, binA_int_sub, binA_int_mul, binA_int_and, binA_int_or, binA_int_xor, binA_str_eql, binA_str_neq, binA_bool_eql, binA_bool_neq, binA_ptr_eql_nil, binA_ptr_neq_nil, binA_iptr_eql_nil, binA_iptr_neq_nil, binA_nil_eql_nil, binA_nil_neq_nil, unA_not, unA_not_unkb, unA_neg, Bool.not_true, Bool.not_false, false_implies, true_implies, eq_self, bld1]
          refine hs _ fun a2 h2 p2 k2 => ?_
          try simp -dsimp -implicitDefEqProofs only [↓later_1, ↓later_2, ↓later_3, obind_some, ↓Split_true, ↓Split_false, ↓run_pCond, ↓run_pCond_unkb, ↓run_pGuardT, ↓run_pGuardF, ↓run_pGuard_unkb, ↓run_pGuardST, ↓run_pGuardSF, ↓pGuard_tup, ↓pGuardS_tup, ↓run_pPick, ↓run_pIdx, ↓run_pExtract0, ↓run_pExtractS, ↓pJoin_eq, nth_zero, nth_cons, exitQ_normal, exitQ_exit, exitQ_ret, frOf_cons, ↓reduceIte, Nat.reduceEqDiff, loopPost_exit, loopPost_ret, pLen_str, pLen_isl, pLen_gsl, pLen_sl, pLen_nils, pLen_eml, pLen_array, pLen_slAV, pConv_int, pConv_str, pBox_true, pBox_false, pAlloc_eq, cells_agg, fits_agg, pNil_ptr, pNil_iptr, pNil_fn, pFieldAddr_ptr, pFieldAddr_iptr, pField_agg, pCells_zero, pCells_succ, pCells_some, Nat.reduceAdd, Nat.reduceLeDiff, Nat.le_refl, pLoad_iptr, pLoad_push, Nat.zero_add, Nat.add_zero, List.drop_zero, List.drop_succ_cons, List.length_cons, List.length_nil, List.take_succ_cons, List.take_zero, true_and, and_true, binA_int_eql, binA_int_neq, binA_int_lss, binA_int_leq, binA_int_gtr, binA_int_geq, binA_int_add, binA_int_sub, binA_int_mul, binA_int_and, binA_int_or, binA_int_xor, binA_str_eql, binA_str_neq, binA_bool_eql, binA_bool_neq, binA_ptr_eql_nil, binA_ptr_neq_nil, binA_iptr_eql_nil, binA_iptr_neq_nil, binA_nil_eql_nil, binA_nil_neq_nil, unA_not, unA_not_unkb, unA_neg, Bool.not_true, Bool.not_false, false_implies, true_implies, eq_self, wk]
          exact hQn a2 h2 _ (st1 v hv) (by simpa using p2) ((kA.mono (fun _ h => h.elim)).trans k2 (fun _ _ h => h))
        · try simp -dsimp -implicitDefEqProofs only [↓later_1, ↓later_2, ↓later_3, obind_some, ↓Split_true, ↓Split_false, ↓run_pCond, ↓run_pCond_unkb, ↓run_pGuardT, ↓run_pGuardF, ↓run_pGuard_unkb, ↓run_pGuardST, ↓run_pGuardSF, ↓pGuard_tup, ↓pGuardS_tup, ↓run_pPick, ↓run_pIdx, ↓run_pExtract0, ↓run_pExtractS, ↓pJoin_eq, nth_zero, nth_cons, exitQ_normal, exitQ_exit, exitQ_ret, frOf_cons, ↓reduceIte, Nat.reduceEqDiff, loopPost_exit, loopPost_ret, pLen_str, pLen_isl, pLen_gsl, pLen_sl, pLen_nils, pLen_eml, pLen_array, pLen_slAV, pConv_int, pConv_str, pBox_true, pBox_false, pAlloc_eq, cells_agg, fits_agg, pNil_ptr, pNil_iptr, pNil_fn, pFieldAddr_ptr, pFieldAddr_iptr, pField_agg, pCells_zero, pCells_succ, pCells_some, Nat.reduceAdd, Nat.reduceLeDiff, Nat.le_refl, pLoad_iptr, pLoad_push, Nat.zero_add, Nat.add_zero, List.drop_zero, List.drop_succ_cons, List.length_cons, List.length_nil, List.take_succ_cons, List.take_zero, true_and, and_true, binA_int_eql, binA_int_neq, binA_int_lss, binA_int_leq, binA_int_gtr, binA_int_geq, binA_int_add, binA_int_sub, binA_int_mul, binA_int_and, binA_int_or, binA_int_xor, binA_str_eql, binA_str_neq, binA_bool_eql, binA_bool_neq, binA_ptr_eql_nil, binA_ptr_neq_nil, binA_iptr_eql_nil, binA_iptr_neq_nil, binA_nil_eql_nil, binA_nil_neq_nil, unA_not, unA_not_unkb, unA_neg, Bool.not_true, Bool.not_false, false_implies, true_implies, eq_self]
          exact hQr _ (st0 hv) (kA.mono (fun _ h => h.elim))
  · have hnd : needsI x.Op = 1 ∧ 4 ≤ x.Op ∧ x.Op ≤ 7 := by
      by_cases c : 4 ≤ x.Op ∧ x.Op ≤ 7
      · exact ⟨by unfold needsI; rw [if_neg (by omega), if_pos c], c⟩
      · exfalso; unfold needsI at hnb; rw [if_neg (by omega), if_neg c, if_neg h8] at hnb; omega
    match st, hn, hst, hsl, pA, hQn with
    | [], hn, _, _, _, _ => simp at hn; omega
    | b :: r, _, hst, hsl, pA, hQn =>
      clear push
      have er : (b :: r).reverse = r.reverse ++ [b] := by simp
      rw [er] at pA
      have len : (r.reverse ++ [b]).length = r.length + 1 := by simp
      have hr9 : r.length ≤ 899 := by simp at hsl; omega
      have g1 : (r.reverse ++ [b])[r.length]? = some b := by rw [List.getElem?_append_right (by simp)]; simp
      have w1 : IntKind.i64.wrap (((r.reverse ++ [b]).length : Int) - 1) = ((r.length : Nat) : Int) := by rw [len, wrapI (by omega) (by omega)]; omega
      have st1 : stepN (slL slots) (slL inputs) (b :: r) x = some (unN x.Op b :: r) := by unfold stepN; rw [if_neg (by omega), if_pos (by omega)]
      have e8 : (x.Op == 8) = false := by rw [beqI]; exact decide_eq_false (by omega)
      have e9 : (x.Op == 9) = false := by rw [beqI]; exact decide_eq_false (by omega)
      have e10 : (x.Op == 10) = false := by rw [beqI]; exact decide_eq_false (by omega)
      try simp -dsimp -implicitDefEqProofs only [↓later_1, ↓later_2, ↓later_3, obind_some, ↓Split_true, ↓Split_false, ↓run_pCond, ↓run_pCond_unkb, ↓run_pGuardT, ↓run_pGuardF, ↓run_pGuard_unkb, ↓run_pGuardST, ↓run_pGuardSF, ↓pGuard_tup, ↓pGuardS_tup, ↓run_pPick, ↓run_pIdx, ↓run_pExtract0, ↓run_pExtractS, ↓pJoin_eq, nth_zero, nth_cons, exitQ_normal, exitQ_exit, exitQ_ret, frOf_cons, ↓reduceIte, Nat.reduceEqDiff, loopPost_exit, loopPost_ret, pLen_str, pLen_isl, pLen_gsl, pLen_sl, pLen_nils, pLen_eml, pLen_array, pLen_slAV, pConv_int, pConv_str, pBox_true, pBox_false, pAlloc_eq, cells_agg, fits_agg, pNil_ptr, pNil_iptr, pNil_fn, pFieldAddr_ptr, pFieldAddr_iptr, pField_agg, pCells_zero, pCells_succ, pCells_some, Nat.reduceAdd, Nat.reduceLeDiff, Nat.le_refl, pLoad_iptr, pLoad_push, Nat.zero_add, Nat.add_zero, List.drop_zero, List.drop_succ_cons, List.length_cons, List.length_nil, List.take_succ_cons, List.take_zero, true_and, and_true, binA_int_eql, binA_int_neq, binA_int_lss, binA_int_leq, binA_int_gtr, binA_int_geq, binA_int_add, binA_int_sub, binA_int_mul, binA_int_and, binA_int_or, binA_int_xor, binA_str_eql, binA_str_neq, binA_bool_eql, binA_bool_neq, binA_ptr_eql_nil, binA_ptr_neq_nil, binA_iptr_eql_nil, binA_iptr_neq_nil, binA_nil_eql_nil, binA_nil_neq_nil, unA_not, unA_not_unkb, unA_neg, Bool.not_true, Bool.not_false, false_implies, true_implies, eq_self, q1, q2, q3, e8, e9, e10, pA.len, w1]
      refine StkAt.get pA g1 _ ?_
      try simp -dsimp -implicitDefEqProofs only [↓later_1, ↓later_2, ↓later_3, obind_some, ↓Split_true, ↓Split_false, ↓run_pCond, ↓run_pCond_unkb, ↓run_pGuardT, ↓run_pGuardF, ↓run_pGuard_unkb, ↓run_pGuardST, ↓run_pGuardSF, ↓pGuard_tup, ↓pGuardS_tup, ↓run_pPick, ↓run_pIdx, ↓run_pExtract0, ↓run_pExtractS, ↓pJoin_eq, nth_zero, nth_cons, exitQ_normal, exitQ_exit, exitQ_ret, frOf_cons, ↓reduceIte, Nat.reduceEqDiff, loopPost_exit, loopPost_ret, pLen_str, pLen_isl, pLen_gsl, pLen_sl, pLen_nils, pLen_eml, pLen_array, pLen_slAV, pConv_int, pConv_str, pBox_true, pBox_false, pAlloc_eq, cells_agg, fits_agg, pNil_ptr, pNil_iptr, pNil_fn, pFieldAddr_ptr, pFieldAddr_iptr, pField_agg, pCells_zero, pCells_succ, pCells_some, Nat.reduceAdd, Nat.reduceLeDiff, Nat.le_refl, pLoad_iptr, pLoad_push, Nat.zero_add, Nat.add_zero, List.drop_zero, List.drop_succ_cons, List.length_cons, List.length_nil, List.take_succ_cons, List.take_zero, true_and, and_true, binA_int_eql, binA_int_neq, binA_int_lss, binA_int_leq, binA_int_gtr, binA_int_geq, binA_int_add, binA_int_sub, binA_int_mul, binA_int_and, binA_int_or, binA_int_xor, binA_str_eql, binA_str_neq, binA_bool_eql, binA_bool_neq, binA_ptr_eql_nil, binA_ptr_neq_nil, binA_iptr_eql_nil, binA_iptr_neq_nil, binA_nil_eql_nil, binA_nil_neq_nil, unA_not, unA_not_unkb, unA_neg, Bool.not_true, Bool.not_false, false_implies, true_implies, eq_self]
      refine (calc_unary_does x.Op b (hst b (by simp)) _).mono ?_
      rintro _ _ ⟨rfl, rfl⟩
      try simp -dsimp -implicitDefEqProofs only [↓later_1, ↓later_2, ↓later_3, obind_some, ↓Split_true, ↓Split_false, ↓run_pCond, ↓run_pCond_unkb, ↓run_pGuardT, ↓run_pGuardF, ↓run_pGuard_unkb, ↓run_pGuardST, ↓run_pGuardSF, ↓pGuard_tup, ↓pGuardS_tup, ↓run_pPick, ↓run_pIdx, ↓run_pExtract0, ↓run_pExtractS, ↓pJoin_eq, nth_zero, nth_cons, exitQ_normal, exitQ_exit, exitQ_ret, frOf_cons, ↓reduceIte, Nat.reduceEqDiff, loopPost_exit, loopPost_ret, pLen_str, pLen_isl, pLen_gsl, pLen_sl, pLen_nils, pLen_eml, pLen_array, pLen_slAV, pConv_int, pConv_str, pBox_true, pBox_false, pAlloc_eq, cells_agg, fits_agg, pNil_ptr, pNil_iptr, pNil_fn, pFieldAddr_ptr, pFieldAddr_iptr, pField_agg, pCells_zero, pCells_succ, pCells_some, Nat.reduceAdd, Nat.reduceLeDiff, Nat.le_refl, pLoad_iptr, pLoad_push, Nat.zero_add, Nat.add_zero, List.drop_zero, List.drop_succ_cons, List.length_cons, List.length_nil, List.take_succ_cons, List.take_zero, true_and, and_true, binA_int_eql, binA_int_neq, binA_int_lss, binA_int_leq, binA_int_gtr, binA_int_geq, binA_int_add, binA_int_sub, binA_int_mul, binA_int_and, binA_int_or, binA_int_xor, binA_str_eql, binA_str_neq, binA_bool_eql, binA_bool_neq, binA_ptr_eql_nil, binA_ptr_neq_nil, binA_iptr_eql_nil, binA_iptr_neq_nil, binA_nil_eql_nil, binA_nil_neq_nil, unA_not, unA_not_unkb, unA_neg, Bool.not_true, Bool.not_false, false_implies, true_implies, eq_self]
      have lr : r.length = r.reverse.length := by simp
      rw [lr]
      refine stk_top pA _ _ fun h2 p2 k2 => ?_
      try simp -dsimp -implicitDefEqProofs only [↓later_1, ↓later_2, ↓later_3, obind_some, ↓Split_true, ↓Split_false, ↓run_pCond, ↓run_pCond_unkb, ↓run_pGuardT, ↓run_pGuardF, ↓run_pGuard_unkb, ↓run_pGuardST, ↓run_pGuardSF, ↓pGuard_tup, ↓pGuardS_tup, ↓run_pPick, ↓run_pIdx, ↓run_pExtract0, ↓run_pExtractS, ↓pJoin_eq, nth_zero, nth_cons, exitQ_normal, exitQ_exit, exitQ_ret, frOf_cons, ↓reduceIte, Nat.reduceEqDiff, loopPost_exit, loopPost_ret, pLen_str, pLen_isl, pLen_gsl, pLen_sl, pLen_nils, pLen_eml, pLen_array, pLen_slAV, pConv_int, pConv_str, pBox_true, pBox_false, pAlloc_eq, cells_agg, fits_agg, pNil_ptr, pNil_iptr, pNil_fn, pFieldAddr_ptr, pFieldAddr_iptr, pField_agg, pCells_zero, pCells_succ, pCells_some, Nat.reduceAdd, Nat.reduceLeDiff, Nat.le_refl, pLoad_iptr, pLoad_push, Nat.zero_add, Nat.add_zero, List.drop_zero, List.drop_succ_cons, List.length_cons, List.length_nil, List.take_succ_cons, List.take_zero, true_and, and_true, binA_int_eql, binA_int_neq, binA_int_lss, binA_int_leq, binA_int_gtr, binA_int_geq, binA_int_add, binA_int_sub, binA_int_mul, binA_int_and, binA_int_or, binA_int_xor, binA_str_eql, binA_str_neq, binA_bool_eql, binA_bool_neq, binA_ptr_eql_nil, binA_ptr_neq_nil, binA_iptr_eql_nil, binA_iptr_neq_nil, binA_nil_eql_nil, binA_nil_neq_nil, unA_not, unA_not_unkb, unA_neg, Bool.not_true, Bool.not_false, false_implies, true_implies, eq_self, wk]
      exact hQn a h2 _ st1 (by simpa using p2) ((kA.mono (fun _ h => h.elim)).trans k2 (fun _ _ h => h))

theorem stepN_ok {slots : List Nat} {inputs : List Int} {st st2 : List Nat} {x : It} (hs : ∀ v ∈ slots, okN v) (hx : x.ok) (hst : ∀ v ∈ st, okN v) (h : stepN slots inputs st x = some st2) : ∀ v ∈ st2, okN v := by
  have hz : okN 0 := by unfold okN; omega
  unfold stepN at h
  split at h
  · cases h
    intro v hv
    rcases List.mem_cons.1 hv with rfl | hv
    · unfold leafN
      split
      · exact hx.2.2
      split
      · rw [List.getD_eq_getElem?_getD]
        cases hg : slots[x.N]? with
        | none => exact hz
        | some w => exact hs w (List.mem_of_getElem? hg)
      · exact u64lt _
    · exact hst v hv
  · split at h
    · match st, h with
      | a :: r, h =>
        cases h
        intro v hv
        rcases List.mem_cons.1 hv with rfl | hv
        · exact unN_lt (hst a (by simp))
        · exact hst v (by simp [hv])
      | [], h => cases h; simp
    · match st, h with
      | b :: a :: r, h =>
        simp only [Option.map_eq_some_iff] at h
        obtain ⟨w, hw, rfl⟩ := h
        intro v hv
        rcases List.mem_cons.1 hv with rfl | hv
        · exact binN_lt hw
        · exact hst v (by simp [hv])
      | [b], h => cases h; simp
      | [], h => cases h; simp

theorem calc_Eval_does (slots : Option (List Nat)) (inputs : Option (List Int)) (items : Option (List It)) (hs : okSl okN slots) (hsn : (slL slots).length ≤ 1000000) (hi : (slL inputs).length ≤ 1000000) (hok : okSl Api_Item.ok items) (hit : (slL items).length ≤ 1000) (h : AHeap) :
    CallsA Try.prog 30 [slAV 1 encN slots, slAV 1 encI inputs, slAV 3 Api_Item.cells items] h (fun v h2 => v = .tup [.int .u64 ((evalN (slL slots) (slL inputs) (slL items)).1 : Nat), .int .i64 (evalN (slL slots) (slL inputs) (slL items)).2] ∧ Keeps h h2 (fun _ => False)) := by
  apply calc_Eval_wp
  try simp -dsimp -implicitDefEqProofs only [↓later_1, ↓later_2, ↓later_3, obind_some, ↓Split_true, ↓Split_false, ↓run_pCond, ↓run_pCond_unkb, ↓run_pGuardT, ↓run_pGuardF, ↓run_pGuard_unkb, ↓run_pGuardST, ↓run_pGuardSF, ↓pGuard_tup, ↓pGuardS_tup, ↓run_pPick, ↓run_pIdx, ↓run_pExtract0, ↓run_pExtractS, ↓pJoin_eq, nth_zero, nth_cons, exitQ_normal, exitQ_exit, exitQ_ret, frOf_cons, ↓reduceIte, Nat.reduceEqDiff, loopPost_exit, loopPost_ret, pLen_str, pLen_isl, pLen_gsl, pLen_sl, pLen_nils, pLen_eml, pLen_array, pLen_slAV, pConv_int, pConv_str, pBox_true, pBox_false, pAlloc_eq, cells_agg, fits_agg, pNil_ptr, pNil_iptr, pNil_fn, pFieldAddr_ptr, pFieldAddr_iptr, pField_agg, pCells_zero, pCells_succ, pCells_some, Nat.reduceAdd, Nat.reduceLeDiff, Nat.le_refl, pLoad_iptr, pLoad_push, Nat.zero_add, Nat.add_zero, List.drop_zero, List.drop_succ_cons, List.length_cons, List.length_nil, List.take_succ_cons, List.take_zero, true_and, and_true, binA_int_eql, binA_int_neq, binA_int_lss, binA_int_leq, binA_int_gtr, binA_int_geq, binA_int_add, binA_int_sub, binA_int_mul, binA_int_and, binA_int_or, binA_int_xor, binA_str_eql, binA_str_neq, binA_bool_eql, binA_bool_neq, binA_ptr_eql_nil, binA_ptr_neq_nil, binA_iptr_eql_nil, binA_iptr_neq_nil, binA_nil_eql_nil, binA_nil_neq_nil, unA_not, unA_not_unkb, unA_neg, Bool.not_true, Bool.not_false, false_implies, true_implies, eq_self]
  refine (calc_Good_does ((slL slots).length : Nat) ⟨by omega, by omega⟩ items hok h).mono ?_
  rintro _ h2 ⟨rfl, kG⟩
  try simp -dsimp -implicitDefEqProofs only [↓later_1, ↓later_2, ↓later_3, obind_some, ↓Split_true, ↓Split_false, ↓run_pCond, ↓run_pCond_unkb, ↓run_pGuardT, ↓run_pGuardF, ↓run_pGuard_unkb, ↓run_pGuardST, ↓run_pGuardSF, ↓pGuard_tup, ↓pGuardS_tup, ↓run_pPick, ↓run_pIdx, ↓run_pExtract0, ↓run_pExtractS, ↓pJoin_eq, nth_zero, nth_cons, exitQ_normal, exitQ_exit, exitQ_ret, frOf_cons, ↓reduceIte, Nat.reduceEqDiff, loopPost_exit, loopPost_ret, pLen_str, pLen_isl, pLen_gsl, pLen_sl, pLen_nils, pLen_eml, pLen_array, pLen_slAV, pConv_int, pConv_str, pBox_true, pBox_false, pAlloc_eq, cells_agg, fits_agg, pNil_ptr, pNil_iptr, pNil_fn, pFieldAddr_ptr, pFieldAddr_iptr, pField_agg, pCells_zero, pCells_succ, pCells_some, Nat.reduceAdd, Nat.reduceLeDiff, Nat.le_refl, pLoad_iptr, pLoad_push, Nat.zero_add, Nat.add_zero, List.drop_zero, List.drop_succ_cons, List.length_cons, List.length_nil, List.take_succ_cons, List.take_zero, true_and, and_true, binA_int_eql, binA_int_neq, binA_int_lss, binA_int_leq, binA_int_gtr, binA_int_geq, binA_int_add, binA_int_sub, binA_int_mul, binA_int_and, binA_int_or, binA_int_xor, binA_str_eql, binA_str_neq, binA_bool_eql, binA_bool_neq, binA_ptr_eql_nil, binA_ptr_neq_nil, binA_iptr_eql_nil, binA_iptr_neq_nil, binA_nil_eql_nil, binA_nil_neq_nil, unA_not, unA_not_unkb, unA_neg, Bool.not_true, Bool.not_false, false_implies, true_implies, eq_self]
  cases hg : goodB (slL items) ((slL slots).length : Nat) with
  | false =>
    try simp -dsimp -implicitDefEqProofs only [↓later_1, ↓later_2, ↓later_3, obind_some, ↓Split_true, ↓Split_false, ↓run_pCond, ↓run_pCond_unkb, ↓run_pGuardT, ↓run_pGuardF, ↓run_pGuard_unkb, ↓run_pGuardST, ↓run_pGuardSF, ↓pGuard_tup, ↓pGuardS_tup, ↓run_pPick, ↓run_pIdx, ↓run_pExtract0, ↓run_pExtractS, ↓pJoin_eq, nth_zero, nth_cons, exitQ_normal, exitQ_exit, exitQ_ret, frOf_cons, ↓reduceIte, Nat.reduceEqDiff, loopPost_exit, loopPost_ret, pLen_str, pLen_isl, pLen_gsl, pLen_sl, pLen_nils, pLen_eml, pLen_array, pLen_slAV, pConv_int, pConv_str, pBox_true, pBox_false, pAlloc_eq, cells_agg, fits_agg, pNil_ptr, pNil_iptr, pNil_fn, pFieldAddr_ptr, pFieldAddr_iptr, pField_agg, pCells_zero, pCells_succ, pCells_some, Nat.reduceAdd, Nat.reduceLeDiff, Nat.le_refl, pLoad_iptr, pLoad_push, Nat.zero_add, Nat.add_zero, List.drop_zero, List.drop_succ_cons, List.length_cons, List.length_nil, List.take_succ_cons, List.take_zero, true_and, and_true, binA_int_eql, binA_int_neq, binA_int_lss, binA_int_leq, binA_int_gtr, binA_int_geq, binA_int_add, binA_int_sub, binA_int_mul, binA_int_and, binA_int_or, binA_int_xor, binA_str_eql, binA_str_neq, binA_bool_eql, binA_bool_neq, binA_ptr_eql_nil, binA_ptr_neq_nil, binA_iptr_eql_nil, binA_iptr_neq_nil, binA_nil_eql_nil, binA_nil_neq_nil, unA_not, unA_not_unkb, unA_neg, Bool.not_true, Bool.not_false, false_implies, true_implies, eq_self]
    have hg' : ¬ goodP (slL items) ((slL slots).length : Nat) := by unfold goodB at hg; simpa using hg
    have he : evalN (slL slots) (slL inputs) (slL items) = (0, 0) := by unfold evalN; rw [if_neg hg']
    rw [he]
    exact ⟨rfl, kG⟩
  | true =>
    try simp -dsimp -implicitDefEqProofs only [↓later_1, ↓later_2, ↓later_3, obind_some, ↓Split_true, ↓Split_false, ↓run_pCond, ↓run_pCond_unkb, ↓run_pGuardT, ↓run_pGuardF, ↓run_pGuard_unkb, ↓run_pGuardST, ↓run_pGuardSF, ↓pGuard_tup, ↓pGuardS_tup, ↓run_pPick, ↓run_pIdx, ↓run_pExtract0, ↓run_pExtractS, ↓pJoin_eq, nth_zero, nth_cons, exitQ_normal, exitQ_exit, exitQ_ret, frOf_cons, ↓reduceIte, Nat.reduceEqDiff, loopPost_exit, loopPost_ret, pLen_str, pLen_isl, pLen_gsl, pLen_sl, pLen_nils, pLen_eml, pLen_array, pLen_slAV, pConv_int, pConv_str, pBox_true, pBox_false, pAlloc_eq, cells_agg, fits_agg, pNil_ptr, pNil_iptr, pNil_fn, pFieldAddr_ptr, pFieldAddr_iptr, pField_agg, pCells_zero, pCells_succ, pCells_some, Nat.reduceAdd, Nat.reduceLeDiff, Nat.le_refl, pLoad_iptr, pLoad_push, Nat.zero_add, Nat.add_zero, List.drop_zero, List.drop_succ_cons, List.length_cons, List.length_nil, List.take_succ_cons, List.take_zero, true_and, and_true, binA_int_eql, binA_int_neq, binA_int_lss, binA_int_leq, binA_int_gtr, binA_int_geq, binA_int_add, binA_int_sub, binA_int_mul, binA_int_and, binA_int_or, binA_int_xor, binA_str_eql, binA_str_neq, binA_bool_eql, binA_bool_neq, binA_ptr_eql_nil, binA_ptr_neq_nil, binA_iptr_eql_nil, binA_iptr_neq_nil, binA_nil_eql_nil, binA_nil_neq_nil, unA_not, unA_not_unkb, unA_neg, Bool.not_true, Bool.not_false, false_implies, true_implies, eq_self]
    have hg' : goodP (slL items) ((slL slots).length : Nat) := by unfold goodB at hg; simpa using hg
    obtain ⟨g1, g2, g3⟩ := hg'
    have he : evalN (slL slots) (slL inputs) (slL items) = match runN (slL slots) (slL inputs) [] (slL items) with | some st => (st.headD 0, 0) | none => (0, 1) := by
      unfold evalN; rw [if_pos ⟨g1, g2, g3⟩]
      cases runN (slL slots) (slL inputs) [] (slL items) <;> rfl
    refine WP_loop mixed_ (by kernel_rfl) (fun m fr hh => ∃ (k : Nat) (a : AV) (st : List Nat), k ≤ (slL items).length ∧ m = (slL items).length - k ∧ runN (slL slots) (slL inputs) [] ((slL items).take k) = some st ∧ (∀ v ∈ st, okN v) ∧ StkAt hh h2.next a st.reverse ∧ Keeps h2 hh (fun _ => False) ∧
      fr = frOf [(0, slAV 1 encN slots), (1, slAV 1 encI inputs), (8, a), (20, slAV 3 Api_Item.cells items), (21, .int .i64 (slL items).length), (22, .int .i64 k)]) (slL items).length ⟨0, .nils, [], by omega, by omega, rfl, by simp, Or.inl ⟨rfl, rfl⟩, .refl _ _, rfl⟩ ?_
    rintro m fr hh ⟨k, a, st, hk, rfl, hr, hst, p, kp, rfl⟩
    have hlen := runN_len g1 k hk st hr
    by_cases hkl : k < (slL items).length
    · have hx : (slL items)[k]? = some (slL items)[k] := List.getElem?_eq_getElem hkl
      obtain ⟨f1, f2⟩ := g1 k hkl _ hx
      have hxok := hok.2 _ (List.mem_of_getElem? hx)
      have hrs : ∀ o, stepN (slL slots) (slL inputs) st (slL items)[k] = o → runN (slL slots) (slL inputs) [] ((slL items).take (k + 1)) = o := fun o ho => by
        rw [List.take_add_one, hx]
        simp only [Option.toList_some]
        rw [runN_snoc, hr, Option.bind_some, ho]
      have hb := (high_bound _ _ rfl (okL_take (k := k) g1))
      simp at hb
      refine eval_round hi hit kp.next hst (by omega) p hx hxok f1 (by omega) _ (fun a2 h3 st2 hs2 p2 k2 => ?_) (fun h3 hs2 k2 => ?_)
      · rw [loopPost_normal]
        refine ⟨_, ?_, k + 1, a2, st2, by omega, rfl, hrs _ hs2, stepN_ok hs.2 hxok hst hs2, p2, ?_, rfl⟩
        · omega
        · exact kp.trans k2 (fun y hy hl => absurd hl (by omega))
      · try simp -dsimp -implicitDefEqProofs only [↓later_1, ↓later_2, ↓later_3, obind_some, ↓Split_true, ↓Split_false, ↓run_pCond, ↓run_pCond_unkb, ↓run_pGuardT, ↓run_pGuardF, ↓run_pGuard_unkb, ↓run_pGuardST, ↓run_pGuardSF, ↓pGuard_tup, ↓pGuardS_tup, ↓run_pPick, ↓run_pIdx, ↓run_pExtract0, ↓run_pExtractS, ↓pJoin_eq, nth_zero, nth_cons, exitQ_normal, exitQ_exit, exitQ_ret, frOf_cons, ↓reduceIte, Nat.reduceEqDiff, loopPost_exit, loopPost_ret, pLen_str, pLen_isl, pLen_gsl, pLen_sl, pLen_nils, pLen_eml, pLen_array, pLen_slAV, pConv_int, pConv_str, pBox_true, pBox_false, pAlloc_eq, cells_agg, fits_agg, pNil_ptr, pNil_iptr, pNil_fn, pFieldAddr_ptr, pFieldAddr_iptr, pField_agg, pCells_zero, pCells_succ, pCells_some, Nat.reduceAdd, Nat.reduceLeDiff, Nat.le_refl, pLoad_iptr, pLoad_push, Nat.zero_add, Nat.add_zero, List.drop_zero, List.drop_succ_cons, List.length_cons, List.length_nil, List.take_succ_cons, List.take_zero, true_and, and_true, binA_int_eql, binA_int_neq, binA_int_lss, binA_int_leq, binA_int_gtr, binA_int_geq, binA_int_add, binA_int_sub, binA_int_mul, binA_int_and, binA_int_or, binA_int_xor, binA_str_eql, binA_str_neq, binA_bool_eql, binA_bool_neq, binA_ptr_eql_nil, binA_ptr_neq_nil, binA_iptr_eql_nil, binA_iptr_neq_nil, binA_nil_eql_nil, binA_nil_neq_nil, unA_not, unA_not_unkb, unA_neg, Bool.not_true, Bool.not_false, false_implies, true_implies, eq_self]
        have hrn := hrs _ hs2
        have hall : runN (slL slots) (slL inputs) [] (slL items) = none := by
          have := runN_append (slL slots) (slL inputs) ((slL items).take (k + 1)) ((slL items).drop (k + 1)) []
          rw [List.take_append_drop, hrn] at this
          exact this
        rw [he, hall]
        exact ⟨rfl, kG.trans (kp.trans k2 (fun y hy hl => absurd hl (by omega))) (fun _ _ h => h)⟩
    · have hke : k = (slL items).length := by omega
      subst hke
      rw [List.take_length] at *
      apply calc_Eval_loop5
      have d0 : decide (((slL items).length : Int) < ((slL items).length : Int)) = false := decide_eq_false (by omega)
      try simp -dsimp -implicitDefEqProofs only [↓later_1, ↓later_2, ↓later_3, obind_some, ↓Split_true, ↓Split_false, ↓run_pCond, ↓run_pCond_unkb, ↓run_pGuardT, ↓run_pGuardF, ↓run_pGuard_unkb, ↓run_pGuardST, ↓run_pGuardSF, ↓pGuard_tup, ↓pGuardS_tup, ↓run_pPick, ↓run_pIdx, ↓run_pExtract0, ↓run_pExtractS, ↓pJoin_eq, nth_zero, nth_cons, exitQ_normal, exitQ_exit, exitQ_ret, frOf_cons, ↓reduceIte, Nat.reduceEqDiff, loopPost_exit, loopPost_ret, pLen_str, pLen_isl, pLen_gsl, pLen_sl, pLen_nils, pLen_eml, pLen_array, pLen_slAV, pConv_int, pConv_str, pBox_true, pBox_false, pAlloc_eq, cells_agg, fits_agg, pNil_ptr, pNil_iptr, pNil_fn, pFieldAddr_ptr, pFieldAddr_iptr, pField_agg, pCells_zero, pCells_succ, pCells_some, Nat.reduceAdd, Nat.reduceLeDiff, Nat.le_refl, pLoad_iptr, pLoad_push, Nat.zero_add, Nat.add_zero, List.drop_zero, List.drop_succ_cons, List.length_cons, List.length_nil, List.take_succ_cons, List.take_zero, true_and, and_true, binA_int_eql, binA_int_neq, binA_int_lss, binA_int_leq, binA_int_gtr, binA_int_geq, binA_int_add, binA_int_sub, binA_int_mul, binA_int_and, binA_int_or, binA_int_xor, binA_str_eql, binA_str_neq, binA_bool_eql, binA_bool_neq, binA_ptr_eql_nil, binA_ptr_neq_nil, binA_iptr_eql_nil, binA_iptr_neq_nil, binA_nil_eql_nil, binA_nil_neq_nil, unA_not, unA_not_unkb, unA_neg, Bool.not_true, Bool.not_false, false_implies, true_implies, eq_self, d0]
      rw [he, hr]
      match st, hlen, p with
      | [v], _, p =>
        refine StkAt.get (k := 0) (v := v) p (by simp) _ ?_
        try simp -dsimp -implicitDefEqProofs only [↓later_1, ↓later_2, ↓later_3, obind_some, ↓Split_true, ↓Split_false, ↓run_pCond, ↓run_pCond_unkb, ↓run_pGuardT, ↓run_pGuardF, ↓run_pGuard_unkb, ↓run_pGuardST, ↓run_pGuardSF, ↓pGuard_tup, ↓pGuardS_tup, ↓run_pPick, ↓run_pIdx, ↓run_pExtract0, ↓run_pExtractS, ↓pJoin_eq, nth_zero, nth_cons, exitQ_normal, exitQ_exit, exitQ_ret, frOf_cons, ↓reduceIte, Nat.reduceEqDiff, loopPost_exit, loopPost_ret, pLen_str, pLen_isl, pLen_gsl, pLen_sl, pLen_nils, pLen_eml, pLen_array, pLen_slAV, pConv_int, pConv_str, pBox_true, pBox_false, pAlloc_eq, cells_agg, fits_agg, pNil_ptr, pNil_iptr, pNil_fn, pFieldAddr_ptr, pFieldAddr_iptr, pField_agg, pCells_zero, pCells_succ, pCells_some, Nat.reduceAdd, Nat.reduceLeDiff, Nat.le_refl, pLoad_iptr, pLoad_push, Nat.zero_add, Nat.add_zero, List.drop_zero, List.drop_succ_cons, List.length_cons, List.length_nil, List.take_succ_cons, List.take_zero, true_and, and_true, binA_int_eql, binA_int_neq, binA_int_lss, binA_int_leq, binA_int_gtr, binA_int_geq, binA_int_add, binA_int_sub, binA_int_mul, binA_int_and, binA_int_or, binA_int_xor, binA_str_eql, binA_str_neq, binA_bool_eql, binA_bool_neq, binA_ptr_eql_nil, binA_ptr_neq_nil, binA_iptr_eql_nil, binA_iptr_neq_nil, binA_nil_eql_nil, binA_nil_neq_nil, unA_not, unA_not_unkb, unA_neg, Bool.not_true, Bool.not_false, false_implies, true_implies, eq_self]
        exact ⟨rfl, kG.trans kp (fun _ _ h => h)⟩
      | [], hlen, _ => simp at hlen; omega
      | v :: w :: r, hlen, _ => simp at hlen; omega

end Go.Proofs.Ytkmehngemidiiaa
