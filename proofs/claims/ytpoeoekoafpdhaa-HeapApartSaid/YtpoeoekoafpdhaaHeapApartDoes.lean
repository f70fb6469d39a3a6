/- HeapApart: what is put into a cell is there, and in no other one. -/
import Derived.Test.YtpoeoekoafpdhaaHeapOwnDoes
set_option linter.unusedVariables false
set_option linter.unusedSimpArgs false
set_option maxRecDepth 8000
namespace Go.Proofs.Ytpoeoekoafpdhaa
open Go.Abs
attribute [local congr] cg_obind cg_pNil cg_pFieldAddr cg_pField cg_pCells cg_pLoad cg_pStore cg_pIndexAddr cg_pIndexStr cg_pSliceStr cg_pSliceSl cg_pLen cg_pConv cg_pExtract cg_pAlloc cg_pBox cg_pBuild cg_pBuildSl cg_pMakeSl cg_pAppend cg_pCond cg_pGuard cg_pGuardS cg_pPick cg_pJoin cg_pIdx cg_CallsA cg_WP cg_pCallF

theorem st0_few : Few st0 := fun k t ht => by simp [st0] at ht
theorem makeW_few {W : St} (hf : Few W) (th s cl c : Int) : Few (makeW W th s cl c) := by
  unfold makeW
  cases hr : makeRW W th c with
  | inl e => exact hf
  | inr k =>
    obtain ⟨-, -, -, -, h1, h2⟩ := makeRW_inr hr
    intro j t ht
    simp only [setL] at ht
    split at ht
    · rcases List.mem_append.1 ht with ht | ht
      · exact hf k t ht
      · simp only [List.mem_singleton] at ht
        subst ht; simp; omega
    · exact hf j t ht
theorem cellW_inr {W : St} {r : Nat} {at_ : Int} {t : Vw} {q : Nat} (h : cellW W r at_ = .inr (t, q)) : 1 ≤ r ∧ r ≤ 64 ∧ (W ((r - 1) / 16))[(r - 1) % 16]? = some t ∧ q < t.vals.length ∧ at_ = q := by
  unfold cellW at h
  cases hf : findW W r with
  | none => rw [hf] at h; cases h
  | some u =>
    rw [hf] at h
    simp only at h
    split at h
    · cases h
    · cases h
      unfold findW at hf
      split at hf
      · cases hf
      · exact ⟨by omega, by omega, hf, by omega, by omega⟩
theorem cellW_inl {W : St} {r : Nat} {at_ : Int} {e : Int} (h : cellW W r at_ = .inl e) : e = 2 ∨ e = 3 := by
  unfold cellW at h
  cases hf : findW W r with
  | none => rw [hf] at h; cases h; exact Or.inl rfl
  | some u =>
    rw [hf] at h
    simp only at h
    split at h
    · cases h; exact Or.inr rfl
    · cases h
theorem setW_few {W : St} (hf : Few W) (r : Nat) (at_ : Int) (v : Nat) : Few (setW W r at_ v) := by
  unfold setW
  cases hc : cellW W r at_ with
  | inl e => exact hf
  | inr tq =>
    obtain ⟨t, q⟩ := tq
    obtain ⟨-, -, ht, -, -⟩ := cellW_inr hc
    intro j u hu
    simp only [setL] at hu
    split at hu
    · rcases List.mem_or_eq_of_mem_set hu with hu | rfl
      · exact hf _ u hu
      · have := hf _ t (List.mem_of_getElem? ht)
        simpa using this
    · exact hf j u hu

/-- What is found behind a setting. -/
theorem findW_setW (W : St) (ref : Nat) (at_ : Int) (v r : Nat) : findW (setW W ref at_ v) r = match cellW W ref at_ with | .inl _ => findW W r | .inr (t, q) => if r = ref then some { t with vals := t.vals.set q v } else findW W r := by
  unfold setW
  cases hc : cellW W ref at_ with
  | inl e => rfl
  | inr tq =>
    obtain ⟨t, q⟩ := tq
    obtain ⟨h1, h64, ht, -, -⟩ := cellW_inr hc
    simp only
    unfold findW
    split
    · rename_i hr
      rw [if_neg (by omega)]
    · rename_i hr
      simp only [setL]
      split
      · rename_i e
        rw [e]
        by_cases hrr : r = ref
        · subst hrr
          rw [if_pos rfl, List.getElem?_set]
          rw [if_pos rfl, if_pos (List.getElem?_eq_some_iff.1 ht).1]
        · rw [if_neg hrr, List.getElem?_set, if_neg (by omega)]
      · rename_i e
        rw [if_neg]
        rintro rfl; exact e rfl

/-- A row of numbers that is read alone: nil, empty, or one's own. -/
def SlW (h : AHeap) (a : AV) (vs : List Nat) : Prop := (vs = [] ∧ a = .nils) ∨ ∃ lo, SlU h a vs lo
theorem SlW.len {h : AHeap} {a : AV} {vs : List Nat} (p : SlW h a vs) (K : AV → Prop) : pLen .slice a K = K (.int .i64 vs.length) := by
  rcases p with ⟨rfl, rfl⟩ | ⟨lo, p⟩
  · simp
  · exact p.len K
theorem SlW.get {h : AHeap} {a : AV} {vs : List Nat} (p : SlW h a vs) {k : Nat} (hk : k < vs.length) (kk : IntKind) {K : AV → Prop} (hK : K (.int .u64 ((vs.getD k 0 : Nat) : Int))) : pIndexAddr (.slice 1) a (.int kk (k : Int)) (fun v => pLoad none v h K) := by
  rcases p with ⟨rfl, rfl⟩ | ⟨lo, p⟩
  · simp at hk
  · exact p.get hk kk hK
theorem SlW.keeps {h h' : AHeap} {a : AV} {vs : List Nat} (p : SlW h a vs) (k : Keeps h h' (fun _ => False)) : SlW h' a vs := by
  rcases p with p | ⟨lo, p⟩
  · exact Or.inl p
  · exact Or.inr ⟨lo, p.keeps k (fun _ _ _ h => h)⟩

theorem apart_in {ref v r : Nat} {at_ e : Int} {ia ib ix iy : Nat} {h : AHeap} {x1 x2 y1 y2 cx cy : AV} {xs ys : List Nat} (hx : h.objs ix = some (.row 63 [x1, x2, cx])) (hy : h.objs iy = some (.row 63 [y1, y2, cy])) (sx : SlW h cx xs) (sy : SlW h cy ys)
    (hl : xs.length = ys.length) (hl2 : xs.length ≤ 16) (hv : ∀ k, k < xs.length → xs.getD k 0 = if r = ref ∧ (k : Int) = at_ ∧ e = 0 then v else ys.getD k 0) (Q : AExit → Fr → AHeap → Prop)
    (hQ : Q (.exit 4) (frOf [(1, .int .u64 ref), (2, .int .i64 at_), (3, .int .u64 v), (9, .ptr ia 0), (10, .ptr ib 0), (13, .int .i64 e), (14, .int .u64 r)]) h) :
    WP Try.prog 139 (Code.loop c_padlocklaw17_HeapApart_24) (frOf [(1, .int .u64 ref), (2, .int .i64 at_), (3, .int .u64 v), (9, .ptr ia 0), (10, .ptr ib 0), (13, .int .i64 e), (14, .int .u64 r), (15, .ptr ix 0), (17, .ptr iy 0), (109, .int .i64 xs.length), (110, .int .i64 0)]) h Q := by
  refine WP_loop mixed_ (by kernel_rfl) (fun m fr hh => ∃ k : Nat, k ≤ xs.length ∧ m = xs.length - k ∧ hh = h ∧ fr = frOf [(1, .int .u64 ref), (2, .int .i64 at_), (3, .int .u64 v), (9, .ptr ia 0), (10, .ptr ib 0), (13, .int .i64 e), (14, .int .u64 r), (15, .ptr ix 0), (17, .ptr iy 0), (109, .int .i64 xs.length), (110, .int .i64 k)]) xs.length ⟨0, by omega, by omega, rfl, rfl⟩ ?_
  rintro m fr hh ⟨k, hk, rfl, e1, rfl⟩
  subst e1
  apply padlocklaw17_HeapApart_loop24
  generalize hI : (fun (m : Nat) (fr : Fr) (hh : AHeap) => _) = I
  try simp -dsimp (disch := omega) only [↓later_1, ↓later_2, ↓later_3, obind_some, ↓Split_true, ↓Split_false, ↓run_pCond, ↓run_pCond_unkb, ↓run_pGuardT, ↓run_pGuardF, ↓run_pGuard_unkb, ↓run_pGuardST, ↓run_pGuardSF, ↓pGuard_tup, ↓pGuardS_tup, ↓run_pPick, ↓run_pIdx, ↓run_pExtract0, ↓run_pExtractS, ↓pJoin_eq, nth_zero, nth_cons, exitQ_normal, exitQ_exit, exitQ_ret, frOf_cons, ↓reduceIte, Nat.reduceEqDiff, loopPost_exit, loopPost_ret, pLen_str, pLen_isl, pLen_gsl, pLen_sl, pLen_nils, pLen_eml, pLen_array, pLen_slAV, pConv_int, pConv_str, pBox_true, pBox_false, pAlloc_eq, cells_agg, fits_agg, pNil_ptr, pNil_iptr, pNil_fn, pFieldAddr_ptr, pFieldAddr_iptr, pField_agg, pCells_zero, pCells_succ, pCells_some, Nat.reduceAdd, Nat.reduceLeDiff, Nat.le_refl, pLoad_iptr, pLoad_push, Nat.zero_add, Nat.add_zero, List.drop_zero, List.drop_succ_cons, List.length_cons, List.length_nil, List.take_succ_cons, List.take_zero, true_and, and_true, binA_int_eql, binA_int_neq, binA_int_lss, binA_int_leq, binA_int_gtr, binA_int_geq, binA_int_add, binA_int_sub, binA_int_mul, binA_int_and, binA_int_or, binA_int_xor, binA_str_eql, binA_str_neq, binA_bool_eql, binA_bool_neq, binA_ptr_eql_nil, binA_ptr_neq_nil, binA_iptr_eql_nil, binA_iptr_neq_nil, binA_nil_eql_nil, binA_nil_neq_nil, unA_not, unA_not_unkb, unA_neg, Bool.not_true, Bool.not_false, dT_lt, dF_lt, dT_le, dF_le, dT_eq, dF_eq, dT_ne, dF_ne, wrapI, wrapN, wrapB]
  refine Split_lt (fun hkl => ?_) (fun _ => ?_)
  · have hkx := hv k (by omega)
    try simp -dsimp (disch := omega) only [↓later_1, ↓later_2, ↓later_3, obind_some, ↓Split_true, ↓Split_false, ↓run_pCond, ↓run_pCond_unkb, ↓run_pGuardT, ↓run_pGuardF, ↓run_pGuard_unkb, ↓run_pGuardST, ↓run_pGuardSF, ↓pGuard_tup, ↓pGuardS_tup, ↓run_pPick, ↓run_pIdx, ↓run_pExtract0, ↓run_pExtractS, ↓pJoin_eq, nth_zero, nth_cons, exitQ_normal, exitQ_exit, exitQ_ret, frOf_cons, ↓reduceIte, Nat.reduceEqDiff, loopPost_exit, loopPost_ret, pLen_str, pLen_isl, pLen_gsl, pLen_sl, pLen_nils, pLen_eml, pLen_array, pLen_slAV, pConv_int, pConv_str, pBox_true, pBox_false, pAlloc_eq, cells_agg, fits_agg, pNil_ptr, pNil_iptr, pNil_fn, pFieldAddr_ptr, pFieldAddr_iptr, pField_agg, pCells_zero, pCells_succ, pCells_some, Nat.reduceAdd, Nat.reduceLeDiff, Nat.le_refl, pLoad_iptr, pLoad_push, Nat.zero_add, Nat.add_zero, List.drop_zero, List.drop_succ_cons, List.length_cons, List.length_nil, List.take_succ_cons, List.take_zero, true_and, and_true, binA_int_eql, binA_int_neq, binA_int_lss, binA_int_leq, binA_int_gtr, binA_int_geq, binA_int_add, binA_int_sub, binA_int_mul, binA_int_and, binA_int_or, binA_int_xor, binA_str_eql, binA_str_neq, binA_bool_eql, binA_bool_neq, binA_ptr_eql_nil, binA_ptr_neq_nil, binA_iptr_eql_nil, binA_iptr_neq_nil, binA_nil_eql_nil, binA_nil_neq_nil, unA_not, unA_not_unkb, unA_neg, Bool.not_true, Bool.not_false, dT_lt, dF_lt, dT_le, dF_le, dT_eq, dF_eq, dT_ne, dF_ne, wrapI, wrapN, wrapB, pLoad_ptr hx, pLoad_ptr hy]
    refine sy.get (by omega) _ ?_
    have fin : I (xs.length - (k + 1)) (frOf [(1, .int .u64 ref), (2, .int .i64 at_), (3, .int .u64 v), (9, .ptr ia 0), (10, .ptr ib 0), (13, .int .i64 e), (14, .int .u64 r), (15, .ptr ix 0), (17, .ptr iy 0), (109, .int .i64 xs.length), (110, .int .i64 ((k : Int) + 1))]) hh := by
      rw [← hI]; exact ⟨k + 1, by omega, rfl, rfl, rfl⟩
    by_cases c1 : r = ref ∧ (k : Int) = at_ ∧ e = 0
    · rw [if_pos c1] at hkx
      obtain ⟨c1, c2, c3⟩ := c1
      try simp -dsimp (disch := omega) only [↓later_1, ↓later_2, ↓later_3, obind_some, ↓Split_true, ↓Split_false, ↓run_pCond, ↓run_pCond_unkb, ↓run_pGuardT, ↓run_pGuardF, ↓run_pGuard_unkb, ↓run_pGuardST, ↓run_pGuardSF, ↓pGuard_tup, ↓pGuardS_tup, ↓run_pPick, ↓run_pIdx, ↓run_pExtract0, ↓run_pExtractS, ↓pJoin_eq, nth_zero, nth_cons, exitQ_normal, exitQ_exit, exitQ_ret, frOf_cons, ↓reduceIte, Nat.reduceEqDiff, loopPost_exit, loopPost_ret, pLen_str, pLen_isl, pLen_gsl, pLen_sl, pLen_nils, pLen_eml, pLen_array, pLen_slAV, pConv_int, pConv_str, pBox_true, pBox_false, pAlloc_eq, cells_agg, fits_agg, pNil_ptr, pNil_iptr, pNil_fn, pFieldAddr_ptr, pFieldAddr_iptr, pField_agg, pCells_zero, pCells_succ, pCells_some, Nat.reduceAdd, Nat.reduceLeDiff, Nat.le_refl, pLoad_iptr, pLoad_push, Nat.zero_add, Nat.add_zero, List.drop_zero, List.drop_succ_cons, List.length_cons, List.length_nil, List.take_succ_cons, List.take_zero, true_and, and_true, binA_int_eql, binA_int_neq, binA_int_lss, binA_int_leq, binA_int_gtr, binA_int_geq, binA_int_add, binA_int_sub, binA_int_mul, binA_int_and, binA_int_or, binA_int_xor, binA_str_eql, binA_str_neq, binA_bool_eql, binA_bool_neq, binA_ptr_eql_nil, binA_ptr_neq_nil, binA_iptr_eql_nil, binA_iptr_neq_nil, binA_nil_eql_nil, binA_nil_neq_nil, unA_not, unA_not_unkb, unA_neg, Bool.not_true, Bool.not_false, dT_lt, dF_lt, dT_le, dF_le, dT_eq, dF_eq, dT_ne, dF_ne, wrapI, wrapN, wrapB]
      have d1 : ((r : Int) == (ref : Int)) = true := by simp [c1]
      have d2 : ((k : Int) == at_) = true := by simp [c2]
      have d3 : (e == 0) = true := by simp [c3]
      try simp -dsimp (disch := omega) only [↓later_1, ↓later_2, ↓later_3, obind_some, ↓Split_true, ↓Split_false, ↓run_pCond, ↓run_pCond_unkb, ↓run_pGuardT, ↓run_pGuardF, ↓run_pGuard_unkb, ↓run_pGuardST, ↓run_pGuardSF, ↓pGuard_tup, ↓pGuardS_tup, ↓run_pPick, ↓run_pIdx, ↓run_pExtract0, ↓run_pExtractS, ↓pJoin_eq, nth_zero, nth_cons, exitQ_normal, exitQ_exit, exitQ_ret, frOf_cons, ↓reduceIte, Nat.reduceEqDiff, loopPost_exit, loopPost_ret, pLen_str, pLen_isl, pLen_gsl, pLen_sl, pLen_nils, pLen_eml, pLen_array, pLen_slAV, pConv_int, pConv_str, pBox_true, pBox_false, pAlloc_eq, cells_agg, fits_agg, pNil_ptr, pNil_iptr, pNil_fn, pFieldAddr_ptr, pFieldAddr_iptr, pField_agg, pCells_zero, pCells_succ, pCells_some, Nat.reduceAdd, Nat.reduceLeDiff, Nat.le_refl, pLoad_iptr, pLoad_push, Nat.zero_add, Nat.add_zero, List.drop_zero, List.drop_succ_cons, List.length_cons, List.length_nil, List.take_succ_cons, List.take_zero, true_and, and_true, binA_int_eql, binA_int_neq, binA_int_lss, binA_int_leq, binA_int_gtr, binA_int_geq, binA_int_add, binA_int_sub, binA_int_mul, binA_int_and, binA_int_or, binA_int_xor, binA_str_eql, binA_str_neq, binA_bool_eql, binA_bool_neq, binA_ptr_eql_nil, binA_ptr_neq_nil, binA_iptr_eql_nil, binA_iptr_neq_nil, binA_nil_eql_nil, binA_nil_neq_nil, unA_not, unA_not_unkb, unA_neg, Bool.not_true, Bool.not_false, dT_lt, dF_lt, dT_le, dF_le, dT_eq, dF_eq, dT_ne, dF_ne, wrapI, wrapN, wrapB, d1, d2, d3, pLoad_ptr hx]
      refine sx.get (by omega) _ ?_
      try simp -dsimp (disch := omega) only [↓later_1, ↓later_2, ↓later_3, obind_some, ↓Split_true, ↓Split_false, ↓run_pCond, ↓run_pCond_unkb, ↓run_pGuardT, ↓run_pGuardF, ↓run_pGuard_unkb, ↓run_pGuardST, ↓run_pGuardSF, ↓pGuard_tup, ↓pGuardS_tup, ↓run_pPick, ↓run_pIdx, ↓run_pExtract0, ↓run_pExtractS, ↓pJoin_eq, nth_zero, nth_cons, exitQ_normal, exitQ_exit, exitQ_ret, frOf_cons, ↓reduceIte, Nat.reduceEqDiff, loopPost_exit, loopPost_ret, pLen_str, pLen_isl, pLen_gsl, pLen_sl, pLen_nils, pLen_eml, pLen_array, pLen_slAV, pConv_int, pConv_str, pBox_true, pBox_false, pAlloc_eq, cells_agg, fits_agg, pNil_ptr, pNil_iptr, pNil_fn, pFieldAddr_ptr, pFieldAddr_iptr, pField_agg, pCells_zero, pCells_succ, pCells_some, Nat.reduceAdd, Nat.reduceLeDiff, Nat.le_refl, pLoad_iptr, pLoad_push, Nat.zero_add, Nat.add_zero, List.drop_zero, List.drop_succ_cons, List.length_cons, List.length_nil, List.take_succ_cons, List.take_zero, true_and, and_true, binA_int_eql, binA_int_neq, binA_int_lss, binA_int_leq, binA_int_gtr, binA_int_geq, binA_int_add, binA_int_sub, binA_int_mul, binA_int_and, binA_int_or, binA_int_xor, binA_str_eql, binA_str_neq, binA_bool_eql, binA_bool_neq, binA_ptr_eql_nil, binA_ptr_neq_nil, binA_iptr_eql_nil, binA_iptr_neq_nil, binA_nil_eql_nil, binA_nil_neq_nil, unA_not, unA_not_unkb, unA_neg, Bool.not_true, Bool.not_false, dT_lt, dF_lt, dT_le, dF_le, dT_eq, dF_eq, dT_ne, dF_ne, wrapI, wrapN, wrapB, hkx]
      rw [loopPost_normal]
      exact ⟨_, by omega, fin⟩
    · rw [if_neg c1] at hkx
      have go : pFieldAddr 2 (.ptr ix 0) (fun v23 => pLoad none v23 hh fun v24 => pIndexAddr (IxK.slice 1) v24 (.int .i64 (k : Int)) fun v25 => pLoad none v25 hh fun v26 =>
          obind (binA CmpK.other BinOp.neq v26 (.int .u64 ((ys.getD k 0 : Nat) : Int))) fun v27 => pCond v27 (loopPost I (xs.length - k) Q AExit.ret (frOf [(8, AV.bool false)]) hh)
            (obind (binA CmpK.other BinOp.add (.int .i64 (k : Int)) (AV.int IntKind.i64 1)) fun v28 => loopPost I (xs.length - k) Q AExit.normal (frOf [(1, .int .u64 ref), (2, .int .i64 at_), (3, .int .u64 v), (9, .ptr ia 0), (10, .ptr ib 0), (13, .int .i64 e), (14, .int .u64 r), (15, .ptr ix 0), (17, .ptr iy 0), (109, .int .i64 xs.length), (110, v28)]) hh)) := by
        try simp -dsimp (disch := omega) only [↓later_1, ↓later_2, ↓later_3, obind_some, ↓Split_true, ↓Split_false, ↓run_pCond, ↓run_pCond_unkb, ↓run_pGuardT, ↓run_pGuardF, ↓run_pGuard_unkb, ↓run_pGuardST, ↓run_pGuardSF, ↓pGuard_tup, ↓pGuardS_tup, ↓run_pPick, ↓run_pIdx, ↓run_pExtract0, ↓run_pExtractS, ↓pJoin_eq, nth_zero, nth_cons, exitQ_normal, exitQ_exit, exitQ_ret, frOf_cons, ↓reduceIte, Nat.reduceEqDiff, loopPost_exit, loopPost_ret, pLen_str, pLen_isl, pLen_gsl, pLen_sl, pLen_nils, pLen_eml, pLen_array, pLen_slAV, pConv_int, pConv_str, pBox_true, pBox_false, pAlloc_eq, cells_agg, fits_agg, pNil_ptr, pNil_iptr, pNil_fn, pFieldAddr_ptr, pFieldAddr_iptr, pField_agg, pCells_zero, pCells_succ, pCells_some, Nat.reduceAdd, Nat.reduceLeDiff, Nat.le_refl, pLoad_iptr, pLoad_push, Nat.zero_add, Nat.add_zero, List.drop_zero, List.drop_succ_cons, List.length_cons, List.length_nil, List.take_succ_cons, List.take_zero, true_and, and_true, binA_int_eql, binA_int_neq, binA_int_lss, binA_int_leq, binA_int_gtr, binA_int_geq, binA_int_add, binA_int_sub, binA_int_mul, binA_int_and, binA_int_or, binA_int_xor, binA_str_eql, binA_str_neq, binA_bool_eql, binA_bool_neq, binA_ptr_eql_nil, binA_ptr_neq_nil, binA_iptr_eql_nil, binA_iptr_neq_nil, binA_nil_eql_nil, binA_nil_neq_nil, unA_not, unA_not_unkb, unA_neg, Bool.not_true, Bool.not_false, dT_lt, dF_lt, dT_le, dF_le, dT_eq, dF_eq, dT_ne, dF_ne, wrapI, wrapN, wrapB, pLoad_ptr hx]
        refine sx.get (by omega) _ ?_
        try simp -dsimp (disch := omega) only [↓later_1, ↓later_2, ↓later_3, obind_some, ↓Split_true, ↓Split_false, ↓run_pCond, ↓run_pCond_unkb, ↓run_pGuardT, ↓run_pGuardF, ↓run_pGuard_unkb, ↓run_pGuardST, ↓run_pGuardSF, ↓pGuard_tup, ↓pGuardS_tup, ↓run_pPick, ↓run_pIdx, ↓run_pExtract0, ↓run_pExtractS, ↓pJoin_eq, nth_zero, nth_cons, exitQ_normal, exitQ_exit, exitQ_ret, frOf_cons, ↓reduceIte, Nat.reduceEqDiff, loopPost_exit, loopPost_ret, pLen_str, pLen_isl, pLen_gsl, pLen_sl, pLen_nils, pLen_eml, pLen_array, pLen_slAV, pConv_int, pConv_str, pBox_true, pBox_false, pAlloc_eq, cells_agg, fits_agg, pNil_ptr, pNil_iptr, pNil_fn, pFieldAddr_ptr, pFieldAddr_iptr, pField_agg, pCells_zero, pCells_succ, pCells_some, Nat.reduceAdd, Nat.reduceLeDiff, Nat.le_refl, pLoad_iptr, pLoad_push, Nat.zero_add, Nat.add_zero, List.drop_zero, List.drop_succ_cons, List.length_cons, List.length_nil, List.take_succ_cons, List.take_zero, true_and, and_true, binA_int_eql, binA_int_neq, binA_int_lss, binA_int_leq, binA_int_gtr, binA_int_geq, binA_int_add, binA_int_sub, binA_int_mul, binA_int_and, binA_int_or, binA_int_xor, binA_str_eql, binA_str_neq, binA_bool_eql, binA_bool_neq, binA_ptr_eql_nil, binA_ptr_neq_nil, binA_iptr_eql_nil, binA_iptr_neq_nil, binA_nil_eql_nil, binA_nil_neq_nil, unA_not, unA_not_unkb, unA_neg, Bool.not_true, Bool.not_false, dT_lt, dF_lt, dT_le, dF_le, dT_eq, dF_eq, dT_ne, dF_ne, wrapI, wrapN, wrapB, hkx]
        rw [loopPost_normal]
        exact ⟨_, by omega, fin⟩
      by_cases d1 : (r : Int) = ref
      · have d1' : ((r : Int) == (ref : Int)) = true := by simp [d1]
        by_cases d2 : (k : Int) = at_
        · have d2' : ((k : Int) == at_) = true := by simp [d2]
          have d3' : (e == 0) = false := by simp; intro h0; exact c1 ⟨by omega, d2, h0⟩
          try simp -dsimp (disch := omega) only [↓later_1, ↓later_2, ↓later_3, obind_some, ↓Split_true, ↓Split_false, ↓run_pCond, ↓run_pCond_unkb, ↓run_pGuardT, ↓run_pGuardF, ↓run_pGuard_unkb, ↓run_pGuardST, ↓run_pGuardSF, ↓pGuard_tup, ↓pGuardS_tup, ↓run_pPick, ↓run_pIdx, ↓run_pExtract0, ↓run_pExtractS, ↓pJoin_eq, nth_zero, nth_cons, exitQ_normal, exitQ_exit, exitQ_ret, frOf_cons, ↓reduceIte, Nat.reduceEqDiff, loopPost_exit, loopPost_ret, pLen_str, pLen_isl, pLen_gsl, pLen_sl, pLen_nils, pLen_eml, pLen_array, pLen_slAV, pConv_int, pConv_str, pBox_true, pBox_false, pAlloc_eq, cells_agg, fits_agg, pNil_ptr, pNil_iptr, pNil_fn, pFieldAddr_ptr, pFieldAddr_iptr, pField_agg, pCells_zero, pCells_succ, pCells_some, Nat.reduceAdd, Nat.reduceLeDiff, Nat.le_refl, pLoad_iptr, pLoad_push, Nat.zero_add, Nat.add_zero, List.drop_zero, List.drop_succ_cons, List.length_cons, List.length_nil, List.take_succ_cons, List.take_zero, true_and, and_true, binA_int_eql, binA_int_neq, binA_int_lss, binA_int_leq, binA_int_gtr, binA_int_geq, binA_int_add, binA_int_sub, binA_int_mul, binA_int_and, binA_int_or, binA_int_xor, binA_str_eql, binA_str_neq, binA_bool_eql, binA_bool_neq, binA_ptr_eql_nil, binA_ptr_neq_nil, binA_iptr_eql_nil, binA_iptr_neq_nil, binA_nil_eql_nil, binA_nil_neq_nil, unA_not, unA_not_unkb, unA_neg, Bool.not_true, Bool.not_false, dT_lt, dF_lt, dT_le, dF_le, dT_eq, dF_eq, dT_ne, dF_ne, wrapI, wrapN, wrapB, d1', d2', d3']
          exact go
        · have d2' : ((k : Int) == at_) = false := by simp [d2]
          try simp -dsimp (disch := omega) only [↓later_1, ↓later_2, ↓later_3, obind_some, ↓Split_true, ↓Split_false, ↓run_pCond, ↓run_pCond_unkb, ↓run_pGuardT, ↓run_pGuardF, ↓run_pGuard_unkb, ↓run_pGuardST, ↓run_pGuardSF, ↓pGuard_tup, ↓pGuardS_tup, ↓run_pPick, ↓run_pIdx, ↓run_pExtract0, ↓run_pExtractS, ↓pJoin_eq, nth_zero, nth_cons, exitQ_normal, exitQ_exit, exitQ_ret, frOf_cons, ↓reduceIte, Nat.reduceEqDiff, loopPost_exit, loopPost_ret, pLen_str, pLen_isl, pLen_gsl, pLen_sl, pLen_nils, pLen_eml, pLen_array, pLen_slAV, pConv_int, pConv_str, pBox_true, pBox_false, pAlloc_eq, cells_agg, fits_agg, pNil_ptr, pNil_iptr, pNil_fn, pFieldAddr_ptr, pFieldAddr_iptr, pField_agg, pCells_zero, pCells_succ, pCells_some, Nat.reduceAdd, Nat.reduceLeDiff, Nat.le_refl, pLoad_iptr, pLoad_push, Nat.zero_add, Nat.add_zero, List.drop_zero, List.drop_succ_cons, List.length_cons, List.length_nil, List.take_succ_cons, List.take_zero, true_and, and_true, binA_int_eql, binA_int_neq, binA_int_lss, binA_int_leq, binA_int_gtr, binA_int_geq, binA_int_add, binA_int_sub, binA_int_mul, binA_int_and, binA_int_or, binA_int_xor, binA_str_eql, binA_str_neq, binA_bool_eql, binA_bool_neq, binA_ptr_eql_nil, binA_ptr_neq_nil, binA_iptr_eql_nil, binA_iptr_neq_nil, binA_nil_eql_nil, binA_nil_neq_nil, unA_not, unA_not_unkb, unA_neg, Bool.not_true, Bool.not_false, dT_lt, dF_lt, dT_le, dF_le, dT_eq, dF_eq, dT_ne, dF_ne, wrapI, wrapN, wrapB, d1', d2']
          exact go
      · have d1' : ((r : Int) == (ref : Int)) = false := by simp; omega
        try simp -dsimp (disch := omega) only [↓later_1, ↓later_2, ↓later_3, obind_some, ↓Split_true, ↓Split_false, ↓run_pCond, ↓run_pCond_unkb, ↓run_pGuardT, ↓run_pGuardF, ↓run_pGuard_unkb, ↓run_pGuardST, ↓run_pGuardSF, ↓pGuard_tup, ↓pGuardS_tup, ↓run_pPick, ↓run_pIdx, ↓run_pExtract0, ↓run_pExtractS, ↓pJoin_eq, nth_zero, nth_cons, exitQ_normal, exitQ_exit, exitQ_ret, frOf_cons, ↓reduceIte, Nat.reduceEqDiff, loopPost_exit, loopPost_ret, pLen_str, pLen_isl, pLen_gsl, pLen_sl, pLen_nils, pLen_eml, pLen_array, pLen_slAV, pConv_int, pConv_str, pBox_true, pBox_false, pAlloc_eq, cells_agg, fits_agg, pNil_ptr, pNil_iptr, pNil_fn, pFieldAddr_ptr, pFieldAddr_iptr, pField_agg, pCells_zero, pCells_succ, pCells_some, Nat.reduceAdd, Nat.reduceLeDiff, Nat.le_refl, pLoad_iptr, pLoad_push, Nat.zero_add, Nat.add_zero, List.drop_zero, List.drop_succ_cons, List.length_cons, List.length_nil, List.take_succ_cons, List.take_zero, true_and, and_true, binA_int_eql, binA_int_neq, binA_int_lss, binA_int_leq, binA_int_gtr, binA_int_geq, binA_int_add, binA_int_sub, binA_int_mul, binA_int_and, binA_int_or, binA_int_xor, binA_str_eql, binA_str_neq, binA_bool_eql, binA_bool_neq, binA_ptr_eql_nil, binA_ptr_neq_nil, binA_iptr_eql_nil, binA_iptr_neq_nil, binA_nil_eql_nil, binA_nil_neq_nil, unA_not, unA_not_unkb, unA_neg, Bool.not_true, Bool.not_false, dT_lt, dF_lt, dT_le, dF_le, dT_eq, dF_eq, dT_ne, dF_ne, wrapI, wrapN, wrapB, d1']
        exact go
  · try simp -dsimp (disch := omega) only [↓later_1, ↓later_2, ↓later_3, obind_some, ↓Split_true, ↓Split_false, ↓run_pCond, ↓run_pCond_unkb, ↓run_pGuardT, ↓run_pGuardF, ↓run_pGuard_unkb, ↓run_pGuardST, ↓run_pGuardSF, ↓pGuard_tup, ↓pGuardS_tup, ↓run_pPick, ↓run_pIdx, ↓run_pExtract0, ↓run_pExtractS, ↓pJoin_eq, nth_zero, nth_cons, exitQ_normal, exitQ_exit, exitQ_ret, frOf_cons, ↓reduceIte, Nat.reduceEqDiff, loopPost_exit, loopPost_ret, pLen_str, pLen_isl, pLen_gsl, pLen_sl, pLen_nils, pLen_eml, pLen_array, pLen_slAV, pConv_int, pConv_str, pBox_true, pBox_false, pAlloc_eq, cells_agg, fits_agg, pNil_ptr, pNil_iptr, pNil_fn, pFieldAddr_ptr, pFieldAddr_iptr, pField_agg, pCells_zero, pCells_succ, pCells_some, Nat.reduceAdd, Nat.reduceLeDiff, Nat.le_refl, pLoad_iptr, pLoad_push, Nat.zero_add, Nat.add_zero, List.drop_zero, List.drop_succ_cons, List.length_cons, List.length_nil, List.take_succ_cons, List.take_zero, true_and, and_true, binA_int_eql, binA_int_neq, binA_int_lss, binA_int_leq, binA_int_gtr, binA_int_geq, binA_int_add, binA_int_sub, binA_int_mul, binA_int_and, binA_int_or, binA_int_xor, binA_str_eql, binA_str_neq, binA_bool_eql, binA_bool_neq, binA_ptr_eql_nil, binA_ptr_neq_nil, binA_iptr_eql_nil, binA_iptr_neq_nil, binA_nil_eql_nil, binA_nil_neq_nil, unA_not, unA_not_unkb, unA_neg, Bool.not_true, Bool.not_false, dT_lt, dF_lt, dT_le, dF_le, dT_eq, dF_eq, dT_ne, dF_ne, wrapI, wrapN, wrapB]
    exact hQ

theorem apart_things {ref v : Nat} {at_ : Int} {ia ib : Nat} {Fa Fb : Nat → Prop} {Ga Gb : AV} {W : St} (hf : Few W) (h : AHeap) (pa : HpW h Fa ia (setW W ref at_ v) Ga) (pb : HpW h Fb ib W Gb) (Q : AExit → Fr → AHeap → Prop)
    (hQ : ∀ h2, Q (.exit 2) (frOf []) h2) :
    WP Try.prog 139 (Code.loop c_padlocklaw17_HeapApart_17) (frOf [(1, .int .u64 ref), (2, .int .i64 at_), (3, .int .u64 v), (9, .ptr ia 0), (10, .ptr ib 0), (13, .int .i64 (setV W ref at_)), (14, .int .u64 0)]) h Q := by
  refine WP_loop mixed_ (by kernel_rfl) (fun m fr hh => ∃ k : Nat, k ≤ 70 ∧ m = 70 - k ∧ HpW hh Fa ia (setW W ref at_ v) Ga ∧ HpW hh Fb ib W Gb ∧ fr = frOf [(1, .int .u64 ref), (2, .int .i64 at_), (3, .int .u64 v), (9, .ptr ia 0), (10, .ptr ib 0), (13, .int .i64 (setV W ref at_)), (14, .int .u64 k)]) 70 ⟨0, by omega, by omega, pa, pb, rfl⟩ ?_
  clear pa pb
  rintro m fr hh ⟨k, hk, rfl, pa, pb, rfl⟩
  apply padlocklaw17_HeapApart_loop17
  generalize hI : (fun (m : Nat) (fr : Fr) (hh : AHeap) => _) = I
  try simp -dsimp (disch := omega) only [↓later_1, ↓later_2, ↓later_3, obind_some, ↓Split_true, ↓Split_false, ↓run_pCond, ↓run_pCond_unkb, ↓run_pGuardT, ↓run_pGuardF, ↓run_pGuard_unkb, ↓run_pGuardST, ↓run_pGuardSF, ↓pGuard_tup, ↓pGuardS_tup, ↓run_pPick, ↓run_pIdx, ↓run_pExtract0, ↓run_pExtractS, ↓pJoin_eq, nth_zero, nth_cons, exitQ_normal, exitQ_exit, exitQ_ret, frOf_cons, ↓reduceIte, Nat.reduceEqDiff, loopPost_exit, loopPost_ret, pLen_str, pLen_isl, pLen_gsl, pLen_sl, pLen_nils, pLen_eml, pLen_array, pLen_slAV, pConv_int, pConv_str, pBox_true, pBox_false, pAlloc_eq, cells_agg, fits_agg, pNil_ptr, pNil_iptr, pNil_fn, pFieldAddr_ptr, pFieldAddr_iptr, pField_agg, pCells_zero, pCells_succ, pCells_some, Nat.reduceAdd, Nat.reduceLeDiff, Nat.le_refl, pLoad_iptr, pLoad_push, Nat.zero_add, Nat.add_zero, List.drop_zero, List.drop_succ_cons, List.length_cons, List.length_nil, List.take_succ_cons, List.take_zero, true_and, and_true, binA_int_eql, binA_int_neq, binA_int_lss, binA_int_leq, binA_int_gtr, binA_int_geq, binA_int_add, binA_int_sub, binA_int_mul, binA_int_and, binA_int_or, binA_int_xor, binA_str_eql, binA_str_neq, binA_bool_eql, binA_bool_neq, binA_ptr_eql_nil, binA_ptr_neq_nil, binA_iptr_eql_nil, binA_iptr_neq_nil, binA_nil_eql_nil, binA_nil_neq_nil, unA_not, unA_not_unkb, unA_neg, Bool.not_true, Bool.not_false, dT_lt, dF_lt, dT_le, dF_le, dT_eq, dF_eq, dT_ne, dF_ne, wrapI, wrapN, wrapB]
  refine Split_lt (fun hkl => ?_) (fun _ => ?_)
  · try simp -dsimp (disch := omega) only [↓later_1, ↓later_2, ↓later_3, obind_some, ↓Split_true, ↓Split_false, ↓run_pCond, ↓run_pCond_unkb, ↓run_pGuardT, ↓run_pGuardF, ↓run_pGuard_unkb, ↓run_pGuardST, ↓run_pGuardSF, ↓pGuard_tup, ↓pGuardS_tup, ↓run_pPick, ↓run_pIdx, ↓run_pExtract0, ↓run_pExtractS, ↓pJoin_eq, nth_zero, nth_cons, exitQ_normal, exitQ_exit, exitQ_ret, frOf_cons, ↓reduceIte, Nat.reduceEqDiff, loopPost_exit, loopPost_ret, pLen_str, pLen_isl, pLen_gsl, pLen_sl, pLen_nils, pLen_eml, pLen_array, pLen_slAV, pConv_int, pConv_str, pBox_true, pBox_false, pAlloc_eq, cells_agg, fits_agg, pNil_ptr, pNil_iptr, pNil_fn, pFieldAddr_ptr, pFieldAddr_iptr, pField_agg, pCells_zero, pCells_succ, pCells_some, Nat.reduceAdd, Nat.reduceLeDiff, Nat.le_refl, pLoad_iptr, pLoad_push, Nat.zero_add, Nat.add_zero, List.drop_zero, List.drop_succ_cons, List.length_cons, List.length_nil, List.take_succ_cons, List.take_zero, true_and, and_true, binA_int_eql, binA_int_neq, binA_int_lss, binA_int_leq, binA_int_gtr, binA_int_geq, binA_int_add, binA_int_sub, binA_int_mul, binA_int_and, binA_int_or, binA_int_xor, binA_str_eql, binA_str_neq, binA_bool_eql, binA_bool_neq, binA_ptr_eql_nil, binA_ptr_neq_nil, binA_iptr_eql_nil, binA_iptr_neq_nil, binA_nil_eql_nil, binA_nil_neq_nil, unA_not, unA_not_unkb, unA_neg, Bool.not_true, Bool.not_false, dT_lt, dF_lt, dT_le, dF_le, dT_eq, dF_eq, dT_ne, dF_ne, wrapI, wrapN, wrapB]
    refine (heap_Thing_W pa (setW_few hf _ _ _) k (by omega)).mono ?_
    rintro vx h3 ⟨tx, k3⟩
    have hx : ∃ (sx : Bool) (cx ax bx : AV) (xs : List Nat), vx = .tup [.agg [ax, bx, cx], .bool sx] ∧ SlW h3 cx xs ∧ (findW (setW W ref at_ v) k = none → sx = false ∧ xs = []) ∧ (∀ t, findW (setW W ref at_ v) k = some t → sx = true ∧ xs = t.vals) := by
      unfold thingOk at tx
      cases hfx : findW (setW W ref at_ v) k with
      | none => rw [hfx] at tx; exact ⟨_, _, _, _, [], tx, Or.inl ⟨rfl, rfl⟩, fun _ => ⟨rfl, rfl⟩, by simp⟩
      | some t =>
        rw [hfx] at tx
        obtain ⟨c, rfl, hc⟩ := tx
        exact ⟨_, _, _, _, t.vals, rfl, Or.inr ⟨_, hc⟩, by simp, fun t' ht' => by cases ht'; exact ⟨rfl, rfl⟩⟩
    obtain ⟨bx, cx, a1, a2, xs, rfl, sx, nx, fx⟩ := hx
    try simp -dsimp (disch := omega) only [↓later_1, ↓later_2, ↓later_3, obind_some, ↓Split_true, ↓Split_false, ↓run_pCond, ↓run_pCond_unkb, ↓run_pGuardT, ↓run_pGuardF, ↓run_pGuard_unkb, ↓run_pGuardST, ↓run_pGuardSF, ↓pGuard_tup, ↓pGuardS_tup, ↓run_pPick, ↓run_pIdx, ↓run_pExtract0, ↓run_pExtractS, ↓pJoin_eq, nth_zero, nth_cons, exitQ_normal, exitQ_exit, exitQ_ret, frOf_cons, ↓reduceIte, Nat.reduceEqDiff, loopPost_exit, loopPost_ret, pLen_str, pLen_isl, pLen_gsl, pLen_sl, pLen_nils, pLen_eml, pLen_array, pLen_slAV, pConv_int, pConv_str, pBox_true, pBox_false, pAlloc_eq, cells_agg, fits_agg, pNil_ptr, pNil_iptr, pNil_fn, pFieldAddr_ptr, pFieldAddr_iptr, pField_agg, pCells_zero, pCells_succ, pCells_some, Nat.reduceAdd, Nat.reduceLeDiff, Nat.le_refl, pLoad_iptr, pLoad_push, Nat.zero_add, Nat.add_zero, List.drop_zero, List.drop_succ_cons, List.length_cons, List.length_nil, List.take_succ_cons, List.take_zero, true_and, and_true, binA_int_eql, binA_int_neq, binA_int_lss, binA_int_leq, binA_int_gtr, binA_int_geq, binA_int_add, binA_int_sub, binA_int_mul, binA_int_and, binA_int_or, binA_int_xor, binA_str_eql, binA_str_neq, binA_bool_eql, binA_bool_neq, binA_ptr_eql_nil, binA_ptr_neq_nil, binA_iptr_eql_nil, binA_iptr_neq_nil, binA_nil_eql_nil, binA_nil_neq_nil, unA_not, unA_not_unkb, unA_neg, Bool.not_true, Bool.not_false, dT_lt, dF_lt, dT_le, dF_le, dT_eq, dF_eq, dT_ne, dF_ne, wrapI, wrapN, wrapB]
    rw [pStore_push (by rfl) (by rfl)]
    have kA := Keeps.push h3 (.row 63 [a1, a2, cx])
    have pb3 := (pb.keeps k3 (fun _ _ h => h)).keeps kA (fun _ _ h => h)
    refine (heap_Thing_W pb3 hf k (by omega)).mono ?_
    rintro vy h5 ⟨ty, k5⟩
    have hy : ∃ (sy : Bool) (cy ay bz : AV) (ys : List Nat), vy = .tup [.agg [ay, bz, cy], .bool sy] ∧ SlW h5 cy ys ∧ (findW W k = none → sy = false ∧ ys = []) ∧ (∀ t, findW W k = some t → sy = true ∧ ys = t.vals) := by
      unfold thingOk at ty
      cases hfx : findW W k with
      | none => rw [hfx] at ty; exact ⟨_, _, _, _, [], ty, Or.inl ⟨rfl, rfl⟩, fun _ => ⟨rfl, rfl⟩, by simp⟩
      | some t =>
        rw [hfx] at ty
        obtain ⟨c, rfl, hc⟩ := ty
        exact ⟨_, _, _, _, t.vals, rfl, Or.inr ⟨_, hc⟩, by simp, fun t' ht' => by cases ht'; exact ⟨rfl, rfl⟩⟩
    obtain ⟨by2, cy, b1, b2, ys, rfl, sy, ny, fy⟩ := hy
    have kB := Keeps.push h5 (.row 63 [b1, b2, cy])
    -- how the two stand to each other
    have rel : bx = by2 ∧ xs.length = ys.length ∧ xs.length ≤ 16 ∧ ∀ j, j < xs.length → xs.getD j 0 = if k = ref ∧ (j : Int) = at_ ∧ setV W ref at_ = 0 then v else ys.getD j 0 := by
      have few : ∀ t, findW W k = some t → t.vals.length ≤ 16 := fun t ht => by
        unfold findW at ht
        split at ht
        · cases ht
        · exact hf _ t (List.mem_of_getElem? ht)
      have same : findW (setW W ref at_ v) k = findW W k → (k = ref → setV W ref at_ ≠ 0) → bx = by2 ∧ xs.length = ys.length ∧ xs.length ≤ 16 ∧ ∀ j, j < xs.length → xs.getD j 0 = if k = ref ∧ (j : Int) = at_ ∧ setV W ref at_ = 0 then v else ys.getD j 0 := by
        intro e hne
        cases hw : findW W k with
        | none =>
          obtain ⟨rfl, rfl⟩ := nx (e.trans hw)
          obtain ⟨rfl, rfl⟩ := ny hw
          simp
        | some t =>
          obtain ⟨rfl, rfl⟩ := fx t (e.trans hw)
          obtain ⟨rfl, rfl⟩ := fy t hw
          refine ⟨rfl, rfl, few t hw, fun j hj => ?_⟩
          rw [if_neg]
          rintro ⟨h1, -, h3⟩
          exact hne h1 h3
      have hfs := findW_setW W ref at_ v k
      cases hc : cellW W ref at_ with
      | inl e =>
        rw [hc] at hfs
        refine same hfs (fun _ => ?_)
        unfold setV; rw [hc]
        rcases cellW_inl hc with rfl | rfl <;> simp
      | inr tq =>
        obtain ⟨t, q⟩ := tq
        obtain ⟨h1, h64, ht, hq, hat⟩ := cellW_inr hc
        rw [hc] at hfs
        simp only at hfs
        by_cases hkr : k = ref
        · rw [if_pos hkr] at hfs
          obtain ⟨rfl, rfl⟩ := fx _ hfs
          have hw : findW W k = some t := by unfold findW; rw [if_neg (by omega), hkr]; exact ht
          obtain ⟨rfl, rfl⟩ := fy t hw
          have := few t hw
          refine ⟨rfl, by simp, by simpa using this, fun j hj => ?_⟩
          have es : setV W ref at_ = 0 := by unfold setV; rw [hc]
          have hj' : j < t.vals.length := by simpa using hj
          subst hat
          simp only [List.getD_eq_getElem?_getD, List.getElem?_set, hkr, es, true_and, and_true]
          by_cases hjq : q = j
          · subst hjq; simp [hq]
          · rw [if_neg hjq, if_neg (by omega)]
        · rw [if_neg hkr] at hfs
          exact same hfs (fun h => absurd h hkr)
    obtain ⟨rfl, r2, r3, r4⟩ := rel
    try simp -dsimp (disch := omega) only [↓later_1, ↓later_2, ↓later_3, obind_some, ↓Split_true, ↓Split_false, ↓run_pCond, ↓run_pCond_unkb, ↓run_pGuardT, ↓run_pGuardF, ↓run_pGuard_unkb, ↓run_pGuardST, ↓run_pGuardSF, ↓pGuard_tup, ↓pGuardS_tup, ↓run_pPick, ↓run_pIdx, ↓run_pExtract0, ↓run_pExtractS, ↓pJoin_eq, nth_zero, nth_cons, exitQ_normal, exitQ_exit, exitQ_ret, frOf_cons, ↓reduceIte, Nat.reduceEqDiff, loopPost_exit, loopPost_ret, pLen_str, pLen_isl, pLen_gsl, pLen_sl, pLen_nils, pLen_eml, pLen_array, pLen_slAV, pConv_int, pConv_str, pBox_true, pBox_false, pAlloc_eq, cells_agg, fits_agg, pNil_ptr, pNil_iptr, pNil_fn, pFieldAddr_ptr, pFieldAddr_iptr, pField_agg, pCells_zero, pCells_succ, pCells_some, Nat.reduceAdd, Nat.reduceLeDiff, Nat.le_refl, pLoad_iptr, pLoad_push, Nat.zero_add, Nat.add_zero, List.drop_zero, List.drop_succ_cons, List.length_cons, List.length_nil, List.take_succ_cons, List.take_zero, true_and, and_true, binA_int_eql, binA_int_neq, binA_int_lss, binA_int_leq, binA_int_gtr, binA_int_geq, binA_int_add, binA_int_sub, binA_int_mul, binA_int_and, binA_int_or, binA_int_xor, binA_str_eql, binA_str_neq, binA_bool_eql, binA_bool_neq, binA_ptr_eql_nil, binA_ptr_neq_nil, binA_iptr_eql_nil, binA_iptr_neq_nil, binA_nil_eql_nil, binA_nil_neq_nil, unA_not, unA_not_unkb, unA_neg, Bool.not_true, Bool.not_false, dT_lt, dF_lt, dT_le, dF_le, dT_eq, dF_eq, dT_ne, dF_ne, wrapI, wrapN, wrapB]
    rw [pStore_push (by rfl) (by rfl)]
    have d1 : (bx == bx) = true := by simp
    have hxl : (h5.push (.row 63 [b1, b2, cy])).objs h3.next = some (.row 63 [a1, a2, cx]) := by
      have hn := k5.next
      simp at hn
      rw [objs_push_lt (by omega), k5.objs h3.next (by simp) (fun h => h)]; simp
    have hyl : (h5.push (.row 63 [b1, b2, cy])).objs h5.next = some (.row 63 [b1, b2, cy]) := by simp
    have sx2 := ((sx.keeps kA).keeps k5).keeps kB
    have sy2 := sy.keeps kB
    try simp -dsimp (disch := omega) only [↓later_1, ↓later_2, ↓later_3, obind_some, ↓Split_true, ↓Split_false, ↓run_pCond, ↓run_pCond_unkb, ↓run_pGuardT, ↓run_pGuardF, ↓run_pGuard_unkb, ↓run_pGuardST, ↓run_pGuardSF, ↓pGuard_tup, ↓pGuardS_tup, ↓run_pPick, ↓run_pIdx, ↓run_pExtract0, ↓run_pExtractS, ↓pJoin_eq, nth_zero, nth_cons, exitQ_normal, exitQ_exit, exitQ_ret, frOf_cons, ↓reduceIte, Nat.reduceEqDiff, loopPost_exit, loopPost_ret, pLen_str, pLen_isl, pLen_gsl, pLen_sl, pLen_nils, pLen_eml, pLen_array, pLen_slAV, pConv_int, pConv_str, pBox_true, pBox_false, pAlloc_eq, cells_agg, fits_agg, pNil_ptr, pNil_iptr, pNil_fn, pFieldAddr_ptr, pFieldAddr_iptr, pField_agg, pCells_zero, pCells_succ, pCells_some, Nat.reduceAdd, Nat.reduceLeDiff, Nat.le_refl, pLoad_iptr, pLoad_push, Nat.zero_add, Nat.add_zero, List.drop_zero, List.drop_succ_cons, List.length_cons, List.length_nil, List.take_succ_cons, List.take_zero, true_and, and_true, binA_int_eql, binA_int_neq, binA_int_lss, binA_int_leq, binA_int_gtr, binA_int_geq, binA_int_add, binA_int_sub, binA_int_mul, binA_int_and, binA_int_or, binA_int_xor, binA_str_eql, binA_str_neq, binA_bool_eql, binA_bool_neq, binA_ptr_eql_nil, binA_ptr_neq_nil, binA_iptr_eql_nil, binA_iptr_neq_nil, binA_nil_eql_nil, binA_nil_neq_nil, unA_not, unA_not_unkb, unA_neg, Bool.not_true, Bool.not_false, dT_lt, dF_lt, dT_le, dF_le, dT_eq, dF_eq, dT_ne, dF_ne, wrapI, wrapN, wrapB, d1, pLoad_ptr hxl, sx2.len, sy2.len, r2]
    rw [← r2]
    refine apart_in hxl hyl sx2 sy2 r2 r3 r4 _ ?_
    try simp -dsimp (disch := omega) only [↓later_1, ↓later_2, ↓later_3, obind_some, ↓Split_true, ↓Split_false, ↓run_pCond, ↓run_pCond_unkb, ↓run_pGuardT, ↓run_pGuardF, ↓run_pGuard_unkb, ↓run_pGuardST, ↓run_pGuardSF, ↓pGuard_tup, ↓pGuardS_tup, ↓run_pPick, ↓run_pIdx, ↓run_pExtract0, ↓run_pExtractS, ↓pJoin_eq, nth_zero, nth_cons, exitQ_normal, exitQ_exit, exitQ_ret, frOf_cons, ↓reduceIte, Nat.reduceEqDiff, loopPost_exit, loopPost_ret, pLen_str, pLen_isl, pLen_gsl, pLen_sl, pLen_nils, pLen_eml, pLen_array, pLen_slAV, pConv_int, pConv_str, pBox_true, pBox_false, pAlloc_eq, cells_agg, fits_agg, pNil_ptr, pNil_iptr, pNil_fn, pFieldAddr_ptr, pFieldAddr_iptr, pField_agg, pCells_zero, pCells_succ, pCells_some, Nat.reduceAdd, Nat.reduceLeDiff, Nat.le_refl, pLoad_iptr, pLoad_push, Nat.zero_add, Nat.add_zero, List.drop_zero, List.drop_succ_cons, List.length_cons, List.length_nil, List.take_succ_cons, List.take_zero, true_and, and_true, binA_int_eql, binA_int_neq, binA_int_lss, binA_int_leq, binA_int_gtr, binA_int_geq, binA_int_add, binA_int_sub, binA_int_mul, binA_int_and, binA_int_or, binA_int_xor, binA_str_eql, binA_str_neq, binA_bool_eql, binA_bool_neq, binA_ptr_eql_nil, binA_ptr_neq_nil, binA_iptr_eql_nil, binA_iptr_neq_nil, binA_nil_eql_nil, binA_nil_neq_nil, unA_not, unA_not_unkb, unA_neg, Bool.not_true, Bool.not_false, dT_lt, dF_lt, dT_le, dF_le, dT_eq, dF_eq, dT_ne, dF_ne, wrapI, wrapN, wrapB]
    rw [loopPost_normal, ← hI]
    refine ⟨70 - (k + 1), by omega, k + 1, by omega, rfl, ((pa.keeps k3 (fun _ _ h => h)).keeps kA (fun _ _ h => h) |>.keeps k5 (fun _ _ h => h)).keeps kB (fun _ _ h => h), (pb3.keeps k5 (fun _ _ h => h)).keeps kB (fun _ _ h => h), rfl⟩
  · try simp -dsimp (disch := omega) only [↓later_1, ↓later_2, ↓later_3, obind_some, ↓Split_true, ↓Split_false, ↓run_pCond, ↓run_pCond_unkb, ↓run_pGuardT, ↓run_pGuardF, ↓run_pGuard_unkb, ↓run_pGuardST, ↓run_pGuardSF, ↓pGuard_tup, ↓pGuardS_tup, ↓run_pPick, ↓run_pIdx, ↓run_pExtract0, ↓run_pExtractS, ↓pJoin_eq, nth_zero, nth_cons, exitQ_normal, exitQ_exit, exitQ_ret, frOf_cons, ↓reduceIte, Nat.reduceEqDiff, loopPost_exit, loopPost_ret, pLen_str, pLen_isl, pLen_gsl, pLen_sl, pLen_nils, pLen_eml, pLen_array, pLen_slAV, pConv_int, pConv_str, pBox_true, pBox_false, pAlloc_eq, cells_agg, fits_agg, pNil_ptr, pNil_iptr, pNil_fn, pFieldAddr_ptr, pFieldAddr_iptr, pField_agg, pCells_zero, pCells_succ, pCells_some, Nat.reduceAdd, Nat.reduceLeDiff, Nat.le_refl, pLoad_iptr, pLoad_push, Nat.zero_add, Nat.add_zero, List.drop_zero, List.drop_succ_cons, List.length_cons, List.length_nil, List.take_succ_cons, List.take_zero, true_and, and_true, binA_int_eql, binA_int_neq, binA_int_lss, binA_int_leq, binA_int_gtr, binA_int_geq, binA_int_add, binA_int_sub, binA_int_mul, binA_int_and, binA_int_or, binA_int_xor, binA_str_eql, binA_str_neq, binA_bool_eql, binA_bool_neq, binA_ptr_eql_nil, binA_ptr_neq_nil, binA_iptr_eql_nil, binA_iptr_neq_nil, binA_nil_eql_nil, binA_nil_neq_nil, unA_not, unA_not_unkb, unA_neg, Bool.not_true, Bool.not_false, dT_lt, dF_lt, dT_le, dF_le, dT_eq, dF_eq, dT_ne, dF_ne, wrapI, wrapN, wrapB]
    exact hQ _

theorem apart_script (o : Option (List Law17_Call)) (hok : ∀ x ∈ slL o, x.ok) (hl : (slL o).length ≤ 100) (a1 a2 a3 : AV) (ia ib : Nat) (h : AHeap) (Fa Fb : Nat → Prop) (Ga Gb : AV) (pa : HpW h Fa ia st0 Ga) (pb : HpW h Fb ib st0 Gb) (hd : ∀ x, Fa x → ¬ Fb x) (Q : AExit → Fr → AHeap → Prop)
    (hQ : ∀ h2 Fa Fb W, Few W → HpW h2 Fa ia W Ga → HpW h2 Fb ib W Gb → (∀ x, Fa x → ¬ Fb x) → Q (.exit 0) (frOf [(1, a1), (2, a2), (3, a3), (9, .ptr ia 0), (10, .ptr ib 0)]) h2) :
    WP Try.prog 139 (Code.loop c_padlocklaw17_HeapApart_7) (frOf [(1, a1), (2, a2), (3, a3), (9, .ptr ia 0), (10, .ptr ib 0), (28, slAV 7 Law17_Call.cells o), (29, .int .i64 ((slL o).length : Nat)), (30, .int .i64 0)]) h Q := by
  refine WP_loop mixed_ (by kernel_rfl) (fun m fr hh => ∃ (j : Nat) (Fa Fb : Nat → Prop) (W : St), j ≤ (slL o).length ∧ m = (slL o).length - j ∧ fr = frOf [(1, a1), (2, a2), (3, a3), (9, .ptr ia 0), (10, .ptr ib 0), (28, slAV 7 Law17_Call.cells o), (29, .int .i64 ((slL o).length : Nat)), (30, .int .i64 (j : Nat))] ∧
      Few W ∧ HpW hh Fa ia W Ga ∧ HpW hh Fb ib W Gb ∧ (∀ x, Fa x → ¬ Fb x)) (slL o).length ⟨0, Fa, Fb, st0, by omega, by omega, rfl, st0_few, pa, pb, hd⟩ ?_
  rintro m fr hh ⟨j, Fa, Fb, W, hj, rfl, rfl, hf, pa, pb, hd⟩
  apply padlocklaw17_HeapApart_loop7
  generalize hI : (fun (m : Nat) (fr : Fr) (hh : AHeap) => _) = I
  try simp -dsimp (disch := omega) only [↓later_1, ↓later_2, ↓later_3, obind_some, ↓Split_true, ↓Split_false, ↓run_pCond, ↓run_pCond_unkb, ↓run_pGuardT, ↓run_pGuardF, ↓run_pGuard_unkb, ↓run_pGuardST, ↓run_pGuardSF, ↓pGuard_tup, ↓pGuardS_tup, ↓run_pPick, ↓run_pIdx, ↓run_pExtract0, ↓run_pExtractS, ↓pJoin_eq, nth_zero, nth_cons, exitQ_normal, exitQ_exit, exitQ_ret, frOf_cons, ↓reduceIte, Nat.reduceEqDiff, loopPost_exit, loopPost_ret, pLen_str, pLen_isl, pLen_gsl, pLen_sl, pLen_nils, pLen_eml, pLen_array, pLen_slAV, pConv_int, pConv_str, pBox_true, pBox_false, pAlloc_eq, cells_agg, fits_agg, pNil_ptr, pNil_iptr, pNil_fn, pFieldAddr_ptr, pFieldAddr_iptr, pField_agg, pCells_zero, pCells_succ, pCells_some, Nat.reduceAdd, Nat.reduceLeDiff, Nat.le_refl, pLoad_iptr, pLoad_push, Nat.zero_add, Nat.add_zero, List.drop_zero, List.drop_succ_cons, List.length_cons, List.length_nil, List.take_succ_cons, List.take_zero, true_and, and_true, binA_int_eql, binA_int_neq, binA_int_lss, binA_int_leq, binA_int_gtr, binA_int_geq, binA_int_add, binA_int_sub, binA_int_mul, binA_int_and, binA_int_or, binA_int_xor, binA_str_eql, binA_str_neq, binA_bool_eql, binA_bool_neq, binA_ptr_eql_nil, binA_ptr_neq_nil, binA_iptr_eql_nil, binA_iptr_neq_nil, binA_nil_eql_nil, binA_nil_neq_nil, unA_not, unA_not_unkb, unA_neg, Bool.not_true, Bool.not_false, dT_lt, dF_lt, dT_le, dF_le, dT_eq, dF_eq, dT_ne, dF_ne, wrapI, wrapN, wrapB]
  refine Split_lt (fun hjl => ?_) (fun _ => ?_)
  · obtain ⟨x, hx⟩ : ∃ x, (slL o)[j]? = some x := ⟨_, List.getElem?_eq_getElem (by omega)⟩
    obtain ⟨-, -, -, -, -, hxr, hxv⟩ := hok x (List.mem_of_getElem? hx)
    unfold okN at hxr hxv
    try simp -dsimp (disch := omega) only [↓later_1, ↓later_2, ↓later_3, obind_some, ↓Split_true, ↓Split_false, ↓run_pCond, ↓run_pCond_unkb, ↓run_pGuardT, ↓run_pGuardF, ↓run_pGuard_unkb, ↓run_pGuardST, ↓run_pGuardSF, ↓pGuard_tup, ↓pGuardS_tup, ↓run_pPick, ↓run_pIdx, ↓run_pExtract0, ↓run_pExtractS, ↓pJoin_eq, nth_zero, nth_cons, exitQ_normal, exitQ_exit, exitQ_ret, frOf_cons, ↓reduceIte, Nat.reduceEqDiff, loopPost_exit, loopPost_ret, pLen_str, pLen_isl, pLen_gsl, pLen_sl, pLen_nils, pLen_eml, pLen_array, pLen_slAV, pConv_int, pConv_str, pBox_true, pBox_false, pAlloc_eq, cells_agg, fits_agg, pNil_ptr, pNil_iptr, pNil_fn, pFieldAddr_ptr, pFieldAddr_iptr, pField_agg, pCells_zero, pCells_succ, pCells_some, Nat.reduceAdd, Nat.reduceLeDiff, Nat.le_refl, pLoad_iptr, pLoad_push, Nat.zero_add, Nat.add_zero, List.drop_zero, List.drop_succ_cons, List.length_cons, List.length_nil, List.take_succ_cons, List.take_zero, true_and, and_true, binA_int_eql, binA_int_neq, binA_int_lss, binA_int_leq, binA_int_gtr, binA_int_geq, binA_int_add, binA_int_sub, binA_int_mul, binA_int_and, binA_int_or, binA_int_xor, binA_str_eql, binA_str_neq, binA_bool_eql, binA_bool_neq, binA_ptr_eql_nil, binA_ptr_neq_nil, binA_iptr_eql_nil, binA_iptr_neq_nil, binA_nil_eql_nil, binA_nil_neq_nil, unA_not, unA_not_unkb, unA_neg, Bool.not_true, Bool.not_false, dT_lt, dF_lt, dT_le, dF_le, dT_eq, dF_eq, dT_ne, dF_ne, wrapI, wrapN, wrapB, pIndexAddr_slAV hx, Law17_Call.cells]
    rw [pStore_push (by rfl) (by rfl)]
    generalize hloc : ([AV.int IntKind.i64 x.Kind, AV.int IntKind.i64 x.Thread, AV.int IntKind.i64 x.Site, AV.int IntKind.i64 x.Class, AV.int IntKind.i64 x.N, AV.int IntKind.u64 ((x.Ref : Nat) : Int), AV.int IntKind.u64 ((x.V : Nat) : Int)] : List AV) = loc
    have l0 : loc[0]? = some (.int .i64 x.Kind) := by rw [← hloc]; rfl
    have l1 : loc[1]? = some (.int .i64 x.Thread) := by rw [← hloc]; rfl
    have l2 : loc[2]? = some (.int .i64 x.Site) := by rw [← hloc]; rfl
    have l3 : loc[3]? = some (.int .i64 x.Class) := by rw [← hloc]; rfl
    have l4 : loc[4]? = some (.int .i64 x.N) := by rw [← hloc]; rfl
    have l5 : loc[5]? = some (.int .u64 ((x.Ref : Nat) : Int)) := by rw [← hloc]; rfl
    have l6 : loc[6]? = some (.int .u64 ((x.V : Nat) : Int)) := by rw [← hloc]; rfl
    have pa1 := pa.push (.row 37 loc)
    have pb1 := pb.push (.row 37 loc)
    try simp -dsimp (disch := omega) only [↓later_1, ↓later_2, ↓later_3, obind_some, ↓Split_true, ↓Split_false, ↓run_pCond, ↓run_pCond_unkb, ↓run_pGuardT, ↓run_pGuardF, ↓run_pGuard_unkb, ↓run_pGuardST, ↓run_pGuardSF, ↓pGuard_tup, ↓pGuardS_tup, ↓run_pPick, ↓run_pIdx, ↓run_pExtract0, ↓run_pExtractS, ↓pJoin_eq, nth_zero, nth_cons, exitQ_normal, exitQ_exit, exitQ_ret, frOf_cons, ↓reduceIte, Nat.reduceEqDiff, loopPost_exit, loopPost_ret, pLen_str, pLen_isl, pLen_gsl, pLen_sl, pLen_nils, pLen_eml, pLen_array, pLen_slAV, pConv_int, pConv_str, pBox_true, pBox_false, pAlloc_eq, cells_agg, fits_agg, pNil_ptr, pNil_iptr, pNil_fn, pFieldAddr_ptr, pFieldAddr_iptr, pField_agg, pCells_zero, pCells_succ, pCells_some, Nat.reduceAdd, Nat.reduceLeDiff, Nat.le_refl, pLoad_iptr, pLoad_push, Nat.zero_add, Nat.add_zero, List.drop_zero, List.drop_succ_cons, List.length_cons, List.length_nil, List.take_succ_cons, List.take_zero, true_and, and_true, binA_int_eql, binA_int_neq, binA_int_lss, binA_int_leq, binA_int_gtr, binA_int_geq, binA_int_add, binA_int_sub, binA_int_mul, binA_int_and, binA_int_or, binA_int_xor, binA_str_eql, binA_str_neq, binA_bool_eql, binA_bool_neq, binA_ptr_eql_nil, binA_ptr_neq_nil, binA_iptr_eql_nil, binA_iptr_neq_nil, binA_nil_eql_nil, binA_nil_neq_nil, unA_not, unA_not_unkb, unA_neg, Bool.not_true, Bool.not_false, dT_lt, dF_lt, dT_le, dF_le, dT_eq, dF_eq, dT_ne, dF_ne, wrapI, wrapN, wrapB, pCells_none_some l0, pCells_none_some l1, pCells_none_some l2, pCells_none_some l3, pCells_none_some l4, pCells_none_some l5, pCells_none_some l6]
    refine Split_lt (fun _ => ?_) (fun _ => ?_)
    · try simp -dsimp (disch := omega) only [↓later_1, ↓later_2, ↓later_3, obind_some, ↓Split_true, ↓Split_false, ↓run_pCond, ↓run_pCond_unkb, ↓run_pGuardT, ↓run_pGuardF, ↓run_pGuard_unkb, ↓run_pGuardST, ↓run_pGuardSF, ↓pGuard_tup, ↓pGuardS_tup, ↓run_pPick, ↓run_pIdx, ↓run_pExtract0, ↓run_pExtractS, ↓pJoin_eq, nth_zero, nth_cons, exitQ_normal, exitQ_exit, exitQ_ret, frOf_cons, ↓reduceIte, Nat.reduceEqDiff, loopPost_exit, loopPost_ret, pLen_str, pLen_isl, pLen_gsl, pLen_sl, pLen_nils, pLen_eml, pLen_array, pLen_slAV, pConv_int, pConv_str, pBox_true, pBox_false, pAlloc_eq, cells_agg, fits_agg, pNil_ptr, pNil_iptr, pNil_fn, pFieldAddr_ptr, pFieldAddr_iptr, pField_agg, pCells_zero, pCells_succ, pCells_some, Nat.reduceAdd, Nat.reduceLeDiff, Nat.le_refl, pLoad_iptr, pLoad_push, Nat.zero_add, Nat.add_zero, List.drop_zero, List.drop_succ_cons, List.length_cons, List.length_nil, List.take_succ_cons, List.take_zero, true_and, and_true, binA_int_eql, binA_int_neq, binA_int_lss, binA_int_leq, binA_int_gtr, binA_int_geq, binA_int_add, binA_int_sub, binA_int_mul, binA_int_and, binA_int_or, binA_int_xor, binA_str_eql, binA_str_neq, binA_bool_eql, binA_bool_neq, binA_ptr_eql_nil, binA_ptr_neq_nil, binA_iptr_eql_nil, binA_iptr_neq_nil, binA_nil_eql_nil, binA_nil_neq_nil, unA_not, unA_not_unkb, unA_neg, Bool.not_true, Bool.not_false, dT_lt, dF_lt, dT_le, dF_le, dT_eq, dF_eq, dT_ne, dF_ne, wrapI, wrapN, wrapB, pCells_none_some l0, pCells_none_some l1, pCells_none_some l2, pCells_none_some l3, pCells_none_some l4, pCells_none_some l5, pCells_none_some l6]
      refine (heap_Make_W pa1 x.Thread x.Site x.Class x.N).mono ?_
      rintro _ h3 ⟨rfl, Fa2, pa2, k2, hF2⟩
      have hloc3 : h3.objs hh.next = some (.row 37 loc) := by
        rw [k2.objs hh.next (by simp) (fun hx => by have := pa.lt _ hx; omega)]; simp
      have pb2 := pb1.keeps k2 (fun y hy hy2 => hd y hy2 hy)
      try simp -dsimp (disch := omega) only [↓later_1, ↓later_2, ↓later_3, obind_some, ↓Split_true, ↓Split_false, ↓run_pCond, ↓run_pCond_unkb, ↓run_pGuardT, ↓run_pGuardF, ↓run_pGuard_unkb, ↓run_pGuardST, ↓run_pGuardSF, ↓pGuard_tup, ↓pGuardS_tup, ↓run_pPick, ↓run_pIdx, ↓run_pExtract0, ↓run_pExtractS, ↓pJoin_eq, nth_zero, nth_cons, exitQ_normal, exitQ_exit, exitQ_ret, frOf_cons, ↓reduceIte, Nat.reduceEqDiff, loopPost_exit, loopPost_ret, pLen_str, pLen_isl, pLen_gsl, pLen_sl, pLen_nils, pLen_eml, pLen_array, pLen_slAV, pConv_int, pConv_str, pBox_true, pBox_false, pAlloc_eq, cells_agg, fits_agg, pNil_ptr, pNil_iptr, pNil_fn, pFieldAddr_ptr, pFieldAddr_iptr, pField_agg, pCells_zero, pCells_succ, pCells_some, Nat.reduceAdd, Nat.reduceLeDiff, Nat.le_refl, pLoad_iptr, pLoad_push, Nat.zero_add, Nat.add_zero, List.drop_zero, List.drop_succ_cons, List.length_cons, List.length_nil, List.take_succ_cons, List.take_zero, true_and, and_true, binA_int_eql, binA_int_neq, binA_int_lss, binA_int_leq, binA_int_gtr, binA_int_geq, binA_int_add, binA_int_sub, binA_int_mul, binA_int_and, binA_int_or, binA_int_xor, binA_str_eql, binA_str_neq, binA_bool_eql, binA_bool_neq, binA_ptr_eql_nil, binA_ptr_neq_nil, binA_iptr_eql_nil, binA_iptr_neq_nil, binA_nil_eql_nil, binA_nil_neq_nil, unA_not, unA_not_unkb, unA_neg, Bool.not_true, Bool.not_false, dT_lt, dF_lt, dT_le, dF_le, dT_eq, dF_eq, dT_ne, dF_ne, wrapI, wrapN, wrapB, pLoad_ptr hloc3, pCells_none_some l0, pCells_none_some l1, pCells_none_some l2, pCells_none_some l3, pCells_none_some l4, pCells_none_some l5, pCells_none_some l6]
      refine (heap_Make_W pb2 x.Thread x.Site x.Class x.N).mono ?_
      rintro _ h4 ⟨rfl, Fb3, pb3, k3, hF3⟩
      have hd2 : ∀ y, Fa2 y → ¬ Fb y := fun y hy hy2 => by
        rcases hF2 y hy with h1 | h1
        · exact hd y h1 hy2
        · have := pb.lt _ hy2; simp at h1; omega
      try simp -dsimp (disch := omega) only [↓later_1, ↓later_2, ↓later_3, obind_some, ↓Split_true, ↓Split_false, ↓run_pCond, ↓run_pCond_unkb, ↓run_pGuardT, ↓run_pGuardF, ↓run_pGuard_unkb, ↓run_pGuardST, ↓run_pGuardSF, ↓pGuard_tup, ↓pGuardS_tup, ↓run_pPick, ↓run_pIdx, ↓run_pExtract0, ↓run_pExtractS, ↓pJoin_eq, nth_zero, nth_cons, exitQ_normal, exitQ_exit, exitQ_ret, frOf_cons, ↓reduceIte, Nat.reduceEqDiff, loopPost_exit, loopPost_ret, pLen_str, pLen_isl, pLen_gsl, pLen_sl, pLen_nils, pLen_eml, pLen_array, pLen_slAV, pConv_int, pConv_str, pBox_true, pBox_false, pAlloc_eq, cells_agg, fits_agg, pNil_ptr, pNil_iptr, pNil_fn, pFieldAddr_ptr, pFieldAddr_iptr, pField_agg, pCells_zero, pCells_succ, pCells_some, Nat.reduceAdd, Nat.reduceLeDiff, Nat.le_refl, pLoad_iptr, pLoad_push, Nat.zero_add, Nat.add_zero, List.drop_zero, List.drop_succ_cons, List.length_cons, List.length_nil, List.take_succ_cons, List.take_zero, true_and, and_true, binA_int_eql, binA_int_neq, binA_int_lss, binA_int_leq, binA_int_gtr, binA_int_geq, binA_int_add, binA_int_sub, binA_int_mul, binA_int_and, binA_int_or, binA_int_xor, binA_str_eql, binA_str_neq, binA_bool_eql, binA_bool_neq, binA_ptr_eql_nil, binA_ptr_neq_nil, binA_iptr_eql_nil, binA_iptr_neq_nil, binA_nil_eql_nil, binA_nil_neq_nil, unA_not, unA_not_unkb, unA_neg, Bool.not_true, Bool.not_false, dT_lt, dF_lt, dT_le, dF_le, dT_eq, dF_eq, dT_ne, dF_ne, wrapI, wrapN, wrapB]
      rw [loopPost_normal, ← hI]
      refine ⟨_, ?_, j + 1, Fa2, Fb3, _, by omega, rfl, rfl, makeW_few hf _ _ _ _, pa2.keeps k3 (fun y hy => hd2 y hy), pb3, fun y hy hy2 => ?_⟩
      · omega
      · rcases hF3 y hy2 with h1 | h1
        · exact hd2 y hy h1
        · have := pa2.lt _ hy; omega
    · try simp -dsimp (disch := omega) only [↓later_1, ↓later_2, ↓later_3, obind_some, ↓Split_true, ↓Split_false, ↓run_pCond, ↓run_pCond_unkb, ↓run_pGuardT, ↓run_pGuardF, ↓run_pGuard_unkb, ↓run_pGuardST, ↓run_pGuardSF, ↓pGuard_tup, ↓pGuardS_tup, ↓run_pPick, ↓run_pIdx, ↓run_pExtract0, ↓run_pExtractS, ↓pJoin_eq, nth_zero, nth_cons, exitQ_normal, exitQ_exit, exitQ_ret, frOf_cons, ↓reduceIte, Nat.reduceEqDiff, loopPost_exit, loopPost_ret, pLen_str, pLen_isl, pLen_gsl, pLen_sl, pLen_nils, pLen_eml, pLen_array, pLen_slAV, pConv_int, pConv_str, pBox_true, pBox_false, pAlloc_eq, cells_agg, fits_agg, pNil_ptr, pNil_iptr, pNil_fn, pFieldAddr_ptr, pFieldAddr_iptr, pField_agg, pCells_zero, pCells_succ, pCells_some, Nat.reduceAdd, Nat.reduceLeDiff, Nat.le_refl, pLoad_iptr, pLoad_push, Nat.zero_add, Nat.add_zero, List.drop_zero, List.drop_succ_cons, List.length_cons, List.length_nil, List.take_succ_cons, List.take_zero, true_and, and_true, binA_int_eql, binA_int_neq, binA_int_lss, binA_int_leq, binA_int_gtr, binA_int_geq, binA_int_add, binA_int_sub, binA_int_mul, binA_int_and, binA_int_or, binA_int_xor, binA_str_eql, binA_str_neq, binA_bool_eql, binA_bool_neq, binA_ptr_eql_nil, binA_ptr_neq_nil, binA_iptr_eql_nil, binA_iptr_neq_nil, binA_nil_eql_nil, binA_nil_neq_nil, unA_not, unA_not_unkb, unA_neg, Bool.not_true, Bool.not_false, dT_lt, dF_lt, dT_le, dF_le, dT_eq, dF_eq, dT_ne, dF_ne, wrapI, wrapN, wrapB, pCells_none_some l0, pCells_none_some l1, pCells_none_some l2, pCells_none_some l3, pCells_none_some l4, pCells_none_some l5, pCells_none_some l6]
      refine (heap_Set_W pa1 x.Ref hxr x.N x.V).mono ?_
      rintro _ h3 ⟨rfl, pa2, k2⟩
      have hloc3 : h3.objs hh.next = some (.row 37 loc) := by
        rw [k2.objs hh.next (by simp) (fun hx => by have := pa.lt _ hx; omega)]; simp
      have pb2 := pb1.keeps k2 (fun y hy hy2 => hd y hy2 hy)
      try simp -dsimp (disch := omega) only [↓later_1, ↓later_2, ↓later_3, obind_some, ↓Split_true, ↓Split_false, ↓run_pCond, ↓run_pCond_unkb, ↓run_pGuardT, ↓run_pGuardF, ↓run_pGuard_unkb, ↓run_pGuardST, ↓run_pGuardSF, ↓pGuard_tup, ↓pGuardS_tup, ↓run_pPick, ↓run_pIdx, ↓run_pExtract0, ↓run_pExtractS, ↓pJoin_eq, nth_zero, nth_cons, exitQ_normal, exitQ_exit, exitQ_ret, frOf_cons, ↓reduceIte, Nat.reduceEqDiff, loopPost_exit, loopPost_ret, pLen_str, pLen_isl, pLen_gsl, pLen_sl, pLen_nils, pLen_eml, pLen_array, pLen_slAV, pConv_int, pConv_str, pBox_true, pBox_false, pAlloc_eq, cells_agg, fits_agg, pNil_ptr, pNil_iptr, pNil_fn, pFieldAddr_ptr, pFieldAddr_iptr, pField_agg, pCells_zero, pCells_succ, pCells_some, Nat.reduceAdd, Nat.reduceLeDiff, Nat.le_refl, pLoad_iptr, pLoad_push, Nat.zero_add, Nat.add_zero, List.drop_zero, List.drop_succ_cons, List.length_cons, List.length_nil, List.take_succ_cons, List.take_zero, true_and, and_true, binA_int_eql, binA_int_neq, binA_int_lss, binA_int_leq, binA_int_gtr, binA_int_geq, binA_int_add, binA_int_sub, binA_int_mul, binA_int_and, binA_int_or, binA_int_xor, binA_str_eql, binA_str_neq, binA_bool_eql, binA_bool_neq, binA_ptr_eql_nil, binA_ptr_neq_nil, binA_iptr_eql_nil, binA_iptr_neq_nil, binA_nil_eql_nil, binA_nil_neq_nil, unA_not, unA_not_unkb, unA_neg, Bool.not_true, Bool.not_false, dT_lt, dF_lt, dT_le, dF_le, dT_eq, dF_eq, dT_ne, dF_ne, wrapI, wrapN, wrapB, pLoad_ptr hloc3, pCells_none_some l0, pCells_none_some l1, pCells_none_some l2, pCells_none_some l3, pCells_none_some l4, pCells_none_some l5, pCells_none_some l6]
      refine (heap_Set_W pb2 x.Ref hxr x.N x.V).mono ?_
      rintro _ h4 ⟨rfl, pb3, k3⟩
      try simp -dsimp (disch := omega) only [↓later_1, ↓later_2, ↓later_3, obind_some, ↓Split_true, ↓Split_false, ↓run_pCond, ↓run_pCond_unkb, ↓run_pGuardT, ↓run_pGuardF, ↓run_pGuard_unkb, ↓run_pGuardST, ↓run_pGuardSF, ↓pGuard_tup, ↓pGuardS_tup, ↓run_pPick, ↓run_pIdx, ↓run_pExtract0, ↓run_pExtractS, ↓pJoin_eq, nth_zero, nth_cons, exitQ_normal, exitQ_exit, exitQ_ret, frOf_cons, ↓reduceIte, Nat.reduceEqDiff, loopPost_exit, loopPost_ret, pLen_str, pLen_isl, pLen_gsl, pLen_sl, pLen_nils, pLen_eml, pLen_array, pLen_slAV, pConv_int, pConv_str, pBox_true, pBox_false, pAlloc_eq, cells_agg, fits_agg, pNil_ptr, pNil_iptr, pNil_fn, pFieldAddr_ptr, pFieldAddr_iptr, pField_agg, pCells_zero, pCells_succ, pCells_some, Nat.reduceAdd, Nat.reduceLeDiff, Nat.le_refl, pLoad_iptr, pLoad_push, Nat.zero_add, Nat.add_zero, List.drop_zero, List.drop_succ_cons, List.length_cons, List.length_nil, List.take_succ_cons, List.take_zero, true_and, and_true, binA_int_eql, binA_int_neq, binA_int_lss, binA_int_leq, binA_int_gtr, binA_int_geq, binA_int_add, binA_int_sub, binA_int_mul, binA_int_and, binA_int_or, binA_int_xor, binA_str_eql, binA_str_neq, binA_bool_eql, binA_bool_neq, binA_ptr_eql_nil, binA_ptr_neq_nil, binA_iptr_eql_nil, binA_iptr_neq_nil, binA_nil_eql_nil, binA_nil_neq_nil, unA_not, unA_not_unkb, unA_neg, Bool.not_true, Bool.not_false, dT_lt, dF_lt, dT_le, dF_le, dT_eq, dF_eq, dT_ne, dF_ne, wrapI, wrapN, wrapB]
      rw [loopPost_normal, ← hI]
      refine ⟨_, ?_, j + 1, Fa, Fb, _, by omega, rfl, rfl, setW_few hf _ _ _, pa2.keeps k3 (fun y hy => hd y hy), pb3, hd⟩
      omega
  · try simp -dsimp (disch := omega) only [↓later_1, ↓later_2, ↓later_3, obind_some, ↓Split_true, ↓Split_false, ↓run_pCond, ↓run_pCond_unkb, ↓run_pGuardT, ↓run_pGuardF, ↓run_pGuard_unkb, ↓run_pGuardST, ↓run_pGuardSF, ↓pGuard_tup, ↓pGuardS_tup, ↓run_pPick, ↓run_pIdx, ↓run_pExtract0, ↓run_pExtractS, ↓pJoin_eq, nth_zero, nth_cons, exitQ_normal, exitQ_exit, exitQ_ret, frOf_cons, ↓reduceIte, Nat.reduceEqDiff, loopPost_exit, loopPost_ret, pLen_str, pLen_isl, pLen_gsl, pLen_sl, pLen_nils, pLen_eml, pLen_array, pLen_slAV, pConv_int, pConv_str, pBox_true, pBox_false, pAlloc_eq, cells_agg, fits_agg, pNil_ptr, pNil_iptr, pNil_fn, pFieldAddr_ptr, pFieldAddr_iptr, pField_agg, pCells_zero, pCells_succ, pCells_some, Nat.reduceAdd, Nat.reduceLeDiff, Nat.le_refl, pLoad_iptr, pLoad_push, Nat.zero_add, Nat.add_zero, List.drop_zero, List.drop_succ_cons, List.length_cons, List.length_nil, List.take_succ_cons, List.take_zero, true_and, and_true, binA_int_eql, binA_int_neq, binA_int_lss, binA_int_leq, binA_int_gtr, binA_int_geq, binA_int_add, binA_int_sub, binA_int_mul, binA_int_and, binA_int_or, binA_int_xor, binA_str_eql, binA_str_neq, binA_bool_eql, binA_bool_neq, binA_ptr_eql_nil, binA_ptr_neq_nil, binA_iptr_eql_nil, binA_iptr_neq_nil, binA_nil_eql_nil, binA_nil_neq_nil, unA_not, unA_not_unkb, unA_neg, Bool.not_true, Bool.not_false, dT_lt, dF_lt, dT_le, dF_le, dT_eq, dF_eq, dT_ne, dF_ne, wrapI, wrapN, wrapB]
    exact hQ hh Fa Fb W hf pa pb hd

theorem HeapApart_does (o : Option (List Law17_Call)) (hok : ∀ x ∈ slL o, x.ok) (ref : Nat) (hr : ref < 18446744073709551616) (at_ : Int) (v : Nat) (h : AHeap) :
    CallsA Try.prog 10 [slAV 7 Law17_Call.cells o, .int .u64 ref, .int .i64 at_, .int .u64 v] h (fun v _ => v = .bool true) := by
  apply padlocklaw17_HeapApart_wp
  refine (heap_alive_does h).mono ?_
  rintro _ h2 ⟨rfl, k2⟩
  try simp -dsimp (disch := omega) only [↓later_1, ↓later_2, ↓later_3, obind_some, ↓Split_true, ↓Split_false, ↓run_pCond, ↓run_pCond_unkb, ↓run_pGuardT, ↓run_pGuardF, ↓run_pGuard_unkb, ↓run_pGuardST, ↓run_pGuardSF, ↓pGuard_tup, ↓pGuardS_tup, ↓run_pPick, ↓run_pIdx, ↓run_pExtract0, ↓run_pExtractS, ↓pJoin_eq, nth_zero, nth_cons, exitQ_normal, exitQ_exit, exitQ_ret, frOf_cons, ↓reduceIte, Nat.reduceEqDiff, loopPost_exit, loopPost_ret, pLen_str, pLen_isl, pLen_gsl, pLen_sl, pLen_nils, pLen_eml, pLen_array, pLen_slAV, pConv_int, pConv_str, pBox_true, pBox_false, pAlloc_eq, cells_agg, fits_agg, pNil_ptr, pNil_iptr, pNil_fn, pFieldAddr_ptr, pFieldAddr_iptr, pField_agg, pCells_zero, pCells_succ, pCells_some, Nat.reduceAdd, Nat.reduceLeDiff, Nat.le_refl, pLoad_iptr, pLoad_push, Nat.zero_add, Nat.add_zero, List.drop_zero, List.drop_succ_cons, List.length_cons, List.length_nil, List.take_succ_cons, List.take_zero, true_and, and_true, binA_int_eql, binA_int_neq, binA_int_lss, binA_int_leq, binA_int_gtr, binA_int_geq, binA_int_add, binA_int_sub, binA_int_mul, binA_int_and, binA_int_or, binA_int_xor, binA_str_eql, binA_str_neq, binA_bool_eql, binA_bool_neq, binA_ptr_eql_nil, binA_ptr_neq_nil, binA_iptr_eql_nil, binA_iptr_neq_nil, binA_nil_eql_nil, binA_nil_neq_nil, unA_not, unA_not_unkb, unA_neg, Bool.not_true, Bool.not_false, dT_lt, dF_lt, dT_le, dF_le, dT_eq, dF_eq, dT_ne, dF_ne, wrapI, wrapN, wrapB]
  refine Split_lt (fun _ => by try simp -dsimp (disch := omega) only [↓later_1, ↓later_2, ↓later_3, obind_some, ↓Split_true, ↓Split_false, ↓run_pCond, ↓run_pCond_unkb, ↓run_pGuardT, ↓run_pGuardF, ↓run_pGuard_unkb, ↓run_pGuardST, ↓run_pGuardSF, ↓pGuard_tup, ↓pGuardS_tup, ↓run_pPick, ↓run_pIdx, ↓run_pExtract0, ↓run_pExtractS, ↓pJoin_eq, nth_zero, nth_cons, exitQ_normal, exitQ_exit, exitQ_ret, frOf_cons, ↓reduceIte, Nat.reduceEqDiff, loopPost_exit, loopPost_ret, pLen_str, pLen_isl, pLen_gsl, pLen_sl, pLen_nils, pLen_eml, pLen_array, pLen_slAV, pConv_int, pConv_str, pBox_true, pBox_false, pAlloc_eq, cells_agg, fits_agg, pNil_ptr, pNil_iptr, pNil_fn, pFieldAddr_ptr, pFieldAddr_iptr, pField_agg, pCells_zero, pCells_succ, pCells_some, Nat.reduceAdd, Nat.reduceLeDiff, Nat.le_refl, pLoad_iptr, pLoad_push, Nat.zero_add, Nat.add_zero, List.drop_zero, List.drop_succ_cons, List.length_cons, List.length_nil, List.take_succ_cons, List.take_zero, true_and, and_true, binA_int_eql, binA_int_neq, binA_int_lss, binA_int_leq, binA_int_gtr, binA_int_geq, binA_int_add, binA_int_sub, binA_int_mul, binA_int_and, binA_int_or, binA_int_xor, binA_str_eql, binA_str_neq, binA_bool_eql, binA_bool_neq, binA_ptr_eql_nil, binA_ptr_neq_nil, binA_iptr_eql_nil, binA_iptr_neq_nil, binA_nil_eql_nil, binA_nil_neq_nil, unA_not, unA_not_unkb, unA_neg, Bool.not_true, Bool.not_false, dT_lt, dF_lt, dT_le, dF_le, dT_eq, dF_eq, dT_ne, dF_ne, wrapI, wrapN, wrapB]) (fun hl => ?_)
  try simp -dsimp (disch := omega) only [↓later_1, ↓later_2, ↓later_3, obind_some, ↓Split_true, ↓Split_false, ↓run_pCond, ↓run_pCond_unkb, ↓run_pGuardT, ↓run_pGuardF, ↓run_pGuard_unkb, ↓run_pGuardST, ↓run_pGuardSF, ↓pGuard_tup, ↓pGuardS_tup, ↓run_pPick, ↓run_pIdx, ↓run_pExtract0, ↓run_pExtractS, ↓pJoin_eq, nth_zero, nth_cons, exitQ_normal, exitQ_exit, exitQ_ret, frOf_cons, ↓reduceIte, Nat.reduceEqDiff, loopPost_exit, loopPost_ret, pLen_str, pLen_isl, pLen_gsl, pLen_sl, pLen_nils, pLen_eml, pLen_array, pLen_slAV, pConv_int, pConv_str, pBox_true, pBox_false, pAlloc_eq, cells_agg, fits_agg, pNil_ptr, pNil_iptr, pNil_fn, pFieldAddr_ptr, pFieldAddr_iptr, pField_agg, pCells_zero, pCells_succ, pCells_some, Nat.reduceAdd, Nat.reduceLeDiff, Nat.le_refl, pLoad_iptr, pLoad_push, Nat.zero_add, Nat.add_zero, List.drop_zero, List.drop_succ_cons, List.length_cons, List.length_nil, List.take_succ_cons, List.take_zero, true_and, and_true, binA_int_eql, binA_int_neq, binA_int_lss, binA_int_leq, binA_int_gtr, binA_int_geq, binA_int_add, binA_int_sub, binA_int_mul, binA_int_and, binA_int_or, binA_int_xor, binA_str_eql, binA_str_neq, binA_bool_eql, binA_bool_neq, binA_ptr_eql_nil, binA_ptr_neq_nil, binA_iptr_eql_nil, binA_iptr_neq_nil, binA_nil_eql_nil, binA_nil_neq_nil, unA_not, unA_not_unkb, unA_neg, Bool.not_true, Bool.not_false, dT_lt, dF_lt, dT_le, dF_le, dT_eq, dF_eq, dT_ne, dF_ne, wrapI, wrapN, wrapB]
  refine (heap_New_W 4 (by omega) h2).mono ?_
  rintro _ h3 ⟨ia, Fa, Ga, rfl, pa, hFa, k3⟩
  try simp -dsimp (disch := omega) only [↓later_1, ↓later_2, ↓later_3, obind_some, ↓Split_true, ↓Split_false, ↓run_pCond, ↓run_pCond_unkb, ↓run_pGuardT, ↓run_pGuardF, ↓run_pGuard_unkb, ↓run_pGuardST, ↓run_pGuardSF, ↓pGuard_tup, ↓pGuardS_tup, ↓run_pPick, ↓run_pIdx, ↓run_pExtract0, ↓run_pExtractS, ↓pJoin_eq, nth_zero, nth_cons, exitQ_normal, exitQ_exit, exitQ_ret, frOf_cons, ↓reduceIte, Nat.reduceEqDiff, loopPost_exit, loopPost_ret, pLen_str, pLen_isl, pLen_gsl, pLen_sl, pLen_nils, pLen_eml, pLen_array, pLen_slAV, pConv_int, pConv_str, pBox_true, pBox_false, pAlloc_eq, cells_agg, fits_agg, pNil_ptr, pNil_iptr, pNil_fn, pFieldAddr_ptr, pFieldAddr_iptr, pField_agg, pCells_zero, pCells_succ, pCells_some, Nat.reduceAdd, Nat.reduceLeDiff, Nat.le_refl, pLoad_iptr, pLoad_push, Nat.zero_add, Nat.add_zero, List.drop_zero, List.drop_succ_cons, List.length_cons, List.length_nil, List.take_succ_cons, List.take_zero, true_and, and_true, binA_int_eql, binA_int_neq, binA_int_lss, binA_int_leq, binA_int_gtr, binA_int_geq, binA_int_add, binA_int_sub, binA_int_mul, binA_int_and, binA_int_or, binA_int_xor, binA_str_eql, binA_str_neq, binA_bool_eql, binA_bool_neq, binA_ptr_eql_nil, binA_ptr_neq_nil, binA_iptr_eql_nil, binA_iptr_neq_nil, binA_nil_eql_nil, binA_nil_neq_nil, unA_not, unA_not_unkb, unA_neg, Bool.not_true, Bool.not_false, dT_lt, dF_lt, dT_le, dF_le, dT_eq, dF_eq, dT_ne, dF_ne, wrapI, wrapN, wrapB]
  refine (heap_New_W 4 (by omega) h3).mono ?_
  rintro _ h4 ⟨ib, Fb, Gb, rfl, pb, hFb, k4⟩
  try simp -dsimp (disch := omega) only [↓later_1, ↓later_2, ↓later_3, obind_some, ↓Split_true, ↓Split_false, ↓run_pCond, ↓run_pCond_unkb, ↓run_pGuardT, ↓run_pGuardF, ↓run_pGuard_unkb, ↓run_pGuardST, ↓run_pGuardSF, ↓pGuard_tup, ↓pGuardS_tup, ↓run_pPick, ↓run_pIdx, ↓run_pExtract0, ↓run_pExtractS, ↓pJoin_eq, nth_zero, nth_cons, exitQ_normal, exitQ_exit, exitQ_ret, frOf_cons, ↓reduceIte, Nat.reduceEqDiff, loopPost_exit, loopPost_ret, pLen_str, pLen_isl, pLen_gsl, pLen_sl, pLen_nils, pLen_eml, pLen_array, pLen_slAV, pConv_int, pConv_str, pBox_true, pBox_false, pAlloc_eq, cells_agg, fits_agg, pNil_ptr, pNil_iptr, pNil_fn, pFieldAddr_ptr, pFieldAddr_iptr, pField_agg, pCells_zero, pCells_succ, pCells_some, Nat.reduceAdd, Nat.reduceLeDiff, Nat.le_refl, pLoad_iptr, pLoad_push, Nat.zero_add, Nat.add_zero, List.drop_zero, List.drop_succ_cons, List.length_cons, List.length_nil, List.take_succ_cons, List.take_zero, true_and, and_true, binA_int_eql, binA_int_neq, binA_int_lss, binA_int_leq, binA_int_gtr, binA_int_geq, binA_int_add, binA_int_sub, binA_int_mul, binA_int_and, binA_int_or, binA_int_xor, binA_str_eql, binA_str_neq, binA_bool_eql, binA_bool_neq, binA_ptr_eql_nil, binA_ptr_neq_nil, binA_iptr_eql_nil, binA_iptr_neq_nil, binA_nil_eql_nil, binA_nil_neq_nil, unA_not, unA_not_unkb, unA_neg, Bool.not_true, Bool.not_false, dT_lt, dF_lt, dT_le, dF_le, dT_eq, dF_eq, dT_ne, dF_ne, wrapI, wrapN, wrapB]
  refine apart_script o hok (by omega) _ _ _ ia ib h4 Fa Fb Ga Gb (pa.keeps k4 (fun _ _ h => h)) pb (fun x hx hx2 => ?_) _ ?_
  · have := pa.lt x hx; have := hFb x hx2; omega
  · intro h5 Fa Fb W hf pa pb hd
    try simp -dsimp (disch := omega) only [↓later_1, ↓later_2, ↓later_3, obind_some, ↓Split_true, ↓Split_false, ↓run_pCond, ↓run_pCond_unkb, ↓run_pGuardT, ↓run_pGuardF, ↓run_pGuard_unkb, ↓run_pGuardST, ↓run_pGuardSF, ↓pGuard_tup, ↓pGuardS_tup, ↓run_pPick, ↓run_pIdx, ↓run_pExtract0, ↓run_pExtractS, ↓pJoin_eq, nth_zero, nth_cons, exitQ_normal, exitQ_exit, exitQ_ret, frOf_cons, ↓reduceIte, Nat.reduceEqDiff, loopPost_exit, loopPost_ret, pLen_str, pLen_isl, pLen_gsl, pLen_sl, pLen_nils, pLen_eml, pLen_array, pLen_slAV, pConv_int, pConv_str, pBox_true, pBox_false, pAlloc_eq, cells_agg, fits_agg, pNil_ptr, pNil_iptr, pNil_fn, pFieldAddr_ptr, pFieldAddr_iptr, pField_agg, pCells_zero, pCells_succ, pCells_some, Nat.reduceAdd, Nat.reduceLeDiff, Nat.le_refl, pLoad_iptr, pLoad_push, Nat.zero_add, Nat.add_zero, List.drop_zero, List.drop_succ_cons, List.length_cons, List.length_nil, List.take_succ_cons, List.take_zero, true_and, and_true, binA_int_eql, binA_int_neq, binA_int_lss, binA_int_leq, binA_int_gtr, binA_int_geq, binA_int_add, binA_int_sub, binA_int_mul, binA_int_and, binA_int_or, binA_int_xor, binA_str_eql, binA_str_neq, binA_bool_eql, binA_bool_neq, binA_ptr_eql_nil, binA_ptr_neq_nil, binA_iptr_eql_nil, binA_iptr_neq_nil, binA_nil_eql_nil, binA_nil_neq_nil, unA_not, unA_not_unkb, unA_neg, Bool.not_true, Bool.not_false, dT_lt, dF_lt, dT_le, dF_le, dT_eq, dF_eq, dT_ne, dF_ne, wrapI, wrapN, wrapB]
    refine (heap_Set_W pa ref hr at_ v).mono ?_
    rintro _ h6 ⟨rfl, pa2, k6⟩
    try simp -dsimp (disch := omega) only [↓later_1, ↓later_2, ↓later_3, obind_some, ↓Split_true, ↓Split_false, ↓run_pCond, ↓run_pCond_unkb, ↓run_pGuardT, ↓run_pGuardF, ↓run_pGuard_unkb, ↓run_pGuardST, ↓run_pGuardSF, ↓pGuard_tup, ↓pGuardS_tup, ↓run_pPick, ↓run_pIdx, ↓run_pExtract0, ↓run_pExtractS, ↓pJoin_eq, nth_zero, nth_cons, exitQ_normal, exitQ_exit, exitQ_ret, frOf_cons, ↓reduceIte, Nat.reduceEqDiff, loopPost_exit, loopPost_ret, pLen_str, pLen_isl, pLen_gsl, pLen_sl, pLen_nils, pLen_eml, pLen_array, pLen_slAV, pConv_int, pConv_str, pBox_true, pBox_false, pAlloc_eq, cells_agg, fits_agg, pNil_ptr, pNil_iptr, pNil_fn, pFieldAddr_ptr, pFieldAddr_iptr, pField_agg, pCells_zero, pCells_succ, pCells_some, Nat.reduceAdd, Nat.reduceLeDiff, Nat.le_refl, pLoad_iptr, pLoad_push, Nat.zero_add, Nat.add_zero, List.drop_zero, List.drop_succ_cons, List.length_cons, List.length_nil, List.take_succ_cons, List.take_zero, true_and, and_true, binA_int_eql, binA_int_neq, binA_int_lss, binA_int_leq, binA_int_gtr, binA_int_geq, binA_int_add, binA_int_sub, binA_int_mul, binA_int_and, binA_int_or, binA_int_xor, binA_str_eql, binA_str_neq, binA_bool_eql, binA_bool_neq, binA_ptr_eql_nil, binA_ptr_neq_nil, binA_iptr_eql_nil, binA_iptr_neq_nil, binA_nil_eql_nil, binA_nil_neq_nil, unA_not, unA_not_unkb, unA_neg, Bool.not_true, Bool.not_false, dT_lt, dF_lt, dT_le, dF_le, dT_eq, dF_eq, dT_ne, dF_ne, wrapI, wrapN, wrapB]
    refine apart_things hf h6 pa2 (pb.keeps k6 (fun y hy hy2 => hd y hy2 hy)) _ ?_
    intro h7
    try simp -dsimp (disch := omega) only [↓later_1, ↓later_2, ↓later_3, obind_some, ↓Split_true, ↓Split_false, ↓run_pCond, ↓run_pCond_unkb, ↓run_pGuardT, ↓run_pGuardF, ↓run_pGuard_unkb, ↓run_pGuardST, ↓run_pGuardSF, ↓pGuard_tup, ↓pGuardS_tup, ↓run_pPick, ↓run_pIdx, ↓run_pExtract0, ↓run_pExtractS, ↓pJoin_eq, nth_zero, nth_cons, exitQ_normal, exitQ_exit, exitQ_ret, frOf_cons, ↓reduceIte, Nat.reduceEqDiff, loopPost_exit, loopPost_ret, pLen_str, pLen_isl, pLen_gsl, pLen_sl, pLen_nils, pLen_eml, pLen_array, pLen_slAV, pConv_int, pConv_str, pBox_true, pBox_false, pAlloc_eq, cells_agg, fits_agg, pNil_ptr, pNil_iptr, pNil_fn, pFieldAddr_ptr, pFieldAddr_iptr, pField_agg, pCells_zero, pCells_succ, pCells_some, Nat.reduceAdd, Nat.reduceLeDiff, Nat.le_refl, pLoad_iptr, pLoad_push, Nat.zero_add, Nat.add_zero, List.drop_zero, List.drop_succ_cons, List.length_cons, List.length_nil, List.take_succ_cons, List.take_zero, true_and, and_true, binA_int_eql, binA_int_neq, binA_int_lss, binA_int_leq, binA_int_gtr, binA_int_geq, binA_int_add, binA_int_sub, binA_int_mul, binA_int_and, binA_int_or, binA_int_xor, binA_str_eql, binA_str_neq, binA_bool_eql, binA_bool_neq, binA_ptr_eql_nil, binA_ptr_neq_nil, binA_iptr_eql_nil, binA_iptr_neq_nil, binA_nil_eql_nil, binA_nil_neq_nil, unA_not, unA_not_unkb, unA_neg, Bool.not_true, Bool.not_false, dT_lt, dF_lt, dT_le, dF_le, dT_eq, dF_eq, dT_ne, dF_ne, wrapI, wrapN, wrapB]

end Go.Proofs.Ytpoeoekoafpdhaa
