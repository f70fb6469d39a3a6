/- calc: the document's value, from the right. -/
import Derived.Test.YtkmehngemidiiaaCalcD
set_option linter.unusedVariables false
set_option linter.unusedSimpArgs false
set_option maxRecDepth 8000
set_option maxHeartbeats 1000000
namespace Go.Proofs.Ytkmehngemidiiaa
open Go.Abs

def anV (a : An) : AV := .tup [.int .u64 (a.v : Nat), .int .i64 (a.from_ : Nat), .int .i64 (a.bad.toNat : Nat)]

theorem u64_i64 (n : Int) : IntKind.u64.wrap (IntKind.i64.wrap n) = IntKind.u64.wrap n := by
  obtain ⟨k, hk⟩ := wrap_ex n
  rw [hk, wr_u64, wr_u64]; omega
theorem neg_sg (b : Nat) : IntKind.u64.wrap (IntKind.i64.wrap (0 - sgN b)) = IntKind.u64.wrap (0 - (b : Int)) := by
  rw [u64_i64]
  unfold sgN
  obtain ⟨k, hk⟩ := wrap_ex (b : Int)
  rw [hk, wr_u64, wr_u64]; omega

theorem annN_ok {slots : List Nat} {inputs : List Int} {l : List It} (hs : ∀ v ∈ slots, okN v) (hl : ∀ x ∈ l, x.ok) : ∀ k, ∀ a ∈ annN slots inputs l k, okN a.v := by
  have hz : okN 0 := by unfold okN; omega
  intro k
  induction k with
  | zero => intro a ha; simp [annN] at ha
  | succ k ih =>
    intro a ha
    simp only [annN] at ha
    cases hx : l[k]? with
    | none => rw [hx] at ha; exact ih a ha
    | some x =>
      rw [hx] at ha
      simp only at ha
      have hxok := hl x (List.mem_of_getElem? hx)
      unfold annStep at ha
      generalize annN slots inputs l k = st at *
      split at ha
      · rcases List.mem_cons.1 ha with rfl | ha
        · show okN (leafN slots inputs x)
          unfold leafN
          split
          · exact hxok.2.2
          split
          · rw [List.getD_eq_getElem?_getD]
            cases hg : slots[x.N]? with
            | none => exact hz
            | some w => exact hs w (List.mem_of_getElem? hg)
          · exact u64lt _
        · exact ih a ha
      · split at ha
        · match st, ha, ih with
          | b :: r, ha, ih =>
            rcases List.mem_cons.1 ha with rfl | ha
            · exact unN_lt (ih b (by simp))
            · exact ih a (by simp [ha])
          | [], ha, _ => simp at ha
        · match st, ha, ih with
          | b :: c :: r, ha, ih =>
            rcases List.mem_cons.1 ha with rfl | ha
            · split
              · exact hz
              · split
                · rename_i w hw; exact binN_lt hw
                · exact hz
            · exact ih a (by simp [ha])
          | [b], ha, _ => simp at ha
          | [], ha, _ => simp at ha

theorem ref_value_does (slots : Option (List Nat)) (inputs : Option (List Int)) (items : Option (List It)) (hs : okSl okN slots) (hi : (slL inputs).length ≤ 1000000) (hok : okSl Api_Item.ok items) (hit : (slL items).length ≤ 1000) (hg : okL ((slL slots).length : Nat) (slL items)) :
    ∀ (k : Nat) (h : AHeap), k < (slL items).length → ∀ a, annN (slL slots) (slL inputs) (slL items) (k + 1) = a :: annN (slL slots) (slL inputs) (slL items) a.from_ → CallsA Try.prog 46 [slAV 3 Api_Item.cells items, .int .i64 (k : Nat), slAV 1 encN slots, slAV 1 encI inputs] h (fun v h2 => v = anV a ∧ Keeps h h2 (fun _ => False)) := by
  intro k
  induction k using Nat.strongRecOn with
  | _ k ih =>
    intro h hkl a ha
    have hx : (slL items)[k]? = some (slL items)[k] := List.getElem?_eq_getElem hkl
    obtain ⟨f1, f2⟩ := hg k hkl _ hx
    have hxok := hok.2 _ (List.mem_of_getElem? hx)
    have hnb := fits_needs f1
    have hlen := annN_len (slots := slL slots) (inputs := slL inputs) hg k (by omega)
    have hstep : annN (slL slots) (slL inputs) (slL items) (k + 1) = annStep (slL slots) (slL inputs) k (annN (slL slots) (slL inputs) (slL items) k) (slL items)[k] := by simp only [annN, hx]
    rw [hstep] at ha
    have hall := annN_ok (slots := slL slots) (inputs := slL inputs) (l := slL items) hs.2 hok.2
    have top : ∀ j, j ≤ k → annN (slL slots) (slL inputs) (slL items) j ≠ [] → ∃ b, annN (slL slots) (slL inputs) (slL items) j = b :: annN (slL slots) (slL inputs) (slL items) b.from_ ∧ b.from_ + 1 ≤ j ∧ okN b.v ∧ ∀ h, CallsA Try.prog 46 [slAV 3 Api_Item.cells items, .int .i64 ((j - 1 : Nat) : Int), slAV 1 encN slots, slAV 1 encI inputs] h (fun v h2 => v = anV b ∧ Keeps h h2 (fun _ => False)) := by
      intro j hj hne
      match j, hj, hne with
      | 0, _, hne => exact absurd rfl hne
      | j + 1, hj, _ =>
        obtain ⟨b, e1, e2⟩ := annN_under (slots := slL slots) (inputs := slL inputs) hg j (by omega)
        refine ⟨b, e1, by omega, hall (j + 1) b (by rw [e1]; simp), fun h => ?_⟩
        simp only [Nat.add_sub_cancel]
        exact ih j (by omega) h (by omega) b e1
    generalize (slL items)[k] = x at *
    obtain ⟨-, -, hnn⟩ := hxok
    unfold okN at hnn
    have hc : x.cells = [.int .i64 x.Op, .int .i64 x.Bin, .int .u64 (x.N : Nat)] := rfl
    have kA := Keeps.push h (.row 44 [.int .i64 x.Op, .int .i64 x.Bin, .int .u64 (x.N : Nat)])
    apply padlockref08_value_wp
    try simp -dsimp -implicitDefEqProofs only [↓later_1, ↓later_2, ↓later_3, obind_some, ↓Split_true, ↓Split_false, ↓run_pCond, ↓run_pCond_unkb, ↓run_pGuardT, ↓run_pGuardF, ↓run_pGuard_unkb, ↓run_pGuardST, ↓run_pGuardSF, ↓pGuard_tup, ↓pGuardS_tup, ↓run_pPick, ↓run_pIdx, ↓run_pExtract0, ↓run_pExtractS, ↓pJoin_eq, nth_zero, nth_cons, exitQ_normal, exitQ_exit, exitQ_ret, frOf_cons, ↓reduceIte, Nat.reduceEqDiff, loopPost_exit, loopPost_ret, pLen_str, pLen_isl, pLen_gsl, pLen_sl, pLen_nils, pLen_eml, pLen_array, pLen_slAV, pConv_int, pConv_str, pBox_true, pBox_false, pAlloc_eq, cells_agg, fits_agg, pNil_ptr, pNil_iptr, pNil_fn, pFieldAddr_ptr, pFieldAddr_iptr, pField_agg, pCells_zero, pCells_succ, pCells_some, Nat.reduceAdd, Nat.reduceLeDiff, Nat.le_refl, pLoad_iptr, pLoad_push, Nat.zero_add, Nat.add_zero, List.drop_zero, List.drop_succ_cons, List.length_cons, List.length_nil, List.take_succ_cons, List.take_zero, true_and, and_true, binA_int_eql, binA_int_neq, binA_int_lss, binA_int_leq, binA_int_gtr, binA_int_geq, binA_int_add, binA_int_sub, binA_int_mul, binA_int_and, binA_int_or, binA_int_xor, binA_str_eql, binA_str_neq, binA_bool_eql, binA_bool_neq, binA_ptr_eql_nil, binA_ptr_neq_nil, binA_iptr_eql_nil, binA_iptr_neq_nil, binA_nil_eql_nil, binA_nil_neq_nil, unA_not, unA_not_unkb, unA_neg, Bool.not_true, Bool.not_false, false_implies, true_implies, eq_self, pIndexAddr_slAV hx, hc]
    rw [pStore_push (by rfl) (by rfl)]
    try simp -dsimp -implicitDefEqProofs only [↓later_1, ↓later_2, ↓later_3, obind_some, ↓Split_true, ↓Split_false, ↓run_pCond, ↓run_pCond_unkb, ↓run_pGuardT, ↓run_pGuardF, ↓run_pGuard_unkb, ↓run_pGuardST, ↓run_pGuardSF, ↓pGuard_tup, ↓pGuardS_tup, ↓run_pPick, ↓run_pIdx, ↓run_pExtract0, ↓run_pExtractS, ↓pJoin_eq, nth_zero, nth_cons, exitQ_normal, exitQ_exit, exitQ_ret, frOf_cons, ↓reduceIte, Nat.reduceEqDiff, loopPost_exit, loopPost_ret, pLen_str, pLen_isl, pLen_gsl, pLen_sl, pLen_nils, pLen_eml, pLen_array, pLen_slAV, pConv_int, pConv_str, pBox_true, pBox_false, pAlloc_eq, cells_agg, fits_agg, pNil_ptr, pNil_iptr, pNil_fn, pFieldAddr_ptr, pFieldAddr_iptr, pField_agg, pCells_zero, pCells_succ, pCells_some, Nat.reduceAdd, Nat.reduceLeDiff, Nat.le_refl, pLoad_iptr, pLoad_push, Nat.zero_add, Nat.add_zero, List.drop_zero, List.drop_succ_cons, List.length_cons, List.length_nil, List.take_succ_cons, List.take_zero, true_and, and_true, binA_int_eql, binA_int_neq, binA_int_lss, binA_int_leq, binA_int_gtr, binA_int_geq, binA_int_add, binA_int_sub, binA_int_mul, binA_int_and, binA_int_or, binA_int_xor, binA_str_eql, binA_str_neq, binA_bool_eql, binA_bool_neq, binA_ptr_eql_nil, binA_ptr_neq_nil, binA_iptr_eql_nil, binA_iptr_neq_nil, binA_nil_eql_nil, binA_nil_neq_nil, unA_not, unA_not_unkb, unA_neg, Bool.not_true, Bool.not_false, false_implies, true_implies, eq_self]
    unfold annStep at ha
    by_cases h1 : x.Op = 1
    · have e1 : (x.Op == 1) = true := by simp [h1]
      have hn0 : needsI x.Op = 0 := by rw [h1]; decide
      rw [if_pos hn0] at ha
      cases ha
      try simp -dsimp -implicitDefEqProofs only [↓later_1, ↓later_2, ↓later_3, obind_some, ↓Split_true, ↓Split_false, ↓run_pCond, ↓run_pCond_unkb, ↓run_pGuardT, ↓run_pGuardF, ↓run_pGuard_unkb, ↓run_pGuardST, ↓run_pGuardSF, ↓pGuard_tup, ↓pGuardS_tup, ↓run_pPick, ↓run_pIdx, ↓run_pExtract0, ↓run_pExtractS, ↓pJoin_eq, nth_zero, nth_cons, exitQ_normal, exitQ_exit, exitQ_ret, frOf_cons, ↓reduceIte, Nat.reduceEqDiff, loopPost_exit, loopPost_ret, pLen_str, pLen_isl, pLen_gsl, pLen_sl, pLen_nils, pLen_eml, pLen_array, pLen_slAV, pConv_int, pConv_str, pBox_true, pBox_false, pAlloc_eq, cells_agg, fits_agg, pNil_ptr, pNil_iptr, pNil_fn, pFieldAddr_ptr, pFieldAddr_iptr, pField_agg, pCells_zero, pCells_succ, pCells_some, Nat.reduceAdd, Nat.reduceLeDiff, Nat.le_refl, pLoad_iptr, pLoad_push, Nat.zero_add, Nat.add_zero, List.drop_zero, List.drop_succ_cons, List.length_cons, List.length_nil, List.take_succ_cons, List.take_zero, true_and, and_true, binA_int_eql, binA_int_neq, binA_int_lss, binA_int_leq, binA_int_gtr, binA_int_geq, binA_int_add, binA_int_sub, binA_int_mul, binA_int_and, binA_int_or, binA_int_xor, binA_str_eql, binA_str_neq, binA_bool_eql, binA_bool_neq, binA_ptr_eql_nil, binA_ptr_neq_nil, binA_iptr_eql_nil, binA_iptr_neq_nil, binA_nil_eql_nil, binA_nil_neq_nil, unA_not, unA_not_unkb, unA_neg, Bool.not_true, Bool.not_false, false_implies, true_implies, eq_self, e1]
      refine ⟨?_, kA⟩
      simp [anV, leafN, h1]
    have q1 : (x.Op == 1) = false := by simp [h1]
    by_cases h2 : x.Op = 2
    · have e1 : (x.Op == 2) = true := by simp [h2]
      have hn0 : needsI x.Op = 0 := by rw [h2]; decide
      have hb : x.N < (slL slots).length := by
        unfold fitsB at f1
        rw [if_neg h1, if_pos h2] at f1
        simp only [Bool.and_eq_true, decide_eq_true_eq] at f1
        omega
      rw [if_pos hn0] at ha
      cases ha
      try simp -dsimp -implicitDefEqProofs only [↓later_1, ↓later_2, ↓later_3, obind_some, ↓Split_true, ↓Split_false, ↓run_pCond, ↓run_pCond_unkb, ↓run_pGuardT, ↓run_pGuardF, ↓run_pGuard_unkb, ↓run_pGuardST, ↓run_pGuardSF, ↓pGuard_tup, ↓pGuardS_tup, ↓run_pPick, ↓run_pIdx, ↓run_pExtract0, ↓run_pExtractS, ↓pJoin_eq, nth_zero, nth_cons, exitQ_normal, exitQ_exit, exitQ_ret, frOf_cons, ↓reduceIte, Nat.reduceEqDiff, loopPost_exit, loopPost_ret, pLen_str, pLen_isl, pLen_gsl, pLen_sl, pLen_nils, pLen_eml, pLen_array, pLen_slAV, pConv_int, pConv_str, pBox_true, pBox_false, pAlloc_eq, cells_agg, fits_agg, pNil_ptr, pNil_iptr, pNil_fn, pFieldAddr_ptr, pFieldAddr_iptr, pField_agg, pCells_zero, pCells_succ, pCells_some, Nat.reduceAdd, Nat.reduceLeDiff, Nat.le_refl, pLoad_iptr, pLoad_push, Nat.zero_add, Nat.add_zero, List.drop_zero, List.drop_succ_cons, List.length_cons, List.length_nil, List.take_succ_cons, List.take_zero, true_and, and_true, binA_int_eql, binA_int_neq, binA_int_lss, binA_int_leq, binA_int_gtr, binA_int_geq, binA_int_add, binA_int_sub, binA_int_mul, binA_int_and, binA_int_or, binA_int_xor, binA_str_eql, binA_str_neq, binA_bool_eql, binA_bool_neq, binA_ptr_eql_nil, binA_ptr_neq_nil, binA_iptr_eql_nil, binA_iptr_neq_nil, binA_nil_eql_nil, binA_nil_neq_nil, unA_not, unA_not_unkb, unA_neg, Bool.not_true, Bool.not_false, false_implies, true_implies, eq_self, q1, e1, encN_at hb]
      refine ⟨?_, kA⟩
      simp [anV, leafN, h2]
    have q2 : (x.Op == 2) = false := by simp [h2]
    by_cases h3 : x.Op = 3
    · have e1 : (x.Op == 3) = true := by simp [h3]
      have hn0 : needsI x.Op = 0 := by rw [h3]; decide
      have hb : x.N < 16 := by
        unfold fitsB at f1
        rw [if_neg h1, if_neg h2, if_pos h3] at f1
        simp only [Bool.and_eq_true, decide_eq_true_eq] at f1
        omega
      have wn : IntKind.i64.wrap (x.N : Int) = (x.N : Int) := wrapI (by omega) (by omega)
      rw [if_pos hn0] at ha
      cases ha
      try simp -dsimp -implicitDefEqProofs only [↓later_1, ↓later_2, ↓later_3, obind_some, ↓Split_true, ↓Split_false, ↓run_pCond, ↓run_pCond_unkb, ↓run_pGuardT, ↓run_pGuardF, ↓run_pGuard_unkb, ↓run_pGuardST, ↓run_pGuardSF, ↓pGuard_tup, ↓pGuardS_tup, ↓run_pPick, ↓run_pIdx, ↓run_pExtract0, ↓run_pExtractS, ↓pJoin_eq, nth_zero, nth_cons, exitQ_normal, exitQ_exit, exitQ_ret, frOf_cons, ↓reduceIte, Nat.reduceEqDiff, loopPost_exit, loopPost_ret, pLen_str, pLen_isl, pLen_gsl, pLen_sl, pLen_nils, pLen_eml, pLen_array, pLen_slAV, pConv_int, pConv_str, pBox_true, pBox_false, pAlloc_eq, cells_agg, fits_agg, pNil_ptr, pNil_iptr, pNil_fn, pFieldAddr_ptr, pFieldAddr_iptr, pField_agg, pCells_zero, pCells_succ, pCells_some, Nat.reduceAdd, Nat.reduceLeDiff, Nat.le_refl, pLoad_iptr, pLoad_push, Nat.zero_add, Nat.add_zero, List.drop_zero, List.drop_succ_cons, List.length_cons, List.length_nil, List.take_succ_cons, List.take_zero, true_and, and_true, binA_int_eql, binA_int_neq, binA_int_lss, binA_int_leq, binA_int_gtr, binA_int_geq, binA_int_add, binA_int_sub, binA_int_mul, binA_int_and, binA_int_or, binA_int_xor, binA_str_eql, binA_str_neq, binA_bool_eql, binA_bool_neq, binA_ptr_eql_nil, binA_ptr_neq_nil, binA_iptr_eql_nil, binA_iptr_neq_nil, binA_nil_eql_nil, binA_nil_neq_nil, unA_not, unA_not_unkb, unA_neg, Bool.not_true, Bool.not_false, false_implies, true_implies, eq_self, q1, q2, e1, wn]
      refine Split_le (fun hge => ?_) (fun hlt => ?_)
      · have h00 : (slL inputs).getD x.N 0 = 0 := by simp [List.getElem?_eq_none (show (slL inputs).length ≤ x.N by omega)]
        try simp -dsimp -implicitDefEqProofs only [↓later_1, ↓later_2, ↓later_3, obind_some, ↓Split_true, ↓Split_false, ↓run_pCond, ↓run_pCond_unkb, ↓run_pGuardT, ↓run_pGuardF, ↓run_pGuard_unkb, ↓run_pGuardST, ↓run_pGuardSF, ↓pGuard_tup, ↓pGuardS_tup, ↓run_pPick, ↓run_pIdx, ↓run_pExtract0, ↓run_pExtractS, ↓pJoin_eq, nth_zero, nth_cons, exitQ_normal, exitQ_exit, exitQ_ret, frOf_cons, ↓reduceIte, Nat.reduceEqDiff, loopPost_exit, loopPost_ret, pLen_str, pLen_isl, pLen_gsl, pLen_sl, pLen_nils, pLen_eml, pLen_array, pLen_slAV, pConv_int, pConv_str, pBox_true, pBox_false, pAlloc_eq, cells_agg, fits_agg, pNil_ptr, pNil_iptr, pNil_fn, pFieldAddr_ptr, pFieldAddr_iptr, pField_agg, pCells_zero, pCells_succ, pCells_some, Nat.reduceAdd, Nat.reduceLeDiff, Nat.le_refl, pLoad_iptr, pLoad_push, Nat.zero_add, Nat.add_zero, List.drop_zero, List.drop_succ_cons, List.length_cons, List.length_nil, List.take_succ_cons, List.take_zero, true_and, and_true, binA_int_eql, binA_int_neq, binA_int_lss, binA_int_leq, binA_int_gtr, binA_int_geq, binA_int_add, binA_int_sub, binA_int_mul, binA_int_and, binA_int_or, binA_int_xor, binA_str_eql, binA_str_neq, binA_bool_eql, binA_bool_neq, binA_ptr_eql_nil, binA_ptr_neq_nil, binA_iptr_eql_nil, binA_iptr_neq_nil, binA_nil_eql_nil, binA_nil_neq_nil, unA_not, unA_not_unkb, unA_neg, Bool.not_true, Bool.not_false, false_implies, true_implies, eq_self]
        refine ⟨?_, kA⟩
        simp only [anV, leafN, h1, h2, if_false, h00]
        rfl
      · try simp -dsimp -implicitDefEqProofs only [↓later_1, ↓later_2, ↓later_3, obind_some, ↓Split_true, ↓Split_false, ↓run_pCond, ↓run_pCond_unkb, ↓run_pGuardT, ↓run_pGuardF, ↓run_pGuard_unkb, ↓run_pGuardST, ↓run_pGuardSF, ↓pGuard_tup, ↓pGuardS_tup, ↓run_pPick, ↓run_pIdx, ↓run_pExtract0, ↓run_pExtractS, ↓pJoin_eq, nth_zero, nth_cons, exitQ_normal, exitQ_exit, exitQ_ret, frOf_cons, ↓reduceIte, Nat.reduceEqDiff, loopPost_exit, loopPost_ret, pLen_str, pLen_isl, pLen_gsl, pLen_sl, pLen_nils, pLen_eml, pLen_array, pLen_slAV, pConv_int, pConv_str, pBox_true, pBox_false, pAlloc_eq, cells_agg, fits_agg, pNil_ptr, pNil_iptr, pNil_fn, pFieldAddr_ptr, pFieldAddr_iptr, pField_agg, pCells_zero, pCells_succ, pCells_some, Nat.reduceAdd, Nat.reduceLeDiff, Nat.le_refl, pLoad_iptr, pLoad_push, Nat.zero_add, Nat.add_zero, List.drop_zero, List.drop_succ_cons, List.length_cons, List.length_nil, List.take_succ_cons, List.take_zero, true_and, and_true, binA_int_eql, binA_int_neq, binA_int_lss, binA_int_leq, binA_int_gtr, binA_int_geq, binA_int_add, binA_int_sub, binA_int_mul, binA_int_and, binA_int_or, binA_int_xor, binA_str_eql, binA_str_neq, binA_bool_eql, binA_bool_neq, binA_ptr_eql_nil, binA_ptr_neq_nil, binA_iptr_eql_nil, binA_iptr_neq_nil, binA_nil_eql_nil, binA_nil_neq_nil, unA_not, unA_not_unkb, unA_neg, Bool.not_true, Bool.not_false, false_implies, true_implies, eq_self, encI_at (o := inputs) (k := x.N) (by omega)]
        refine ⟨?_, kA⟩
        simp only [anV, leafN, h1, h2, if_false, u64n]
        rfl
    have q3 : (x.Op == 3) = false := by simp [h3]
    have hne : annN (slL slots) (slL inputs) (slL items) k ≠ [] := by
      intro e
      rw [e] at hlen
      have : needsI x.Op ≠ 0 := by
        unfold needsI; rw [if_neg (by omega)]; split
        · omega
        · split <;> omega
      simp at hlen; omega
    have hk1 : 1 ≤ k := by
      rcases Nat.eq_zero_or_pos k with h0 | h0
      · subst h0; exact absurd rfl hne
      · exact h0
    obtain ⟨b, eb, hbf, hbv, cb⟩ := top k (Nat.le_refl _) hne
    have wk : IntKind.i64.wrap ((k : Int) - 1) = ((k - 1 : Nat) : Int) := by rw [wrapI (by omega) (by omega)]; omega
    try simp -dsimp -implicitDefEqProofs only [↓later_1, ↓later_2, ↓later_3, obind_some, ↓Split_true, ↓Split_false, ↓run_pCond, ↓run_pCond_unkb, ↓run_pGuardT, ↓run_pGuardF, ↓run_pGuard_unkb, ↓run_pGuardST, ↓run_pGuardSF, ↓pGuard_tup, ↓pGuardS_tup, ↓run_pPick, ↓run_pIdx, ↓run_pExtract0, ↓run_pExtractS, ↓pJoin_eq, nth_zero, nth_cons, exitQ_normal, exitQ_exit, exitQ_ret, frOf_cons, ↓reduceIte, Nat.reduceEqDiff, loopPost_exit, loopPost_ret, pLen_str, pLen_isl, pLen_gsl, pLen_sl, pLen_nils, pLen_eml, pLen_array, pLen_slAV, pConv_int, pConv_str, pBox_true, pBox_false, pAlloc_eq, cells_agg, fits_agg, pNil_ptr, pNil_iptr, pNil_fn, pFieldAddr_ptr, pFieldAddr_iptr, pField_agg, pCells_zero, pCells_succ, pCells_some, Nat.reduceAdd, Nat.reduceLeDiff, Nat.le_refl, pLoad_iptr, pLoad_push, Nat.zero_add, Nat.add_zero, List.drop_zero, List.drop_succ_cons, List.length_cons, List.length_nil, List.take_succ_cons, List.take_zero, true_and, and_true, binA_int_eql, binA_int_neq, binA_int_lss, binA_int_leq, binA_int_gtr, binA_int_geq, binA_int_add, binA_int_sub, binA_int_mul, binA_int_and, binA_int_or, binA_int_xor, binA_str_eql, binA_str_neq, binA_bool_eql, binA_bool_neq, binA_ptr_eql_nil, binA_ptr_neq_nil, binA_iptr_eql_nil, binA_iptr_neq_nil, binA_nil_eql_nil, binA_nil_neq_nil, unA_not, unA_not_unkb, unA_neg, Bool.not_true, Bool.not_false, false_implies, true_implies, eq_self, q1, q2, q3, wk]
    refine (cb _).mono ?_
    rintro _ h5 ⟨rfl, k5⟩
    have hloc : h5.objs h.next = some (.row 44 [.int .i64 x.Op, .int .i64 x.Bin, .int .u64 (x.N : Nat)]) := by
      rw [k5.objs h.next (by simp) (fun h => h)]; simp
    have kAB := kA.trans k5 (fun _ _ h => h)
    unfold anV
    rw [eb] at ha
    by_cases h47 : 4 ≤ x.Op ∧ x.Op ≤ 7
    · have hn1 : needsI x.Op = 1 := by unfold needsI; rw [if_neg (by omega), if_pos h47]
      rw [if_neg (by omega), if_pos hn1] at ha
      cases ha
      simp only
      by_cases h4 : x.Op = 4
      · have e1 : (x.Op == 4) = true := by simp [h4]
        have hs4 : IntKind.u64.wrap (IntKind.i64.wrap (0 - IntKind.i64.wrap (b.v : Int))) = IntKind.u64.wrap (0 - (b.v : Int)) := neg_sg b.v
        have hu : unN x.Op b.v = (IntKind.u64.wrap (0 - (b.v : Int))).toNat := by unfold unN; rw [if_pos h4]
        rw [hu, u64n]
        try simp -dsimp -implicitDefEqProofs only [↓later_1, ↓later_2, ↓later_3, obind_some, ↓Split_true, ↓Split_false, ↓run_pCond, ↓run_pCond_unkb, ↓run_pGuardT, ↓run_pGuardF, ↓run_pGuard_unkb, ↓run_pGuardST, ↓run_pGuardSF, ↓pGuard_tup, ↓pGuardS_tup, ↓run_pPick, ↓run_pIdx, ↓run_pExtract0, ↓run_pExtractS, ↓pJoin_eq, nth_zero, nth_cons, exitQ_normal, exitQ_exit, exitQ_ret, frOf_cons, ↓reduceIte, Nat.reduceEqDiff, loopPost_exit, loopPost_ret, pLen_str, pLen_isl, pLen_gsl, pLen_sl, pLen_nils, pLen_eml, pLen_array, pLen_slAV, pConv_int, pConv_str, pBox_true, pBox_false, pAlloc_eq, cells_agg, fits_agg, pNil_ptr, pNil_iptr, pNil_fn, pFieldAddr_ptr, pFieldAddr_iptr, pField_agg, pCells_zero, pCells_succ, pCells_some, Nat.reduceAdd, Nat.reduceLeDiff, Nat.le_refl, pLoad_iptr, pLoad_push, Nat.zero_add, Nat.add_zero, List.drop_zero, List.drop_succ_cons, List.length_cons, List.length_nil, List.take_succ_cons, List.take_zero, true_and, and_true, binA_int_eql, binA_int_neq, binA_int_lss, binA_int_leq, binA_int_gtr, binA_int_geq, binA_int_add, binA_int_sub, binA_int_mul, binA_int_and, binA_int_or, binA_int_xor, binA_str_eql, binA_str_neq, binA_bool_eql, binA_bool_neq, binA_ptr_eql_nil, binA_ptr_neq_nil, binA_iptr_eql_nil, binA_iptr_neq_nil, binA_nil_eql_nil, binA_nil_neq_nil, unA_not, unA_not_unkb, unA_neg, Bool.not_true, Bool.not_false, false_implies, true_implies, eq_self, pLoad_ptr hloc, e1, hs4]
        first | exact ⟨rfl, kAB⟩ | exact kAB
      have q4 : (x.Op == 4) = false := by simp [h4]
      by_cases h5' : x.Op = 5
      · have e1 : (x.Op == 5) = true := by simp [h5']
        have hu : unN x.Op b.v = negR b.v := by unfold unN; rw [if_neg h4, if_pos h5']
        rw [hu, negR_eq hbv]
        try simp -dsimp -implicitDefEqProofs only [↓later_1, ↓later_2, ↓later_3, obind_some, ↓Split_true, ↓Split_false, ↓run_pCond, ↓run_pCond_unkb, ↓run_pGuardT, ↓run_pGuardF, ↓run_pGuard_unkb, ↓run_pGuardST, ↓run_pGuardSF, ↓pGuard_tup, ↓pGuardS_tup, ↓run_pPick, ↓run_pIdx, ↓run_pExtract0, ↓run_pExtractS, ↓pJoin_eq, nth_zero, nth_cons, exitQ_normal, exitQ_exit, exitQ_ret, frOf_cons, ↓reduceIte, Nat.reduceEqDiff, loopPost_exit, loopPost_ret, pLen_str, pLen_isl, pLen_gsl, pLen_sl, pLen_nils, pLen_eml, pLen_array, pLen_slAV, pConv_int, pConv_str, pBox_true, pBox_false, pAlloc_eq, cells_agg, fits_agg, pNil_ptr, pNil_iptr, pNil_fn, pFieldAddr_ptr, pFieldAddr_iptr, pField_agg, pCells_zero, pCells_succ, pCells_some, Nat.reduceAdd, Nat.reduceLeDiff, Nat.le_refl, pLoad_iptr, pLoad_push, Nat.zero_add, Nat.add_zero, List.drop_zero, List.drop_succ_cons, List.length_cons, List.length_nil, List.take_succ_cons, List.take_zero, true_and, and_true, binA_int_eql, binA_int_neq, binA_int_lss, binA_int_leq, binA_int_gtr, binA_int_geq, binA_int_add, binA_int_sub, binA_int_mul, binA_int_and, binA_int_or, binA_int_xor, binA_str_eql, binA_str_neq, binA_bool_eql, binA_bool_neq, binA_ptr_eql_nil, binA_ptr_neq_nil, binA_iptr_eql_nil, binA_iptr_neq_nil, binA_nil_eql_nil, binA_nil_neq_nil, unA_not, unA_not_unkb, unA_neg, Bool.not_true, Bool.not_false, false_implies, true_implies, eq_self, pLoad_ptr hloc, q4, e1]
        refine (ref_Odd_does b.v hbv _).mono ?_
        rintro _ _ ⟨rfl, rfl⟩
        cases hn : isNan b.v with
        | true =>
          try simp -dsimp -implicitDefEqProofs only [↓later_1, ↓later_2, ↓later_3, obind_some, ↓Split_true, ↓Split_false, ↓run_pCond, ↓run_pCond_unkb, ↓run_pGuardT, ↓run_pGuardF, ↓run_pGuard_unkb, ↓run_pGuardST, ↓run_pGuardSF, ↓pGuard_tup, ↓pGuardS_tup, ↓run_pPick, ↓run_pIdx, ↓run_pExtract0, ↓run_pExtractS, ↓pJoin_eq, nth_zero, nth_cons, exitQ_normal, exitQ_exit, exitQ_ret, frOf_cons, ↓reduceIte, Nat.reduceEqDiff, loopPost_exit, loopPost_ret, pLen_str, pLen_isl, pLen_gsl, pLen_sl, pLen_nils, pLen_eml, pLen_array, pLen_slAV, pConv_int, pConv_str, pBox_true, pBox_false, pAlloc_eq, cells_agg, fits_agg, pNil_ptr, pNil_iptr, pNil_fn, pFieldAddr_ptr, pFieldAddr_iptr, pField_agg, pCells_zero, pCells_succ, pCells_some, Nat.reduceAdd, Nat.reduceLeDiff, Nat.le_refl, pLoad_iptr, pLoad_push, Nat.zero_add, Nat.add_zero, List.drop_zero, List.drop_succ_cons, List.length_cons, List.length_nil, List.take_succ_cons, List.take_zero, true_and, and_true, binA_int_eql, binA_int_neq, binA_int_lss, binA_int_leq, binA_int_gtr, binA_int_geq, binA_int_add, binA_int_sub, binA_int_mul, binA_int_and, binA_int_or, binA_int_xor, binA_str_eql, binA_str_neq, binA_bool_eql, binA_bool_neq, binA_ptr_eql_nil, binA_ptr_neq_nil, binA_iptr_eql_nil, binA_iptr_neq_nil, binA_nil_eql_nil, binA_nil_neq_nil, unA_not, unA_not_unkb, unA_neg, Bool.not_true, Bool.not_false, false_implies, true_implies, eq_self]
          refine (ref_Tidy_does b.v hbv _).mono ?_
          rintro _ _ ⟨rfl, rfl⟩
          try simp -dsimp -implicitDefEqProofs only [↓later_1, ↓later_2, ↓later_3, obind_some, ↓Split_true, ↓Split_false, ↓run_pCond, ↓run_pCond_unkb, ↓run_pGuardT, ↓run_pGuardF, ↓run_pGuard_unkb, ↓run_pGuardST, ↓run_pGuardSF, ↓pGuard_tup, ↓pGuardS_tup, ↓run_pPick, ↓run_pIdx, ↓run_pExtract0, ↓run_pExtractS, ↓pJoin_eq, nth_zero, nth_cons, exitQ_normal, exitQ_exit, exitQ_ret, frOf_cons, ↓reduceIte, Nat.reduceEqDiff, loopPost_exit, loopPost_ret, pLen_str, pLen_isl, pLen_gsl, pLen_sl, pLen_nils, pLen_eml, pLen_array, pLen_slAV, pConv_int, pConv_str, pBox_true, pBox_false, pAlloc_eq, cells_agg, fits_agg, pNil_ptr, pNil_iptr, pNil_fn, pFieldAddr_ptr, pFieldAddr_iptr, pField_agg, pCells_zero, pCells_succ, pCells_some, Nat.reduceAdd, Nat.reduceLeDiff, Nat.le_refl, pLoad_iptr, pLoad_push, Nat.zero_add, Nat.add_zero, List.drop_zero, List.drop_succ_cons, List.length_cons, List.length_nil, List.take_succ_cons, List.take_zero, true_and, and_true, binA_int_eql, binA_int_neq, binA_int_lss, binA_int_leq, binA_int_gtr, binA_int_geq, binA_int_add, binA_int_sub, binA_int_mul, binA_int_and, binA_int_or, binA_int_xor, binA_str_eql, binA_str_neq, binA_bool_eql, binA_bool_neq, binA_ptr_eql_nil, binA_ptr_neq_nil, binA_iptr_eql_nil, binA_iptr_neq_nil, binA_nil_eql_nil, binA_nil_neq_nil, unA_not, unA_not_unkb, unA_neg, Bool.not_true, Bool.not_false, false_implies, true_implies, eq_self]
          refine ⟨?_, kAB⟩
          simp [tidyN, hn]
        | false =>
          have hxr : iXor .u64 (b.v : Int) 9223372036854775808 = ((negW b.v : Nat) : Int) := iXor_u64 b.v 9223372036854775808 hbv (by omega)
          try simp -dsimp -implicitDefEqProofs only [↓later_1, ↓later_2, ↓later_3, obind_some, ↓Split_true, ↓Split_false, ↓run_pCond, ↓run_pCond_unkb, ↓run_pGuardT, ↓run_pGuardF, ↓run_pGuard_unkb, ↓run_pGuardST, ↓run_pGuardSF, ↓pGuard_tup, ↓pGuardS_tup, ↓run_pPick, ↓run_pIdx, ↓run_pExtract0, ↓run_pExtractS, ↓pJoin_eq, nth_zero, nth_cons, exitQ_normal, exitQ_exit, exitQ_ret, frOf_cons, ↓reduceIte, Nat.reduceEqDiff, loopPost_exit, loopPost_ret, pLen_str, pLen_isl, pLen_gsl, pLen_sl, pLen_nils, pLen_eml, pLen_array, pLen_slAV, pConv_int, pConv_str, pBox_true, pBox_false, pAlloc_eq, cells_agg, fits_agg, pNil_ptr, pNil_iptr, pNil_fn, pFieldAddr_ptr, pFieldAddr_iptr, pField_agg, pCells_zero, pCells_succ, pCells_some, Nat.reduceAdd, Nat.reduceLeDiff, Nat.le_refl, pLoad_iptr, pLoad_push, Nat.zero_add, Nat.add_zero, List.drop_zero, List.drop_succ_cons, List.length_cons, List.length_nil, List.take_succ_cons, List.take_zero, true_and, and_true, binA_int_eql, binA_int_neq, binA_int_lss, binA_int_leq, binA_int_gtr, binA_int_geq, binA_int_add, binA_int_sub, binA_int_mul, binA_int_and, binA_int_or, binA_int_xor, binA_str_eql, binA_str_neq, binA_bool_eql, binA_bool_neq, binA_ptr_eql_nil, binA_ptr_neq_nil, binA_iptr_eql_nil, binA_iptr_neq_nil, binA_nil_eql_nil, binA_nil_neq_nil, unA_not, unA_not_unkb, unA_neg, Bool.not_true, Bool.not_false, false_implies, true_implies, eq_self, hxr]
          refine ⟨?_, kAB⟩
          simp
      have q5 : (x.Op == 5) = false := by simp [h5']
      by_cases h6 : x.Op = 6
      · have e1 : (x.Op == 6) = true := by simp [h6]
        have hu : unN x.Op b.v = FloatKind.f64.nearest (sgN b.v) := by unfold unN; rw [if_neg h4, if_neg h5', if_pos h6]
        rw [hu]
        try simp -dsimp -implicitDefEqProofs only [↓later_1, ↓later_2, ↓later_3, obind_some, ↓Split_true, ↓Split_false, ↓run_pCond, ↓run_pCond_unkb, ↓run_pGuardT, ↓run_pGuardF, ↓run_pGuard_unkb, ↓run_pGuardST, ↓run_pGuardSF, ↓pGuard_tup, ↓pGuardS_tup, ↓run_pPick, ↓run_pIdx, ↓run_pExtract0, ↓run_pExtractS, ↓pJoin_eq, nth_zero, nth_cons, exitQ_normal, exitQ_exit, exitQ_ret, frOf_cons, ↓reduceIte, Nat.reduceEqDiff, loopPost_exit, loopPost_ret, pLen_str, pLen_isl, pLen_gsl, pLen_sl, pLen_nils, pLen_eml, pLen_array, pLen_slAV, pConv_int, pConv_str, pBox_true, pBox_false, pAlloc_eq, cells_agg, fits_agg, pNil_ptr, pNil_iptr, pNil_fn, pFieldAddr_ptr, pFieldAddr_iptr, pField_agg, pCells_zero, pCells_succ, pCells_some, Nat.reduceAdd, Nat.reduceLeDiff, Nat.le_refl, pLoad_iptr, pLoad_push, Nat.zero_add, Nat.add_zero, List.drop_zero, List.drop_succ_cons, List.length_cons, List.length_nil, List.take_succ_cons, List.take_zero, true_and, and_true, binA_int_eql, binA_int_neq, binA_int_lss, binA_int_leq, binA_int_gtr, binA_int_geq, binA_int_add, binA_int_sub, binA_int_mul, binA_int_and, binA_int_or, binA_int_xor, binA_str_eql, binA_str_neq, binA_bool_eql, binA_bool_neq, binA_ptr_eql_nil, binA_ptr_neq_nil, binA_iptr_eql_nil, binA_iptr_neq_nil, binA_nil_eql_nil, binA_nil_neq_nil, unA_not, unA_not_unkb, unA_neg, Bool.not_true, Bool.not_false, false_implies, true_implies, eq_self, pLoad_ptr hloc, q4, q5, e1, pConv_i2f]
        refine (bits_does _ _).mono ?_
        rintro _ _ ⟨rfl, rfl⟩
        try simp -dsimp -implicitDefEqProofs only [↓later_1, ↓later_2, ↓later_3, obind_some, ↓Split_true, ↓Split_false, ↓run_pCond, ↓run_pCond_unkb, ↓run_pGuardT, ↓run_pGuardF, ↓run_pGuard_unkb, ↓run_pGuardST, ↓run_pGuardSF, ↓pGuard_tup, ↓pGuardS_tup, ↓run_pPick, ↓run_pIdx, ↓run_pExtract0, ↓run_pExtractS, ↓pJoin_eq, nth_zero, nth_cons, exitQ_normal, exitQ_exit, exitQ_ret, frOf_cons, ↓reduceIte, Nat.reduceEqDiff, loopPost_exit, loopPost_ret, pLen_str, pLen_isl, pLen_gsl, pLen_sl, pLen_nils, pLen_eml, pLen_array, pLen_slAV, pConv_int, pConv_str, pBox_true, pBox_false, pAlloc_eq, cells_agg, fits_agg, pNil_ptr, pNil_iptr, pNil_fn, pFieldAddr_ptr, pFieldAddr_iptr, pField_agg, pCells_zero, pCells_succ, pCells_some, Nat.reduceAdd, Nat.reduceLeDiff, Nat.le_refl, pLoad_iptr, pLoad_push, Nat.zero_add, Nat.add_zero, List.drop_zero, List.drop_succ_cons, List.length_cons, List.length_nil, List.take_succ_cons, List.take_zero, true_and, and_true, binA_int_eql, binA_int_neq, binA_int_lss, binA_int_leq, binA_int_gtr, binA_int_geq, binA_int_add, binA_int_sub, binA_int_mul, binA_int_and, binA_int_or, binA_int_xor, binA_str_eql, binA_str_neq, binA_bool_eql, binA_bool_neq, binA_ptr_eql_nil, binA_ptr_neq_nil, binA_iptr_eql_nil, binA_iptr_neq_nil, binA_nil_eql_nil, binA_nil_neq_nil, unA_not, unA_not_unkb, unA_neg, Bool.not_true, Bool.not_false, false_implies, true_implies, eq_self]
        first | exact ⟨rfl, kAB⟩ | exact kAB
      have q6 : (x.Op == 6) = false := by simp [h6]
      have e7 : (x.Op == 7) = true := by simp; omega
      have hu : unN x.Op b.v = (IntKind.u64.wrap (truncN b.v)).toNat := by unfold unN; rw [if_neg h4, if_neg h5', if_neg h6]
      rw [hu, u64n]
      try simp -dsimp -implicitDefEqProofs only [↓later_1, ↓later_2, ↓later_3, obind_some, ↓Split_true, ↓Split_false, ↓run_pCond, ↓run_pCond_unkb, ↓run_pGuardT, ↓run_pGuardF, ↓run_pGuard_unkb, ↓run_pGuardST, ↓run_pGuardSF, ↓pGuard_tup, ↓pGuardS_tup, ↓run_pPick, ↓run_pIdx, ↓run_pExtract0, ↓run_pExtractS, ↓pJoin_eq, nth_zero, nth_cons, exitQ_normal, exitQ_exit, exitQ_ret, frOf_cons, ↓reduceIte, Nat.reduceEqDiff, loopPost_exit, loopPost_ret, pLen_str, pLen_isl, pLen_gsl, pLen_sl, pLen_nils, pLen_eml, pLen_array, pLen_slAV, pConv_int, pConv_str, pBox_true, pBox_false, pAlloc_eq, cells_agg, fits_agg, pNil_ptr, pNil_iptr, pNil_fn, pFieldAddr_ptr, pFieldAddr_iptr, pField_agg, pCells_zero, pCells_succ, pCells_some, Nat.reduceAdd, Nat.reduceLeDiff, Nat.le_refl, pLoad_iptr, pLoad_push, Nat.zero_add, Nat.add_zero, List.drop_zero, List.drop_succ_cons, List.length_cons, List.length_nil, List.take_succ_cons, List.take_zero, true_and, and_true, binA_int_eql, binA_int_neq, binA_int_lss, binA_int_leq, binA_int_gtr, binA_int_geq, binA_int_add, binA_int_sub, binA_int_mul, binA_int_and, binA_int_or, binA_int_xor, binA_str_eql, binA_str_neq, binA_bool_eql, binA_bool_neq, binA_ptr_eql_nil, binA_ptr_neq_nil, binA_iptr_eql_nil, binA_iptr_neq_nil, binA_nil_eql_nil, binA_nil_neq_nil, unA_not, unA_not_unkb, unA_neg, Bool.not_true, Bool.not_false, false_implies, true_implies, eq_self, pLoad_ptr hloc, q4, q5, q6, e7]
      refine (ref_Trunc_does b.v hbv _).mono ?_
      rintro _ _ ⟨rfl, rfl⟩
      try simp -dsimp -implicitDefEqProofs only [↓later_1, ↓later_2, ↓later_3, obind_some, ↓Split_true, ↓Split_false, ↓run_pCond, ↓run_pCond_unkb, ↓run_pGuardT, ↓run_pGuardF, ↓run_pGuard_unkb, ↓run_pGuardST, ↓run_pGuardSF, ↓pGuard_tup, ↓pGuardS_tup, ↓run_pPick, ↓run_pIdx, ↓run_pExtract0, ↓run_pExtractS, ↓pJoin_eq, nth_zero, nth_cons, exitQ_normal, exitQ_exit, exitQ_ret, frOf_cons, ↓reduceIte, Nat.reduceEqDiff, loopPost_exit, loopPost_ret, pLen_str, pLen_isl, pLen_gsl, pLen_sl, pLen_nils, pLen_eml, pLen_array, pLen_slAV, pConv_int, pConv_str, pBox_true, pBox_false, pAlloc_eq, cells_agg, fits_agg, pNil_ptr, pNil_iptr, pNil_fn, pFieldAddr_ptr, pFieldAddr_iptr, pField_agg, pCells_zero, pCells_succ, pCells_some, Nat.reduceAdd, Nat.reduceLeDiff, Nat.le_refl, pLoad_iptr, pLoad_push, Nat.zero_add, Nat.add_zero, List.drop_zero, List.drop_succ_cons, List.length_cons, List.length_nil, List.take_succ_cons, List.take_zero, true_and, and_true, binA_int_eql, binA_int_neq, binA_int_lss, binA_int_leq, binA_int_gtr, binA_int_geq, binA_int_add, binA_int_sub, binA_int_mul, binA_int_and, binA_int_or, binA_int_xor, binA_str_eql, binA_str_neq, binA_bool_eql, binA_bool_neq, binA_ptr_eql_nil, binA_ptr_neq_nil, binA_iptr_eql_nil, binA_iptr_neq_nil, binA_nil_eql_nil, binA_nil_neq_nil, unA_not, unA_not_unkb, unA_neg, Bool.not_true, Bool.not_false, false_implies, true_implies, eq_self]
      first | exact ⟨rfl, kAB⟩ | exact kAB
    · have h810 : 8 ≤ x.Op ∧ x.Op ≤ 10 := by
        by_cases c : 8 ≤ x.Op ∧ x.Op ≤ 10
        · exact c
        · exfalso; unfold needsI at hnb; rw [if_neg (by omega), if_neg h47, if_neg c] at hnb; omega
      have hn2 : needsI x.Op = 2 := by unfold needsI; rw [if_neg (by omega), if_neg h47, if_pos h810]
      have hne2 : annN (slL slots) (slL inputs) (slL items) b.from_ ≠ [] := by intro e; rw [eb, e] at hlen; simp at hlen; omega
      obtain ⟨c, ec, hcf, hcv, cc⟩ := top b.from_ (by omega) hne2
      rw [ec, if_neg (by omega), if_neg (by omega)] at ha
      simp only [List.cons.injEq] at ha
      have q4 : (x.Op == 4) = false := by simp; omega
      have q5 : (x.Op == 5) = false := by simp; omega
      have q6 : (x.Op == 6) = false := by simp; omega
      have q7 : (x.Op == 7) = false := by simp; omega
      have wf : IntKind.i64.wrap ((b.from_ : Int) - 1) = ((b.from_ - 1 : Nat) : Int) := by rw [wrapI (by omega) (by omega)]; omega
      try simp -dsimp -implicitDefEqProofs only [↓later_1, ↓later_2, ↓later_3, obind_some, ↓Split_true, ↓Split_false, ↓run_pCond, ↓run_pCond_unkb, ↓run_pGuardT, ↓run_pGuardF, ↓run_pGuard_unkb, ↓run_pGuardST, ↓run_pGuardSF, ↓pGuard_tup, ↓pGuardS_tup, ↓run_pPick, ↓run_pIdx, ↓run_pExtract0, ↓run_pExtractS, ↓pJoin_eq, nth_zero, nth_cons, exitQ_normal, exitQ_exit, exitQ_ret, frOf_cons, ↓reduceIte, Nat.reduceEqDiff, loopPost_exit, loopPost_ret, pLen_str, pLen_isl, pLen_gsl, pLen_sl, pLen_nils, pLen_eml, pLen_array, pLen_slAV, pConv_int, pConv_str, pBox_true, pBox_false, pAlloc_eq, cells_agg, fits_agg, pNil_ptr, pNil_iptr, pNil_fn, pFieldAddr_ptr, pFieldAddr_iptr, pField_agg, pCells_zero, pCells_succ, pCells_some, Nat.reduceAdd, Nat.reduceLeDiff, Nat.le_refl, pLoad_iptr, pLoad_push, Nat.zero_add, Nat.add_zero, List.drop_zero, List.drop_succ_cons, List.length_cons, List.length_nil, List.take_succ_cons, List.take_zero, true_and, and_true, binA_int_eql, binA_int_neq, binA_int_lss, binA_int_leq, binA_int_gtr, binA_int_geq, binA_int_add, binA_int_sub, binA_int_mul, binA_int_and, binA_int_or, binA_int_xor, binA_str_eql, binA_str_neq, binA_bool_eql, binA_bool_neq, binA_ptr_eql_nil, binA_ptr_neq_nil, binA_iptr_eql_nil, binA_iptr_neq_nil, binA_nil_eql_nil, binA_nil_neq_nil, unA_not, unA_not_unkb, unA_neg, Bool.not_true, Bool.not_false, false_implies, true_implies, eq_self, pLoad_ptr hloc, q4, q5, q6, q7, wf]
      refine (cc _).mono ?_
      rintro _ h6 ⟨rfl, k6⟩
      have hloc6 : h6.objs h.next = some (.row 44 [.int .i64 x.Op, .int .i64 x.Bin, .int .u64 (x.N : Nat)]) := by
        have := k5.next
        simp at this
        rw [k6.objs h.next (by omega) (fun h => h)]; exact hloc
      have kABC := kAB.trans k6 (fun _ _ h => h)
      unfold anV
      obtain ⟨ha, -⟩ := ha
      cases hcb : c.bad with
      | true =>
        have t1 : (((true : Bool).toNat : Nat) : Int) != 0 := by decide
        try simp -dsimp -implicitDefEqProofs only [↓later_1, ↓later_2, ↓later_3, obind_some, ↓Split_true, ↓Split_false, ↓run_pCond, ↓run_pCond_unkb, ↓run_pGuardT, ↓run_pGuardF, ↓run_pGuard_unkb, ↓run_pGuardST, ↓run_pGuardSF, ↓pGuard_tup, ↓pGuardS_tup, ↓run_pPick, ↓run_pIdx, ↓run_pExtract0, ↓run_pExtractS, ↓pJoin_eq, nth_zero, nth_cons, exitQ_normal, exitQ_exit, exitQ_ret, frOf_cons, ↓reduceIte, Nat.reduceEqDiff, loopPost_exit, loopPost_ret, pLen_str, pLen_isl, pLen_gsl, pLen_sl, pLen_nils, pLen_eml, pLen_array, pLen_slAV, pConv_int, pConv_str, pBox_true, pBox_false, pAlloc_eq, cells_agg, fits_agg, pNil_ptr, pNil_iptr, pNil_fn, pFieldAddr_ptr, pFieldAddr_iptr, pField_agg, pCells_zero, pCells_succ, pCells_some, Nat.reduceAdd, Nat.reduceLeDiff, Nat.le_refl, pLoad_iptr, pLoad_push, Nat.zero_add, Nat.add_zero, List.drop_zero, List.drop_succ_cons, List.length_cons, List.length_nil, List.take_succ_cons, List.take_zero, true_and, and_true, binA_int_eql, binA_int_neq, binA_int_lss, binA_int_leq, binA_int_gtr, binA_int_geq, binA_int_add, binA_int_sub, binA_int_mul, binA_int_and, binA_int_or, binA_int_xor, binA_str_eql, binA_str_neq, binA_bool_eql, binA_bool_neq, binA_ptr_eql_nil, binA_ptr_neq_nil, binA_iptr_eql_nil, binA_iptr_neq_nil, binA_nil_eql_nil, binA_nil_neq_nil, unA_not, unA_not_unkb, unA_neg, Bool.not_true, Bool.not_false, false_implies, true_implies, eq_self, t1]
        rw [hcb] at ha
        simp only [Bool.true_or, if_true] at ha
        subst ha
        first | exact ⟨rfl, kABC⟩ | exact kABC
      | false =>
        have t0 : ((((false : Bool).toNat : Nat) : Int) != 0) = false := by decide
        cases hbb : b.bad with
        | true =>
          have t1 : (((true : Bool).toNat : Nat) : Int) != 0 := by decide
          try simp -dsimp -implicitDefEqProofs only [↓later_1, ↓later_2, ↓later_3, obind_some, ↓Split_true, ↓Split_false, ↓run_pCond, ↓run_pCond_unkb, ↓run_pGuardT, ↓run_pGuardF, ↓run_pGuard_unkb, ↓run_pGuardST, ↓run_pGuardSF, ↓pGuard_tup, ↓pGuardS_tup, ↓run_pPick, ↓run_pIdx, ↓run_pExtract0, ↓run_pExtractS, ↓pJoin_eq, nth_zero, nth_cons, exitQ_normal, exitQ_exit, exitQ_ret, frOf_cons, ↓reduceIte, Nat.reduceEqDiff, loopPost_exit, loopPost_ret, pLen_str, pLen_isl, pLen_gsl, pLen_sl, pLen_nils, pLen_eml, pLen_array, pLen_slAV, pConv_int, pConv_str, pBox_true, pBox_false, pAlloc_eq, cells_agg, fits_agg, pNil_ptr, pNil_iptr, pNil_fn, pFieldAddr_ptr, pFieldAddr_iptr, pField_agg, pCells_zero, pCells_succ, pCells_some, Nat.reduceAdd, Nat.reduceLeDiff, Nat.le_refl, pLoad_iptr, pLoad_push, Nat.zero_add, Nat.add_zero, List.drop_zero, List.drop_succ_cons, List.length_cons, List.length_nil, List.take_succ_cons, List.take_zero, true_and, and_true, binA_int_eql, binA_int_neq, binA_int_lss, binA_int_leq, binA_int_gtr, binA_int_geq, binA_int_add, binA_int_sub, binA_int_mul, binA_int_and, binA_int_or, binA_int_xor, binA_str_eql, binA_str_neq, binA_bool_eql, binA_bool_neq, binA_ptr_eql_nil, binA_ptr_neq_nil, binA_iptr_eql_nil, binA_iptr_neq_nil, binA_nil_eql_nil, binA_nil_neq_nil, unA_not, unA_not_unkb, unA_neg, Bool.not_true, Bool.not_false, false_implies, true_implies, eq_self, t0, t1]
          rw [hcb, hbb] at ha
          simp only [Bool.or_true, if_true] at ha
          subst ha
          first | exact ⟨rfl, kABC⟩ | exact kABC
        | false =>
          rw [hcb, hbb] at ha
          simp only [Bool.or_self, Bool.false_eq_true, if_false] at ha
          try simp -dsimp -implicitDefEqProofs only [↓later_1, ↓later_2, ↓later_3, obind_some, ↓Split_true, ↓Split_false, ↓run_pCond, ↓run_pCond_unkb, ↓run_pGuardT, ↓run_pGuardF, ↓run_pGuard_unkb, ↓run_pGuardST, ↓run_pGuardSF, ↓pGuard_tup, ↓pGuardS_tup, ↓run_pPick, ↓run_pIdx, ↓run_pExtract0, ↓run_pExtractS, ↓pJoin_eq, nth_zero, nth_cons, exitQ_normal, exitQ_exit, exitQ_ret, frOf_cons, ↓reduceIte, Nat.reduceEqDiff, loopPost_exit, loopPost_ret, pLen_str, pLen_isl, pLen_gsl, pLen_sl, pLen_nils, pLen_eml, pLen_array, pLen_slAV, pConv_int, pConv_str, pBox_true, pBox_false, pAlloc_eq, cells_agg, fits_agg, pNil_ptr, pNil_iptr, pNil_fn, pFieldAddr_ptr, pFieldAddr_iptr, pField_agg, pCells_zero, pCells_succ, pCells_some, Nat.reduceAdd, Nat.reduceLeDiff, Nat.le_refl, pLoad_iptr, pLoad_push, Nat.zero_add, Nat.add_zero, List.drop_zero, List.drop_succ_cons, List.length_cons, List.length_nil, List.take_succ_cons, List.take_zero, true_and, and_true, binA_int_eql, binA_int_neq, binA_int_lss, binA_int_leq, binA_int_gtr, binA_int_geq, binA_int_add, binA_int_sub, binA_int_mul, binA_int_and, binA_int_or, binA_int_xor, binA_str_eql, binA_str_neq, binA_bool_eql, binA_bool_neq, binA_ptr_eql_nil, binA_ptr_neq_nil, binA_iptr_eql_nil, binA_iptr_neq_nil, binA_nil_eql_nil, binA_nil_neq_nil, unA_not, unA_not_unkb, unA_neg, Bool.not_true, Bool.not_false, false_implies, true_implies, eq_self, t0, pLoad_ptr hloc6]
          by_cases h9 : x.Op = 9
          · have e9 : (x.Op == 9) = true := by simp [h9]
            have hb9 : binN x c.v b.v = some (realR x.Bin c.v b.v) := by unfold binN; rw [if_pos h9]
            rw [hb9] at ha
            simp only at ha
            subst ha
            try simp -dsimp -implicitDefEqProofs only [↓later_1, ↓later_2, ↓later_3, obind_some, ↓Split_true, ↓Split_false, ↓run_pCond, ↓run_pCond_unkb, ↓run_pGuardT, ↓run_pGuardF, ↓run_pGuard_unkb, ↓run_pGuardST, ↓run_pGuardSF, ↓pGuard_tup, ↓pGuardS_tup, ↓run_pPick, ↓run_pIdx, ↓run_pExtract0, ↓run_pExtractS, ↓pJoin_eq, nth_zero, nth_cons, exitQ_normal, exitQ_exit, exitQ_ret, frOf_cons, ↓reduceIte, Nat.reduceEqDiff, loopPost_exit, loopPost_ret, pLen_str, pLen_isl, pLen_gsl, pLen_sl, pLen_nils, pLen_eml, pLen_array, pLen_slAV, pConv_int, pConv_str, pBox_true, pBox_false, pAlloc_eq, cells_agg, fits_agg, pNil_ptr, pNil_iptr, pNil_fn, pFieldAddr_ptr, pFieldAddr_iptr, pField_agg, pCells_zero, pCells_succ, pCells_some, Nat.reduceAdd, Nat.reduceLeDiff, Nat.le_refl, pLoad_iptr, pLoad_push, Nat.zero_add, Nat.add_zero, List.drop_zero, List.drop_succ_cons, List.length_cons, List.length_nil, List.take_succ_cons, List.take_zero, true_and, and_true, binA_int_eql, binA_int_neq, binA_int_lss, binA_int_leq, binA_int_gtr, binA_int_geq, binA_int_add, binA_int_sub, binA_int_mul, binA_int_and, binA_int_or, binA_int_xor, binA_str_eql, binA_str_neq, binA_bool_eql, binA_bool_neq, binA_ptr_eql_nil, binA_ptr_neq_nil, binA_iptr_eql_nil, binA_iptr_neq_nil, binA_nil_eql_nil, binA_nil_neq_nil, unA_not, unA_not_unkb, unA_neg, Bool.not_true, Bool.not_false, false_implies, true_implies, eq_self, e9, pLoad_ptr hloc6]
            refine (ref_Real_does x.Bin c.v b.v hcv hbv _).mono ?_
            rintro _ _ ⟨rfl, rfl⟩
            try simp -dsimp -implicitDefEqProofs only [↓later_1, ↓later_2, ↓later_3, obind_some, ↓Split_true, ↓Split_false, ↓run_pCond, ↓run_pCond_unkb, ↓run_pGuardT, ↓run_pGuardF, ↓run_pGuard_unkb, ↓run_pGuardST, ↓run_pGuardSF, ↓pGuard_tup, ↓pGuardS_tup, ↓run_pPick, ↓run_pIdx, ↓run_pExtract0, ↓run_pExtractS, ↓pJoin_eq, nth_zero, nth_cons, exitQ_normal, exitQ_exit, exitQ_ret, frOf_cons, ↓reduceIte, Nat.reduceEqDiff, loopPost_exit, loopPost_ret, pLen_str, pLen_isl, pLen_gsl, pLen_sl, pLen_nils, pLen_eml, pLen_array, pLen_slAV, pConv_int, pConv_str, pBox_true, pBox_false, pAlloc_eq, cells_agg, fits_agg, pNil_ptr, pNil_iptr, pNil_fn, pFieldAddr_ptr, pFieldAddr_iptr, pField_agg, pCells_zero, pCells_succ, pCells_some, Nat.reduceAdd, Nat.reduceLeDiff, Nat.le_refl, pLoad_iptr, pLoad_push, Nat.zero_add, Nat.add_zero, List.drop_zero, List.drop_succ_cons, List.length_cons, List.length_nil, List.take_succ_cons, List.take_zero, true_and, and_true, binA_int_eql, binA_int_neq, binA_int_lss, binA_int_leq, binA_int_gtr, binA_int_geq, binA_int_add, binA_int_sub, binA_int_mul, binA_int_and, binA_int_or, binA_int_xor, binA_str_eql, binA_str_neq, binA_bool_eql, binA_bool_neq, binA_ptr_eql_nil, binA_ptr_neq_nil, binA_iptr_eql_nil, binA_iptr_neq_nil, binA_nil_eql_nil, binA_nil_neq_nil, unA_not, unA_not_unkb, unA_neg, Bool.not_true, Bool.not_false, false_implies, true_implies, eq_self]
            first | exact ⟨rfl, kABC⟩ | exact kABC
          · have e9 : (x.Op == 9) = false := by simp [h9]
            try simp -dsimp -implicitDefEqProofs only [↓later_1, ↓later_2, ↓later_3, obind_some, ↓Split_true, ↓Split_false, ↓run_pCond, ↓run_pCond_unkb, ↓run_pGuardT, ↓run_pGuardF, ↓run_pGuard_unkb, ↓run_pGuardST, ↓run_pGuardSF, ↓pGuard_tup, ↓pGuardS_tup, ↓run_pPick, ↓run_pIdx, ↓run_pExtract0, ↓run_pExtractS, ↓pJoin_eq, nth_zero, nth_cons, exitQ_normal, exitQ_exit, exitQ_ret, frOf_cons, ↓reduceIte, Nat.reduceEqDiff, loopPost_exit, loopPost_ret, pLen_str, pLen_isl, pLen_gsl, pLen_sl, pLen_nils, pLen_eml, pLen_array, pLen_slAV, pConv_int, pConv_str, pBox_true, pBox_false, pAlloc_eq, cells_agg, fits_agg, pNil_ptr, pNil_iptr, pNil_fn, pFieldAddr_ptr, pFieldAddr_iptr, pField_agg, pCells_zero, pCells_succ, pCells_some, Nat.reduceAdd, Nat.reduceLeDiff, Nat.le_refl, pLoad_iptr, pLoad_push, Nat.zero_add, Nat.add_zero, List.drop_zero, List.drop_succ_cons, List.length_cons, List.length_nil, List.take_succ_cons, List.take_zero, true_and, and_true, binA_int_eql, binA_int_neq, binA_int_lss, binA_int_leq, binA_int_gtr, binA_int_geq, binA_int_add, binA_int_sub, binA_int_mul, binA_int_and, binA_int_or, binA_int_xor, binA_str_eql, binA_str_neq, binA_bool_eql, binA_bool_neq, binA_ptr_eql_nil, binA_ptr_neq_nil, binA_iptr_eql_nil, binA_iptr_neq_nil, binA_nil_eql_nil, binA_nil_neq_nil, unA_not, unA_not_unkb, unA_neg, Bool.not_true, Bool.not_false, false_implies, true_implies, eq_self, e9, pLoad_ptr hloc6]
            refine (ref_Int_does x.Bin (sgN c.v) (sgN b.v) (sgN_ok _) (sgN_ok _) _).mono ?_
            rintro _ _ ⟨rfl, rfl⟩
            unfold intV
            unfold binN at ha
            rw [if_neg h9] at ha
            cases hb : (intR x.Bin (sgN c.v) (sgN b.v)).2 with
            | true =>
              rw [hb, if_pos rfl] at ha
              simp only at ha
              subst ha
              try simp -dsimp -implicitDefEqProofs only [↓later_1, ↓later_2, ↓later_3, obind_some, ↓Split_true, ↓Split_false, ↓run_pCond, ↓run_pCond_unkb, ↓run_pGuardT, ↓run_pGuardF, ↓run_pGuard_unkb, ↓run_pGuardST, ↓run_pGuardSF, ↓pGuard_tup, ↓pGuardS_tup, ↓run_pPick, ↓run_pIdx, ↓run_pExtract0, ↓run_pExtractS, ↓pJoin_eq, nth_zero, nth_cons, exitQ_normal, exitQ_exit, exitQ_ret, frOf_cons, ↓reduceIte, Nat.reduceEqDiff, loopPost_exit, loopPost_ret, pLen_str, pLen_isl, pLen_gsl, pLen_sl, pLen_nils, pLen_eml, pLen_array, pLen_slAV, pConv_int, pConv_str, pBox_true, pBox_false, pAlloc_eq, cells_agg, fits_agg, pNil_ptr, pNil_iptr, pNil_fn, pFieldAddr_ptr, pFieldAddr_iptr, pField_agg, pCells_zero, pCells_succ, pCells_some, Nat.reduceAdd, Nat.reduceLeDiff, Nat.le_refl, pLoad_iptr, pLoad_push, Nat.zero_add, Nat.add_zero, List.drop_zero, List.drop_succ_cons, List.length_cons, List.length_nil, List.take_succ_cons, List.take_zero, true_and, and_true, binA_int_eql, binA_int_neq, binA_int_lss, binA_int_leq, binA_int_gtr, binA_int_geq, binA_int_add, binA_int_sub, binA_int_mul, binA_int_and, binA_int_or, binA_int_xor, binA_str_eql, binA_str_neq, binA_bool_eql, binA_bool_neq, binA_ptr_eql_nil, binA_ptr_neq_nil, binA_iptr_eql_nil, binA_iptr_neq_nil, binA_nil_eql_nil, binA_nil_neq_nil, unA_not, unA_not_unkb, unA_neg, Bool.not_true, Bool.not_false, false_implies, true_implies, eq_self]
              simp only [u64n]
              first | exact ⟨rfl, kABC⟩ | exact ⟨trivial, kABC⟩ | exact kABC
            | false =>
              rw [hb, if_neg Bool.false_ne_true] at ha
              simp only at ha
              subst ha
              try simp -dsimp -implicitDefEqProofs only [↓later_1, ↓later_2, ↓later_3, obind_some, ↓Split_true, ↓Split_false, ↓run_pCond, ↓run_pCond_unkb, ↓run_pGuardT, ↓run_pGuardF, ↓run_pGuard_unkb, ↓run_pGuardST, ↓run_pGuardSF, ↓pGuard_tup, ↓pGuardS_tup, ↓run_pPick, ↓run_pIdx, ↓run_pExtract0, ↓run_pExtractS, ↓pJoin_eq, nth_zero, nth_cons, exitQ_normal, exitQ_exit, exitQ_ret, frOf_cons, ↓reduceIte, Nat.reduceEqDiff, loopPost_exit, loopPost_ret, pLen_str, pLen_isl, pLen_gsl, pLen_sl, pLen_nils, pLen_eml, pLen_array, pLen_slAV, pConv_int, pConv_str, pBox_true, pBox_false, pAlloc_eq, cells_agg, fits_agg, pNil_ptr, pNil_iptr, pNil_fn, pFieldAddr_ptr, pFieldAddr_iptr, pField_agg, pCells_zero, pCells_succ, pCells_some, Nat.reduceAdd, Nat.reduceLeDiff, Nat.le_refl, pLoad_iptr, pLoad_push, Nat.zero_add, Nat.add_zero, List.drop_zero, List.drop_succ_cons, List.length_cons, List.length_nil, List.take_succ_cons, List.take_zero, true_and, and_true, binA_int_eql, binA_int_neq, binA_int_lss, binA_int_leq, binA_int_gtr, binA_int_geq, binA_int_add, binA_int_sub, binA_int_mul, binA_int_and, binA_int_or, binA_int_xor, binA_str_eql, binA_str_neq, binA_bool_eql, binA_bool_neq, binA_ptr_eql_nil, binA_ptr_neq_nil, binA_iptr_eql_nil, binA_iptr_neq_nil, binA_nil_eql_nil, binA_nil_neq_nil, unA_not, unA_not_unkb, unA_neg, Bool.not_true, Bool.not_false, false_implies, true_implies, eq_self]
              first | exact ⟨rfl, kABC⟩ | exact kABC

theorem ref_Eval_does (slots : Option (List Nat)) (inputs : Option (List Int)) (items : Option (List It)) (hs : okSl okN slots) (hsn : (slL slots).length ≤ 1000000) (hi : (slL inputs).length ≤ 1000000) (hok : okSl Api_Item.ok items) (hit : (slL items).length ≤ 1000) (h : AHeap) :
    CallsA Try.prog 32 [slAV 3 Api_Item.cells items, slAV 1 encN slots, slAV 1 encI inputs] h (fun v h2 => v = .tup [.int .u64 ((evalN (slL slots) (slL inputs) (slL items)).1 : Nat), .int .i64 (evalN (slL slots) (slL inputs) (slL items)).2] ∧ Keeps h h2 (fun _ => False)) := by
  apply padlockref08_Eval_wp
  try simp -dsimp -implicitDefEqProofs only [↓later_1, ↓later_2, ↓later_3, obind_some, ↓Split_true, ↓Split_false, ↓run_pCond, ↓run_pCond_unkb, ↓run_pGuardT, ↓run_pGuardF, ↓run_pGuard_unkb, ↓run_pGuardST, ↓run_pGuardSF, ↓pGuard_tup, ↓pGuardS_tup, ↓run_pPick, ↓run_pIdx, ↓run_pExtract0, ↓run_pExtractS, ↓pJoin_eq, nth_zero, nth_cons, exitQ_normal, exitQ_exit, exitQ_ret, frOf_cons, ↓reduceIte, Nat.reduceEqDiff, loopPost_exit, loopPost_ret, pLen_str, pLen_isl, pLen_gsl, pLen_sl, pLen_nils, pLen_eml, pLen_array, pLen_slAV, pConv_int, pConv_str, pBox_true, pBox_false, pAlloc_eq, cells_agg, fits_agg, pNil_ptr, pNil_iptr, pNil_fn, pFieldAddr_ptr, pFieldAddr_iptr, pField_agg, pCells_zero, pCells_succ, pCells_some, Nat.reduceAdd, Nat.reduceLeDiff, Nat.le_refl, pLoad_iptr, pLoad_push, Nat.zero_add, Nat.add_zero, List.drop_zero, List.drop_succ_cons, List.length_cons, List.length_nil, List.take_succ_cons, List.take_zero, true_and, and_true, binA_int_eql, binA_int_neq, binA_int_lss, binA_int_leq, binA_int_gtr, binA_int_geq, binA_int_add, binA_int_sub, binA_int_mul, binA_int_and, binA_int_or, binA_int_xor, binA_str_eql, binA_str_neq, binA_bool_eql, binA_bool_neq, binA_ptr_eql_nil, binA_ptr_neq_nil, binA_iptr_eql_nil, binA_iptr_neq_nil, binA_nil_eql_nil, binA_nil_neq_nil, unA_not, unA_not_unkb, unA_neg, Bool.not_true, Bool.not_false, false_implies, true_implies, eq_self]
  refine (ref_Good_does ((slL slots).length : Nat) ⟨by omega, by omega⟩ items hok (by omega) h).mono ?_
  rintro _ _ ⟨rfl, rfl⟩
  try simp -dsimp -implicitDefEqProofs only [↓later_1, ↓later_2, ↓later_3, obind_some, ↓Split_true, ↓Split_false, ↓run_pCond, ↓run_pCond_unkb, ↓run_pGuardT, ↓run_pGuardF, ↓run_pGuard_unkb, ↓run_pGuardST, ↓run_pGuardSF, ↓pGuard_tup, ↓pGuardS_tup, ↓run_pPick, ↓run_pIdx, ↓run_pExtract0, ↓run_pExtractS, ↓pJoin_eq, nth_zero, nth_cons, exitQ_normal, exitQ_exit, exitQ_ret, frOf_cons, ↓reduceIte, Nat.reduceEqDiff, loopPost_exit, loopPost_ret, pLen_str, pLen_isl, pLen_gsl, pLen_sl, pLen_nils, pLen_eml, pLen_array, pLen_slAV, pConv_int, pConv_str, pBox_true, pBox_false, pAlloc_eq, cells_agg, fits_agg, pNil_ptr, pNil_iptr, pNil_fn, pFieldAddr_ptr, pFieldAddr_iptr, pField_agg, pCells_zero, pCells_succ, pCells_some, Nat.reduceAdd, Nat.reduceLeDiff, Nat.le_refl, pLoad_iptr, pLoad_push, Nat.zero_add, Nat.add_zero, List.drop_zero, List.drop_succ_cons, List.length_cons, List.length_nil, List.take_succ_cons, List.take_zero, true_and, and_true, binA_int_eql, binA_int_neq, binA_int_lss, binA_int_leq, binA_int_gtr, binA_int_geq, binA_int_add, binA_int_sub, binA_int_mul, binA_int_and, binA_int_or, binA_int_xor, binA_str_eql, binA_str_neq, binA_bool_eql, binA_bool_neq, binA_ptr_eql_nil, binA_ptr_neq_nil, binA_iptr_eql_nil, binA_iptr_neq_nil, binA_nil_eql_nil, binA_nil_neq_nil, unA_not, unA_not_unkb, unA_neg, Bool.not_true, Bool.not_false, false_implies, true_implies, eq_self]
  cases hg : goodB (slL items) ((slL slots).length : Nat) with
  | false =>
    try simp -dsimp -implicitDefEqProofs only [↓later_1, ↓later_2, ↓later_3, obind_some, ↓Split_true, ↓Split_false, ↓run_pCond, ↓run_pCond_unkb, ↓run_pGuardT, ↓run_pGuardF, ↓run_pGuard_unkb, ↓run_pGuardST, ↓run_pGuardSF, ↓pGuard_tup, ↓pGuardS_tup, ↓run_pPick, ↓run_pIdx, ↓run_pExtract0, ↓run_pExtractS, ↓pJoin_eq, nth_zero, nth_cons, exitQ_normal, exitQ_exit, exitQ_ret, frOf_cons, ↓reduceIte, Nat.reduceEqDiff, loopPost_exit, loopPost_ret, pLen_str, pLen_isl, pLen_gsl, pLen_sl, pLen_nils, pLen_eml, pLen_array, pLen_slAV, pConv_int, pConv_str, pBox_true, pBox_false, pAlloc_eq, cells_agg, fits_agg, pNil_ptr, pNil_iptr, pNil_fn, pFieldAddr_ptr, pFieldAddr_iptr, pField_agg, pCells_zero, pCells_succ, pCells_some, Nat.reduceAdd, Nat.reduceLeDiff, Nat.le_refl, pLoad_iptr, pLoad_push, Nat.zero_add, Nat.add_zero, List.drop_zero, List.drop_succ_cons, List.length_cons, List.length_nil, List.take_succ_cons, List.take_zero, true_and, and_true, binA_int_eql, binA_int_neq, binA_int_lss, binA_int_leq, binA_int_gtr, binA_int_geq, binA_int_add, binA_int_sub, binA_int_mul, binA_int_and, binA_int_or, binA_int_xor, binA_str_eql, binA_str_neq, binA_bool_eql, binA_bool_neq, binA_ptr_eql_nil, binA_ptr_neq_nil, binA_iptr_eql_nil, binA_iptr_neq_nil, binA_nil_eql_nil, binA_nil_neq_nil, unA_not, unA_not_unkb, unA_neg, Bool.not_true, Bool.not_false, false_implies, true_implies, eq_self]
    have hg' : ¬ goodP (slL items) ((slL slots).length : Nat) := by unfold goodB at hg; simpa using hg
    have he : evalN (slL slots) (slL inputs) (slL items) = (0, 0) := by unfold evalN; rw [if_neg hg']
    rw [he]
    exact ⟨rfl, .refl _ _⟩
  | true =>
    have hg' : goodP (slL items) ((slL slots).length : Nat) := by unfold goodB at hg; simpa using hg
    obtain ⟨g1, g2, g3⟩ := id hg'
    have hne : 1 ≤ (slL items).length := by
      rcases Nat.eq_zero_or_pos (slL items).length with h0 | h0
      · have : slL items = [] := List.length_eq_zero_iff.1 h0
        rw [this] at g2; simp [high] at g2
      · exact h0
    obtain ⟨a, ea, ev⟩ := annN_eval (slots := slL slots) (inputs := slL inputs) hg'
    have hk : (slL items).length - 1 + 1 = (slL items).length := by omega
    obtain ⟨b, eb1, eb2⟩ := annN_under (slots := slL slots) (inputs := slL inputs) g1 ((slL items).length - 1) (by omega)
    have hab : a = b := by rw [hk, ea] at eb1; simp only [List.cons.injEq] at eb1; exact eb1.1
    have wk : IntKind.i64.wrap (((slL items).length : Int) - 1) = (((slL items).length - 1 : Nat) : Int) := by rw [wrapI (by omega) (by omega)]; omega
    try simp -dsimp -implicitDefEqProofs only [↓later_1, ↓later_2, ↓later_3, obind_some, ↓Split_true, ↓Split_false, ↓run_pCond, ↓run_pCond_unkb, ↓run_pGuardT, ↓run_pGuardF, ↓run_pGuard_unkb, ↓run_pGuardST, ↓run_pGuardSF, ↓pGuard_tup, ↓pGuardS_tup, ↓run_pPick, ↓run_pIdx, ↓run_pExtract0, ↓run_pExtractS, ↓pJoin_eq, nth_zero, nth_cons, exitQ_normal, exitQ_exit, exitQ_ret, frOf_cons, ↓reduceIte, Nat.reduceEqDiff, loopPost_exit, loopPost_ret, pLen_str, pLen_isl, pLen_gsl, pLen_sl, pLen_nils, pLen_eml, pLen_array, pLen_slAV, pConv_int, pConv_str, pBox_true, pBox_false, pAlloc_eq, cells_agg, fits_agg, pNil_ptr, pNil_iptr, pNil_fn, pFieldAddr_ptr, pFieldAddr_iptr, pField_agg, pCells_zero, pCells_succ, pCells_some, Nat.reduceAdd, Nat.reduceLeDiff, Nat.le_refl, pLoad_iptr, pLoad_push, Nat.zero_add, Nat.add_zero, List.drop_zero, List.drop_succ_cons, List.length_cons, List.length_nil, List.take_succ_cons, List.take_zero, true_and, and_true, binA_int_eql, binA_int_neq, binA_int_lss, binA_int_leq, binA_int_gtr, binA_int_geq, binA_int_add, binA_int_sub, binA_int_mul, binA_int_and, binA_int_or, binA_int_xor, binA_str_eql, binA_str_neq, binA_bool_eql, binA_bool_neq, binA_ptr_eql_nil, binA_ptr_neq_nil, binA_iptr_eql_nil, binA_iptr_neq_nil, binA_nil_eql_nil, binA_nil_neq_nil, unA_not, unA_not_unkb, unA_neg, Bool.not_true, Bool.not_false, false_implies, true_implies, eq_self, wk]
    refine (ref_value_does slots inputs items hs hi hok hit g1 ((slL items).length - 1) _ (by omega) b eb1).mono ?_
    rintro _ h3 ⟨rfl, k3⟩
    subst hab
    rw [ev]
    unfold anV
    cases hbad : a.bad with
    | true =>
      have t1 : ((((true : Bool).toNat : Nat) : Int) != 0) = true := by decide
      try simp -dsimp -implicitDefEqProofs only [↓later_1, ↓later_2, ↓later_3, obind_some, ↓Split_true, ↓Split_false, ↓run_pCond, ↓run_pCond_unkb, ↓run_pGuardT, ↓run_pGuardF, ↓run_pGuard_unkb, ↓run_pGuardST, ↓run_pGuardSF, ↓pGuard_tup, ↓pGuardS_tup, ↓run_pPick, ↓run_pIdx, ↓run_pExtract0, ↓run_pExtractS, ↓pJoin_eq, nth_zero, nth_cons, exitQ_normal, exitQ_exit, exitQ_ret, frOf_cons, ↓reduceIte, Nat.reduceEqDiff, loopPost_exit, loopPost_ret, pLen_str, pLen_isl, pLen_gsl, pLen_sl, pLen_nils, pLen_eml, pLen_array, pLen_slAV, pConv_int, pConv_str, pBox_true, pBox_false, pAlloc_eq, cells_agg, fits_agg, pNil_ptr, pNil_iptr, pNil_fn, pFieldAddr_ptr, pFieldAddr_iptr, pField_agg, pCells_zero, pCells_succ, pCells_some, Nat.reduceAdd, Nat.reduceLeDiff, Nat.le_refl, pLoad_iptr, pLoad_push, Nat.zero_add, Nat.add_zero, List.drop_zero, List.drop_succ_cons, List.length_cons, List.length_nil, List.take_succ_cons, List.take_zero, true_and, and_true, binA_int_eql, binA_int_neq, binA_int_lss, binA_int_leq, binA_int_gtr, binA_int_geq, binA_int_add, binA_int_sub, binA_int_mul, binA_int_and, binA_int_or, binA_int_xor, binA_str_eql, binA_str_neq, binA_bool_eql, binA_bool_neq, binA_ptr_eql_nil, binA_ptr_neq_nil, binA_iptr_eql_nil, binA_iptr_neq_nil, binA_nil_eql_nil, binA_nil_neq_nil, unA_not, unA_not_unkb, unA_neg, Bool.not_true, Bool.not_false, false_implies, true_implies, eq_self, t1]
      first | exact ⟨rfl, k3⟩ | exact k3
    | false =>
      have t0 : ((((false : Bool).toNat : Nat) : Int) != 0) = false := by decide
      try simp -dsimp -implicitDefEqProofs only [↓later_1, ↓later_2, ↓later_3, obind_some, ↓Split_true, ↓Split_false, ↓run_pCond, ↓run_pCond_unkb, ↓run_pGuardT, ↓run_pGuardF, ↓run_pGuard_unkb, ↓run_pGuardST, ↓run_pGuardSF, ↓pGuard_tup, ↓pGuardS_tup, ↓run_pPick, ↓run_pIdx, ↓run_pExtract0, ↓run_pExtractS, ↓pJoin_eq, nth_zero, nth_cons, exitQ_normal, exitQ_exit, exitQ_ret, frOf_cons, ↓reduceIte, Nat.reduceEqDiff, loopPost_exit, loopPost_ret, pLen_str, pLen_isl, pLen_gsl, pLen_sl, pLen_nils, pLen_eml, pLen_array, pLen_slAV, pConv_int, pConv_str, pBox_true, pBox_false, pAlloc_eq, cells_agg, fits_agg, pNil_ptr, pNil_iptr, pNil_fn, pFieldAddr_ptr, pFieldAddr_iptr, pField_agg, pCells_zero, pCells_succ, pCells_some, Nat.reduceAdd, Nat.reduceLeDiff, Nat.le_refl, pLoad_iptr, pLoad_push, Nat.zero_add, Nat.add_zero, List.drop_zero, List.drop_succ_cons, List.length_cons, List.length_nil, List.take_succ_cons, List.take_zero, true_and, and_true, binA_int_eql, binA_int_neq, binA_int_lss, binA_int_leq, binA_int_gtr, binA_int_geq, binA_int_add, binA_int_sub, binA_int_mul, binA_int_and, binA_int_or, binA_int_xor, binA_str_eql, binA_str_neq, binA_bool_eql, binA_bool_neq, binA_ptr_eql_nil, binA_ptr_neq_nil, binA_iptr_eql_nil, binA_iptr_neq_nil, binA_nil_eql_nil, binA_nil_neq_nil, unA_not, unA_not_unkb, unA_neg, Bool.not_true, Bool.not_false, false_implies, true_implies, eq_self, t0]
      first | exact ⟨rfl, k3⟩ | exact k3

end Go.Proofs.Ytkmehngemidiiaa
