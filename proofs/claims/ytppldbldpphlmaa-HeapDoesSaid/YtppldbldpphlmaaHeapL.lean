/- heap: a thing is the document's; what a nil heap answers. -/
import Derived.Test.YtppldbldpphlmaaHeapK
set_option linter.unusedVariables false
set_option linter.unusedSimpArgs false
set_option maxRecDepth 8000
set_option maxHeartbeats 1000000
namespace Go.Proofs.Ytppldbldpphlmaa
open Go.Abs

theorem same_none {h : AHeap} {F : Nat → Prop} {j : Nat} {ts : List Rt} {GL : AV} (p : RfAt h F j ts GL) (r : Nat) (hl : lk (ts.map Rt.rf) r = none) :
    CallsA Try.prog 22 [.agg [.int .i64 0, .int .i64 0, .nils], .bool false, .ptr j 0, .int .u64 (r : Int)] h (fun v h2 => v = .bool true ∧ Keeps h h2 (fun _ => False)) := by
  apply padlocklaw17_same_wp
  try simp -dsimp -implicitDefEqProofs only [↓later_1, ↓later_2, ↓later_3, obind_some, ↓Split_true, ↓Split_false, ↓run_pCond, ↓run_pCond_unkb, ↓run_pGuardT, ↓run_pGuardF, ↓run_pGuard_unkb, ↓run_pGuardST, ↓run_pGuardSF, ↓pGuard_tup, ↓pGuardS_tup, ↓run_pPick, ↓run_pIdx, ↓run_pExtract0, ↓run_pExtractS, ↓pJoin_eq, nth_zero, nth_cons, exitQ_normal, exitQ_exit, exitQ_ret, frOf_cons, ↓reduceIte, Nat.reduceEqDiff, loopPost_exit, loopPost_ret, pLen_str, pLen_isl, pLen_gsl, pLen_sl, pLen_nils, pLen_eml, pLen_array, pLen_slAV, pConv_int, pConv_str, pBox_true, pBox_false, pAlloc_eq, cells_agg, fits_agg, pNil_ptr, pNil_iptr, pNil_fn, pFieldAddr_ptr, pFieldAddr_iptr, pField_agg, pCells_zero, pCells_succ, pCells_some, Nat.reduceAdd, Nat.reduceLeDiff, Nat.le_refl, pLoad_iptr, pLoad_push, Nat.zero_add, Nat.add_zero, List.drop_zero, List.drop_succ_cons, List.length_cons, List.length_nil, List.take_succ_cons, List.take_zero, true_and, and_true, binA_int_eql, binA_int_neq, binA_int_lss, binA_int_leq, binA_int_gtr, binA_int_geq, binA_int_add, binA_int_sub, binA_int_mul, binA_int_and, binA_int_or, binA_int_xor, binA_str_eql, binA_str_neq, binA_bool_eql, binA_bool_neq, binA_ptr_eql_nil, binA_ptr_neq_nil, binA_iptr_eql_nil, binA_iptr_neq_nil, binA_nil_eql_nil, binA_nil_neq_nil, unA_not, unA_not_unkb, unA_neg, Bool.not_true, Bool.not_false, false_implies, true_implies, eq_self]
  refine (ref_Find_does p r).mono ?_
  rintro _ h2 ⟨rfl, k2⟩
  have e : fndI ts r = -1 := by
    unfold fndI
    cases hf : fnd (ts.map Rt.rf) r with
    | none => rfl
    | some i => obtain ⟨t, -, -, h3⟩ := fnd_some hf; rw [hl] at h3; cases h3
  rw [e]
  try simp -dsimp -implicitDefEqProofs only [↓later_1, ↓later_2, ↓later_3, obind_some, ↓Split_true, ↓Split_false, ↓run_pCond, ↓run_pCond_unkb, ↓run_pGuardT, ↓run_pGuardF, ↓run_pGuard_unkb, ↓run_pGuardST, ↓run_pGuardSF, ↓pGuard_tup, ↓pGuardS_tup, ↓run_pPick, ↓run_pIdx, ↓run_pExtract0, ↓run_pExtractS, ↓pJoin_eq, nth_zero, nth_cons, exitQ_normal, exitQ_exit, exitQ_ret, frOf_cons, ↓reduceIte, Nat.reduceEqDiff, loopPost_exit, loopPost_ret, pLen_str, pLen_isl, pLen_gsl, pLen_sl, pLen_nils, pLen_eml, pLen_array, pLen_slAV, pConv_int, pConv_str, pBox_true, pBox_false, pAlloc_eq, cells_agg, fits_agg, pNil_ptr, pNil_iptr, pNil_fn, pFieldAddr_ptr, pFieldAddr_iptr, pField_agg, pCells_zero, pCells_succ, pCells_some, Nat.reduceAdd, Nat.reduceLeDiff, Nat.le_refl, pLoad_iptr, pLoad_push, Nat.zero_add, Nat.add_zero, List.drop_zero, List.drop_succ_cons, List.length_cons, List.length_nil, List.take_succ_cons, List.take_zero, true_and, and_true, binA_int_eql, binA_int_neq, binA_int_lss, binA_int_leq, binA_int_gtr, binA_int_geq, binA_int_add, binA_int_sub, binA_int_mul, binA_int_and, binA_int_or, binA_int_xor, binA_str_eql, binA_str_neq, binA_bool_eql, binA_bool_neq, binA_ptr_eql_nil, binA_ptr_neq_nil, binA_iptr_eql_nil, binA_iptr_neq_nil, binA_nil_eql_nil, binA_nil_neq_nil, unA_not, unA_not_unkb, unA_neg, Bool.not_true, Bool.not_false, false_implies, true_implies, eq_self, show decide ((-1 : Int) < 0) = true from rfl, show ((0 : Int) == 0) = true from rfl]
  first | exact k2 | exact ⟨rfl, k2⟩

theorem same_some {h : AHeap} {F : Nat → Prop} {j lo : Nat} {ts : List Rt} {GL cl : AV} (p : RfAt h F j ts GL) (hF : ∀ x, F x → x < lo) (r : Nat) (u : Vw) (hl : lk (ts.map Rt.rf) r = some u) (hc : SlU h cl u.vals lo) (hlen : u.vals.length ≤ 16) :
    CallsA Try.prog 22 [.agg [.int .i64 u.site, .int .i64 u.cls, cl], .bool true, .ptr j 0, .int .u64 (r : Int)] h (fun v h2 => v = .bool true ∧ Keeps h h2 (fun x => lo ≤ x)) := by
  apply padlocklaw17_same_wp
  obtain ⟨i, t, hf, ht, hu⟩ : ∃ i t, fnd (ts.map Rt.rf) r = some i ∧ ts[i]? = some t ∧ t.rf.t = u := by
    cases hf : fnd (ts.map Rt.rf) r with
    | none => rw [fnd_none hf] at hl; cases hl
    | some i => obtain ⟨t, h1, -, h3⟩ := fnd_some hf; rw [hl] at h3; exact ⟨i, t, rfl, h1, (Option.some.inj h3).symm⟩
  subst hu
  have e : fndI ts r = i := by unfold fndI; rw [hf]
  have b1 : ∀ n : Int, (n != n) = false := by simp
  have hcf : cl.fits = true ∧ cl.cells = [cl] := by
    rcases hc with ⟨-, rfl⟩ | ⟨id, -, -, rfl, -⟩ <;> exact ⟨rfl, rfl⟩
  try simp -dsimp -implicitDefEqProofs only [↓later_1, ↓later_2, ↓later_3, obind_some, ↓Split_true, ↓Split_false, ↓run_pCond, ↓run_pCond_unkb, ↓run_pGuardT, ↓run_pGuardF, ↓run_pGuard_unkb, ↓run_pGuardST, ↓run_pGuardSF, ↓pGuard_tup, ↓pGuardS_tup, ↓run_pPick, ↓run_pIdx, ↓run_pExtract0, ↓run_pExtractS, ↓pJoin_eq, nth_zero, nth_cons, exitQ_normal, exitQ_exit, exitQ_ret, frOf_cons, ↓reduceIte, Nat.reduceEqDiff, loopPost_exit, loopPost_ret, pLen_str, pLen_isl, pLen_gsl, pLen_sl, pLen_nils, pLen_eml, pLen_array, pLen_slAV, pConv_int, pConv_str, pBox_true, pBox_false, pAlloc_eq, cells_agg, fits_agg, pNil_ptr, pNil_iptr, pNil_fn, pFieldAddr_ptr, pFieldAddr_iptr, pField_agg, pCells_zero, pCells_succ, pCells_some, Nat.reduceAdd, Nat.reduceLeDiff, Nat.le_refl, pLoad_iptr, pLoad_push, Nat.zero_add, Nat.add_zero, List.drop_zero, List.drop_succ_cons, List.length_cons, List.length_nil, List.take_succ_cons, List.take_zero, true_and, and_true, binA_int_eql, binA_int_neq, binA_int_lss, binA_int_leq, binA_int_gtr, binA_int_geq, binA_int_add, binA_int_sub, binA_int_mul, binA_int_and, binA_int_or, binA_int_xor, binA_str_eql, binA_str_neq, binA_bool_eql, binA_bool_neq, binA_ptr_eql_nil, binA_ptr_neq_nil, binA_iptr_eql_nil, binA_iptr_neq_nil, binA_nil_eql_nil, binA_nil_neq_nil, unA_not, unA_not_unkb, unA_neg, Bool.not_true, Bool.not_false, false_implies, true_implies, eq_self]
  refine (ref_Find_does p r).mono ?_
  rintro _ h2 ⟨rfl, k2⟩
  have p2 := p.keeps k2 (fun _ _ h => h)
  have hc2 := hc.keeps k2 (fun _ _ _ h => h)
  obtain ⟨g0, hg0⟩ := p2.row
  have r1 : ∀ K, pLoad none (.ptr j 1) h2 K = K (thsAV ts g0) := fun K => by rw [pLoad_ptr hg0, pCells_none]; rfl
  have hct : t.cells = [.int .u64 (t.ref : Int), .int .i64 t.site, .int .i64 t.cls, .sl t.id 0 t.vals.length 1] := rfl
  have d0 : decide ((i : Int) < 0) = false := decide_eq_false (by omega)
  have htm := p2.cells t (List.mem_of_getElem? ht)
  rw [e]
  try simp -dsimp -implicitDefEqProofs only [↓later_1, ↓later_2, ↓later_3, obind_some, ↓Split_true, ↓Split_false, ↓run_pCond, ↓run_pCond_unkb, ↓run_pGuardT, ↓run_pGuardF, ↓run_pGuard_unkb, ↓run_pGuardST, ↓run_pGuardSF, ↓pGuard_tup, ↓pGuardS_tup, ↓run_pPick, ↓run_pIdx, ↓run_pExtract0, ↓run_pExtractS, ↓pJoin_eq, nth_zero, nth_cons, exitQ_normal, exitQ_exit, exitQ_ret, frOf_cons, ↓reduceIte, Nat.reduceEqDiff, loopPost_exit, loopPost_ret, pLen_str, pLen_isl, pLen_gsl, pLen_sl, pLen_nils, pLen_eml, pLen_array, pLen_slAV, pConv_int, pConv_str, pBox_true, pBox_false, pAlloc_eq, cells_agg, fits_agg, pNil_ptr, pNil_iptr, pNil_fn, pFieldAddr_ptr, pFieldAddr_iptr, pField_agg, pCells_zero, pCells_succ, pCells_some, Nat.reduceAdd, Nat.reduceLeDiff, Nat.le_refl, pLoad_iptr, pLoad_push, Nat.zero_add, Nat.add_zero, List.drop_zero, List.drop_succ_cons, List.length_cons, List.length_nil, List.take_succ_cons, List.take_zero, true_and, and_true, binA_int_eql, binA_int_neq, binA_int_lss, binA_int_leq, binA_int_gtr, binA_int_geq, binA_int_add, binA_int_sub, binA_int_mul, binA_int_and, binA_int_or, binA_int_xor, binA_str_eql, binA_str_neq, binA_bool_eql, binA_bool_neq, binA_ptr_eql_nil, binA_ptr_neq_nil, binA_iptr_eql_nil, binA_iptr_neq_nil, binA_nil_eql_nil, binA_nil_neq_nil, unA_not, unA_not_unkb, unA_neg, Bool.not_true, Bool.not_false, false_implies, true_implies, eq_self, d0, r1, ths_at ht, hct]
  rw [pStore_push (by rfl) (by rfl)]
  have q0 := Keeps.push h2 (.row 106 [.int .u64 (t.ref : Int), .int .i64 t.site, .int .i64 t.cls, .sl t.id 0 t.vals.length 1])
  have hc3 := hc2.keeps q0 (fun _ _ _ h => h)
  have ev : t.rf.t.vals = t.vals := rfl
  have es : t.rf.t.site = t.site := rfl
  have ecl : t.rf.t.cls = t.cls := rfl
  have hlc : ∀ K, pLen .slice cl K = K (.int .i64 (t.vals.length : Nat)) := fun K => hc3.len K
  try simp -dsimp -implicitDefEqProofs only [↓later_1, ↓later_2, ↓later_3, obind_some, ↓Split_true, ↓Split_false, ↓run_pCond, ↓run_pCond_unkb, ↓run_pGuardT, ↓run_pGuardF, ↓run_pGuard_unkb, ↓run_pGuardST, ↓run_pGuardSF, ↓pGuard_tup, ↓pGuardS_tup, ↓run_pPick, ↓run_pIdx, ↓run_pExtract0, ↓run_pExtractS, ↓pJoin_eq, nth_zero, nth_cons, exitQ_normal, exitQ_exit, exitQ_ret, frOf_cons, ↓reduceIte, Nat.reduceEqDiff, loopPost_exit, loopPost_ret, pLen_str, pLen_isl, pLen_gsl, pLen_sl, pLen_nils, pLen_eml, pLen_array, pLen_slAV, pConv_int, pConv_str, pBox_true, pBox_false, pAlloc_eq, cells_agg, fits_agg, pNil_ptr, pNil_iptr, pNil_fn, pFieldAddr_ptr, pFieldAddr_iptr, pField_agg, pCells_zero, pCells_succ, pCells_some, Nat.reduceAdd, Nat.reduceLeDiff, Nat.le_refl, pLoad_iptr, pLoad_push, Nat.zero_add, Nat.add_zero, List.drop_zero, List.drop_succ_cons, List.length_cons, List.length_nil, List.take_succ_cons, List.take_zero, true_and, and_true, binA_int_eql, binA_int_neq, binA_int_lss, binA_int_leq, binA_int_gtr, binA_int_geq, binA_int_add, binA_int_sub, binA_int_mul, binA_int_and, binA_int_or, binA_int_xor, binA_str_eql, binA_str_neq, binA_bool_eql, binA_bool_neq, binA_ptr_eql_nil, binA_ptr_neq_nil, binA_iptr_eql_nil, binA_iptr_neq_nil, binA_nil_eql_nil, binA_nil_neq_nil, unA_not, unA_not_unkb, unA_neg, Bool.not_true, Bool.not_false, false_implies, true_implies, eq_self, es, ecl, b1, hlc]
  have hnx : h2.next < (h2.push (.row 106 [.int .u64 (t.ref : Int), .int .i64 t.site, .int .i64 t.cls, .sl t.id 0 t.vals.length 1])).next := by simp
  have kall : Keeps h (h2.push (.row 106 [.int .u64 (t.ref : Int), .int .i64 t.site, .int .i64 t.cls, .sl t.id 0 t.vals.length 1])) (fun x => lo ≤ x) := (k2.trans q0 (fun _ _ h => h)).mono (fun _ h => h.elim)
  have tlt : t.id < lo := hF _ htm.1
  have tnx : t.id < h2.next := p2.lt _ htm.1
  rcases hc2 with ⟨hnil, rfl⟩ | ⟨id, c1, c2, rfl, c4⟩
  · rw [ev] at hnil
    have hn0 : t.vals.length = 0 := by rw [hnil]; rfl
    refine WP_loop mixed_ (by kernel_rfl) (fun m fr hh => hh = h2.push (.row 106 [.int .u64 (t.ref : Int), .int .i64 t.site, .int .i64 t.cls, .sl t.id 0 t.vals.length 1]) ∧ fr = frOf [(4, .iptr [.int .i64 t.site, .int .i64 t.cls, .eml]), (10, .ptr h2.next 0), (69, .int .i64 t.vals.length), (70, .int .i64 0)]) 0 ⟨rfl, rfl⟩ ?_
    rintro m fr hh ⟨rfl, rfl⟩
    apply padlocklaw17_same_loop8
    generalize hI : (fun (m : Nat) (fr : Fr) (hh : AHeap) => _) = I
    have d1 : decide ((0 : Int) < (t.vals.length : Int)) = false := decide_eq_false (by omega)
    try simp -dsimp -implicitDefEqProofs only [↓later_1, ↓later_2, ↓later_3, obind_some, ↓Split_true, ↓Split_false, ↓run_pCond, ↓run_pCond_unkb, ↓run_pGuardT, ↓run_pGuardF, ↓run_pGuard_unkb, ↓run_pGuardST, ↓run_pGuardSF, ↓pGuard_tup, ↓pGuardS_tup, ↓run_pPick, ↓run_pIdx, ↓run_pExtract0, ↓run_pExtractS, ↓pJoin_eq, nth_zero, nth_cons, exitQ_normal, exitQ_exit, exitQ_ret, frOf_cons, ↓reduceIte, Nat.reduceEqDiff, loopPost_exit, loopPost_ret, pLen_str, pLen_isl, pLen_gsl, pLen_sl, pLen_nils, pLen_eml, pLen_array, pLen_slAV, pConv_int, pConv_str, pBox_true, pBox_false, pAlloc_eq, cells_agg, fits_agg, pNil_ptr, pNil_iptr, pNil_fn, pFieldAddr_ptr, pFieldAddr_iptr, pField_agg, pCells_zero, pCells_succ, pCells_some, Nat.reduceAdd, Nat.reduceLeDiff, Nat.le_refl, pLoad_iptr, pLoad_push, Nat.zero_add, Nat.add_zero, List.drop_zero, List.drop_succ_cons, List.length_cons, List.length_nil, List.take_succ_cons, List.take_zero, true_and, and_true, binA_int_eql, binA_int_neq, binA_int_lss, binA_int_leq, binA_int_gtr, binA_int_geq, binA_int_add, binA_int_sub, binA_int_mul, binA_int_and, binA_int_or, binA_int_xor, binA_str_eql, binA_str_neq, binA_bool_eql, binA_bool_neq, binA_ptr_eql_nil, binA_ptr_neq_nil, binA_iptr_eql_nil, binA_iptr_neq_nil, binA_nil_eql_nil, binA_nil_neq_nil, unA_not, unA_not_unkb, unA_neg, Bool.not_true, Bool.not_false, false_implies, true_implies, eq_self, d1]
    first | exact kall | exact ⟨rfl, kall⟩
  · rw [ev] at c4 hlen ⊢
    refine WP_loop mixed_ (by kernel_rfl) (fun m fr hh => ∃ (k : Nat) (cur : List Nat), k ≤ t.vals.length ∧ m = t.vals.length - k ∧ Keeps h hh (fun x => lo ≤ x) ∧ hh.objs h2.next = some (.row 106 [.int .u64 (t.ref : Int), .int .i64 t.site, .int .i64 t.cls, .sl t.id 0 t.vals.length 1]) ∧ hh.objs t.id = some (.row 28 (valCells t.vals)) ∧
      hh.objs id = some (.row 28 (valCells cur)) ∧ cur.length = t.vals.length ∧ (∀ q, k ≤ q → cur[q]? = t.vals[q]?) ∧
      fr = frOf [(4, .iptr [.int .i64 t.site, .int .i64 t.cls, .sl id 0 t.vals.length 1]), (10, .ptr h2.next 0), (69, .int .i64 t.vals.length), (70, .int .i64 (k : Nat))]) t.vals.length
      ⟨0, t.vals, by omega, by omega, kall, push_new _ _, by rw [push_old tnx]; exact htm.2, by rw [push_old c2]; exact c4, rfl, fun _ _ => rfl, rfl⟩ ?_
    rintro m fr hh ⟨k, cur, hk, rfl, kp, o1, o2, o3, hcl, hag, rfl⟩
    apply padlocklaw17_same_loop8
    generalize hI : (fun (m : Nat) (fr : Fr) (hh : AHeap) => _) = I
    by_cases hkl : k < t.vals.length
    · have d1 : decide ((k : Int) < (t.vals.length : Int)) = true := decide_eq_true (by omega)
      have wk : IntKind.i64.wrap ((k : Int) + 1) = ((k + 1 : Nat) : Int) := by rw [wrapI (by omega) (by omega)]; omega
      have ix : ∀ (a : Nat) (K : AV → Prop), pIndexAddr (.slice 1) (.sl a 0 t.vals.length 1) (.int .i64 (k : Int)) K = K (.ptr a k) := fun a K => by simp [pIndexAddr]; omega
      have hgd : cur.getD k 0 = t.vals.getD k 0 := by rw [List.getD_eq_getElem?_getD, List.getD_eq_getElem?_getD, hag k (by omega)]
      have ldA : ∀ K, pLoad none (.ptr id k) hh K = K (.int .u64 ((t.vals.getD k 0 : Nat) : Int)) := fun K => by rw [pLoad_ptr o3, pCells_none, valCells_get _ _ (by omega), hgd]
      have ldB : ∀ K, pLoad none (.ptr t.id k) hh K = K (.int .u64 ((t.vals.getD k 0 : Nat) : Int)) := fun K => by rw [pLoad_ptr o2, pCells_none, valCells_get _ _ (by omega)]
      have ldX : ∀ K, pLoad none (.ptr h2.next 3) hh K = K (.sl t.id 0 t.vals.length 1) := fun K => by rw [pLoad_ptr o1, pCells_none]; rfl
      obtain ⟨v, hv⟩ : ∃ v : Nat, IntKind.u64.wrap (((t.vals.getD k 0 : Nat) : Int) + 1) = (v : Int) := ⟨(IntKind.u64.wrap (((t.vals.getD k 0 : Nat) : Int) + 1)).toNat, by rw [wr_u64]; omega⟩
      try simp -dsimp -implicitDefEqProofs only [↓later_1, ↓later_2, ↓later_3, obind_some, ↓Split_true, ↓Split_false, ↓run_pCond, ↓run_pCond_unkb, ↓run_pGuardT, ↓run_pGuardF, ↓run_pGuard_unkb, ↓run_pGuardST, ↓run_pGuardSF, ↓pGuard_tup, ↓pGuardS_tup, ↓run_pPick, ↓run_pIdx, ↓run_pExtract0, ↓run_pExtractS, ↓pJoin_eq, nth_zero, nth_cons, exitQ_normal, exitQ_exit, exitQ_ret, frOf_cons, ↓reduceIte, Nat.reduceEqDiff, loopPost_exit, loopPost_ret, pLen_str, pLen_isl, pLen_gsl, pLen_sl, pLen_nils, pLen_eml, pLen_array, pLen_slAV, pConv_int, pConv_str, pBox_true, pBox_false, pAlloc_eq, cells_agg, fits_agg, pNil_ptr, pNil_iptr, pNil_fn, pFieldAddr_ptr, pFieldAddr_iptr, pField_agg, pCells_zero, pCells_succ, pCells_some, Nat.reduceAdd, Nat.reduceLeDiff, Nat.le_refl, pLoad_iptr, pLoad_push, Nat.zero_add, Nat.add_zero, List.drop_zero, List.drop_succ_cons, List.length_cons, List.length_nil, List.take_succ_cons, List.take_zero, true_and, and_true, binA_int_eql, binA_int_neq, binA_int_lss, binA_int_leq, binA_int_gtr, binA_int_geq, binA_int_add, binA_int_sub, binA_int_mul, binA_int_and, binA_int_or, binA_int_xor, binA_str_eql, binA_str_neq, binA_bool_eql, binA_bool_neq, binA_ptr_eql_nil, binA_ptr_neq_nil, binA_iptr_eql_nil, binA_iptr_neq_nil, binA_nil_eql_nil, binA_nil_neq_nil, unA_not, unA_not_unkb, unA_neg, Bool.not_true, Bool.not_false, false_implies, true_implies, eq_self, d1, ix, ldA, ldB, ldX, b1, hv]
      rw [pStore_ptr o3 rfl (by simp; omega), valCells_set]
      try simp -dsimp -implicitDefEqProofs only [↓later_1, ↓later_2, ↓later_3, obind_some, ↓Split_true, ↓Split_false, ↓run_pCond, ↓run_pCond_unkb, ↓run_pGuardT, ↓run_pGuardF, ↓run_pGuard_unkb, ↓run_pGuardST, ↓run_pGuardSF, ↓pGuard_tup, ↓pGuardS_tup, ↓run_pPick, ↓run_pIdx, ↓run_pExtract0, ↓run_pExtractS, ↓pJoin_eq, nth_zero, nth_cons, exitQ_normal, exitQ_exit, exitQ_ret, frOf_cons, ↓reduceIte, Nat.reduceEqDiff, loopPost_exit, loopPost_ret, pLen_str, pLen_isl, pLen_gsl, pLen_sl, pLen_nils, pLen_eml, pLen_array, pLen_slAV, pConv_int, pConv_str, pBox_true, pBox_false, pAlloc_eq, cells_agg, fits_agg, pNil_ptr, pNil_iptr, pNil_fn, pFieldAddr_ptr, pFieldAddr_iptr, pField_agg, pCells_zero, pCells_succ, pCells_some, Nat.reduceAdd, Nat.reduceLeDiff, Nat.le_refl, pLoad_iptr, pLoad_push, Nat.zero_add, Nat.add_zero, List.drop_zero, List.drop_succ_cons, List.length_cons, List.length_nil, List.take_succ_cons, List.take_zero, true_and, and_true, binA_int_eql, binA_int_neq, binA_int_lss, binA_int_leq, binA_int_gtr, binA_int_geq, binA_int_add, binA_int_sub, binA_int_mul, binA_int_and, binA_int_or, binA_int_xor, binA_str_eql, binA_str_neq, binA_bool_eql, binA_bool_neq, binA_ptr_eql_nil, binA_ptr_neq_nil, binA_iptr_eql_nil, binA_iptr_neq_nil, binA_nil_eql_nil, binA_nil_neq_nil, unA_not, unA_not_unkb, unA_neg, Bool.not_true, Bool.not_false, false_implies, true_implies, eq_self, wk]
      rw [loopPost_normal, ← hI]
      refine ⟨_, ?_, k + 1, cur.set k v, by omega, rfl, ?_, ?_, ?_, by simp, by simpa using hcl, ?_, rfl⟩
      · omega
      · exact kp.trans (Keeps.put _ _ _) (fun x hx e => by subst e; exact c1)
      · simp only [AHeap.put_objs]; rw [if_neg (by omega)]; exact o1
      · simp only [AHeap.put_objs]; rw [if_neg (by omega)]; exact o2
      · intro q hq
        rw [List.getElem?_set, if_neg (by omega)]
        exact hag q (by omega)
    · have hke : k = t.vals.length := by omega
      subst hke
      have d1 : decide ((t.vals.length : Int) < (t.vals.length : Int)) = false := decide_eq_false (by omega)
      try simp -dsimp -implicitDefEqProofs only [↓later_1, ↓later_2, ↓later_3, obind_some, ↓Split_true, ↓Split_false, ↓run_pCond, ↓run_pCond_unkb, ↓run_pGuardT, ↓run_pGuardF, ↓run_pGuard_unkb, ↓run_pGuardST, ↓run_pGuardSF, ↓pGuard_tup, ↓pGuardS_tup, ↓run_pPick, ↓run_pIdx, ↓run_pExtract0, ↓run_pExtractS, ↓pJoin_eq, nth_zero, nth_cons, exitQ_normal, exitQ_exit, exitQ_ret, frOf_cons, ↓reduceIte, Nat.reduceEqDiff, loopPost_exit, loopPost_ret, pLen_str, pLen_isl, pLen_gsl, pLen_sl, pLen_nils, pLen_eml, pLen_array, pLen_slAV, pConv_int, pConv_str, pBox_true, pBox_false, pAlloc_eq, cells_agg, fits_agg, pNil_ptr, pNil_iptr, pNil_fn, pFieldAddr_ptr, pFieldAddr_iptr, pField_agg, pCells_zero, pCells_succ, pCells_some, Nat.reduceAdd, Nat.reduceLeDiff, Nat.le_refl, pLoad_iptr, pLoad_push, Nat.zero_add, Nat.add_zero, List.drop_zero, List.drop_succ_cons, List.length_cons, List.length_nil, List.take_succ_cons, List.take_zero, true_and, and_true, binA_int_eql, binA_int_neq, binA_int_lss, binA_int_leq, binA_int_gtr, binA_int_geq, binA_int_add, binA_int_sub, binA_int_mul, binA_int_and, binA_int_or, binA_int_xor, binA_str_eql, binA_str_neq, binA_bool_eql, binA_bool_neq, binA_ptr_eql_nil, binA_ptr_neq_nil, binA_iptr_eql_nil, binA_iptr_neq_nil, binA_nil_eql_nil, binA_nil_neq_nil, unA_not, unA_not_unkb, unA_neg, Bool.not_true, Bool.not_false, false_implies, true_implies, eq_self, d1]
      first | exact kp | exact ⟨rfl, kp⟩

end Go.Proofs.Ytppldbldpphlmaa
