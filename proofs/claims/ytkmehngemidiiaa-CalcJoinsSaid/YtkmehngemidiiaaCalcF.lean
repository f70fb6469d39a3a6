/- calc: the slots that items name; the sample at work. -/
import Derived.Test.YtkmehngemidiiaaCalcE
import Derived.Test.YtkmehngemidiiaaAbsArgs
set_option linter.unusedVariables false
set_option linter.unusedSimpArgs false
set_option maxRecDepth 8000
set_option maxHeartbeats 1000000
namespace Go.Proofs.Ytkmehngemidiiaa
open Go.Abs

/-- The slots that items name. -/
def usesL : List It → List Int
  | [] => []
  | x :: l => if x.Op = 2 then sgN x.N :: usesL l else usesL l
theorem usesL_append (l m : List It) : usesL (l ++ m) = usesL l ++ usesL m := by
  induction l with
  | nil => rfl
  | cons x l ih => simp only [List.cons_append, usesL, ih]; split <;> simp
theorem usesL_len (l : List It) : (usesL l).length ≤ l.length := by
  induction l with
  | nil => simp [usesL]
  | cons x l ih => simp only [usesL]; split <;> simp <;> omega

/-- A row of numbers that grew. -/
def gsI (id : Nat) (l : List Int) : AV := match l with | [] => .nils | _ => .gsl id 1 (l.map encI)
@[simp] theorem gsI_len (id : Nat) (l : List Int) (K : AV → Prop) : pLen .slice (gsI id l) K = K (.int .i64 l.length) := by cases l <;> simp [gsI]
theorem gsI_at {id : Nat} {l : List Int} {k : Nat} {v : Int} (hk : l[k]? = some v) (kk : IntKind) (K : AV → Prop) : pIndexAddr (.slice 1) (gsI id l) (.int kk (k : Int)) K = K (.iptr [.int .i64 v]) := by
  cases l with
  | nil => simp at hk
  | cons a l =>
    have : ((a :: l).map encI)[k]? = some [AV.int .i64 v] := by rw [List.getElem?_map, hk]; rfl
    simp only [gsI, pIndexAddr, Int.toNat_natCast, this]
    simp

theorem gsI_push {h : AHeap} {lo id : Nat} {l : List Int} (hl : lo ≤ h.next) (hlen : l.length ≤ 100000) (p : l = [] ∨ (lo ≤ id ∧ id < h.next ∧ h.objs id = some (.tok 3 l.length))) (v : Int) {K : AV → AHeap → Prop}
    (hK : ∀ id2 h2, id2 < h2.next → lo ≤ id2 → h2.objs id2 = some (.tok 3 (l ++ [v]).length) → Keeps h h2 (fun x => lo ≤ x) → K (gsI id2 (l ++ [v])) h2) : pAppend true { e := 3, sz := 1, by_ := 8 } (gsI id l) (.isl 1 [[.int .i64 v]]) h K := by
  cases l with
  | nil =>
    simp only [gsI, pAppend, srcElems, if_true, newSl]
    refine ⟨by simp [bounded, maxLen], ?_⟩
    exact hK h.next _ (by simp) hl (by simp) ⟨by simp, fun x hx hs => by simp; omega⟩
  | cons a l =>
    rcases p with p | ⟨p1, p2, p3⟩
    · cases p
    · simp only [gsI, pAppend, srcElems, if_true, p3]
      refine ⟨trivial, trivial, by simp, by simp [bounded, maxLen] at hlen ⊢; omega, ?_⟩
      have := hK h.next ((h.kill id).push (.tok 3 ((((a :: l).map encI ++ [[AV.int .i64 v]]) : List (List AV)).length * 1))) (by simp) hl (by simp) ⟨by simp, fun x hx hs => by
        simp only [AHeap.push_objs, AHeap.kill_objs]
        rw [if_neg (show ¬ x = (h.kill id).next by simp only [AHeap.kill_next]; omega), if_neg (by omega)]⟩
      simpa [gsI, encI] using this

theorem calc_Uses_does (items : Option (List It)) (hok : okSl Api_Item.ok items) (hit : (slL items).length ≤ 1000) (h : AHeap) :
    CallsA Try.prog 33 [slAV 3 Api_Item.cells items] h (fun v h2 => (∃ id, v = gsI id (usesL (slL items))) ∧ Keeps h h2 (fun _ => False)) := by
  apply calc_Uses_wp
  try simp -dsimp -implicitDefEqProofs only [↓later_1, ↓later_2, ↓later_3, obind_some, ↓Split_true, ↓Split_false, ↓run_pCond, ↓run_pCond_unkb, ↓run_pGuardT, ↓run_pGuardF, ↓run_pGuard_unkb, ↓run_pGuardST, ↓run_pGuardSF, ↓pGuard_tup, ↓pGuardS_tup, ↓run_pPick, ↓run_pIdx, ↓run_pExtract0, ↓run_pExtractS, ↓pJoin_eq, nth_zero, nth_cons, exitQ_normal, exitQ_exit, exitQ_ret, frOf_cons, ↓reduceIte, Nat.reduceEqDiff, loopPost_exit, loopPost_ret, pLen_str, pLen_isl, pLen_gsl, pLen_sl, pLen_nils, pLen_eml, pLen_array, pLen_slAV, pConv_int, pConv_str, pBox_true, pBox_false, pAlloc_eq, cells_agg, fits_agg, pNil_ptr, pNil_iptr, pNil_fn, pFieldAddr_ptr, pFieldAddr_iptr, pField_agg, pCells_zero, pCells_succ, pCells_some, Nat.reduceAdd, Nat.reduceLeDiff, Nat.le_refl, pLoad_iptr, pLoad_push, Nat.zero_add, Nat.add_zero, List.drop_zero, List.drop_succ_cons, List.length_cons, List.length_nil, List.take_succ_cons, List.take_zero, true_and, and_true, binA_int_eql, binA_int_neq, binA_int_lss, binA_int_leq, binA_int_gtr, binA_int_geq, binA_int_add, binA_int_sub, binA_int_mul, binA_int_and, binA_int_or, binA_int_xor, binA_str_eql, binA_str_neq, binA_bool_eql, binA_bool_neq, binA_ptr_eql_nil, binA_ptr_neq_nil, binA_iptr_eql_nil, binA_iptr_neq_nil, binA_nil_eql_nil, binA_nil_neq_nil, unA_not, unA_not_unkb, unA_neg, Bool.not_true, Bool.not_false, false_implies, true_implies, eq_self]
  refine WP_loop mixed_ (by kernel_rfl) (fun m fr hh => ∃ (k id : Nat), k ≤ (slL items).length ∧ m = (slL items).length - k ∧ Keeps h hh (fun _ => False) ∧ (usesL ((slL items).take k) = [] ∨ (h.next ≤ id ∧ id < hh.next ∧ hh.objs id = some (.tok 3 (usesL ((slL items).take k)).length))) ∧
    fr = frOf [(3, gsI id (usesL ((slL items).take k))), (6, slAV 3 Api_Item.cells items), (7, .int .i64 (slL items).length), (8, .int .i64 k)]) (slL items).length ⟨0, 0, by omega, by omega, .refl _ _, Or.inl rfl, rfl⟩ ?_
  rintro m fr hh ⟨k, id, hk, rfl, kp, pt, rfl⟩
  apply calc_Uses_loop3
  generalize hI : (fun (m : Nat) (fr : Fr) (hh : AHeap) => _) = I
  by_cases hkl : k < (slL items).length
  · have hx : (slL items)[k]? = some (slL items)[k] := List.getElem?_eq_getElem hkl
    have hxok := hok.2 _ (List.mem_of_getElem? hx)
    have hsn : (slL items).take (k + 1) = (slL items).take k ++ [(slL items)[k]] := by rw [List.take_add_one, hx]; rfl
    generalize (slL items)[k] = x at *
    have d0 : decide ((k : Int) < ((slL items).length : Int)) = true := decide_eq_true (by omega)
    have hc : x.cells = [.int .i64 x.Op, .int .i64 x.Bin, .int .u64 (x.N : Nat)] := rfl
    have wk : IntKind.i64.wrap ((k : Int) + 1) = ((k + 1 : Nat) : Int) := by rw [wrapI (by omega) (by omega)]; omega
    try simp -dsimp -implicitDefEqProofs only [↓later_1, ↓later_2, ↓later_3, obind_some, ↓Split_true, ↓Split_false, ↓run_pCond, ↓run_pCond_unkb, ↓run_pGuardT, ↓run_pGuardF, ↓run_pGuard_unkb, ↓run_pGuardST, ↓run_pGuardSF, ↓pGuard_tup, ↓pGuardS_tup, ↓run_pPick, ↓run_pIdx, ↓run_pExtract0, ↓run_pExtractS, ↓pJoin_eq, nth_zero, nth_cons, exitQ_normal, exitQ_exit, exitQ_ret, frOf_cons, ↓reduceIte, Nat.reduceEqDiff, loopPost_exit, loopPost_ret, pLen_str, pLen_isl, pLen_gsl, pLen_sl, pLen_nils, pLen_eml, pLen_array, pLen_slAV, pConv_int, pConv_str, pBox_true, pBox_false, pAlloc_eq, cells_agg, fits_agg, pNil_ptr, pNil_iptr, pNil_fn, pFieldAddr_ptr, pFieldAddr_iptr, pField_agg, pCells_zero, pCells_succ, pCells_some, Nat.reduceAdd, Nat.reduceLeDiff, Nat.le_refl, pLoad_iptr, pLoad_push, Nat.zero_add, Nat.add_zero, List.drop_zero, List.drop_succ_cons, List.length_cons, List.length_nil, List.take_succ_cons, List.take_zero, true_and, and_true, binA_int_eql, binA_int_neq, binA_int_lss, binA_int_leq, binA_int_gtr, binA_int_geq, binA_int_add, binA_int_sub, binA_int_mul, binA_int_and, binA_int_or, binA_int_xor, binA_str_eql, binA_str_neq, binA_bool_eql, binA_bool_neq, binA_ptr_eql_nil, binA_ptr_neq_nil, binA_iptr_eql_nil, binA_iptr_neq_nil, binA_nil_eql_nil, binA_nil_neq_nil, unA_not, unA_not_unkb, unA_neg, Bool.not_true, Bool.not_false, false_implies, true_implies, eq_self, d0, pIndexAddr_slAV hx, hc]
    rw [pStore_push (by rfl) (by rfl)]
    have kA := Keeps.push hh (.row 44 [.int .i64 x.Op, .int .i64 x.Bin, .int .u64 (x.N : Nat)])
    have ul := usesL_len ((slL items).take k)
    have hul : (usesL ((slL items).take k)).length ≤ 1000 := by simp at ul; omega
    have kn := kp.next
    by_cases h2 : x.Op = 2
    · have e2 : (x.Op == 2) = true := by simp [h2]
      have hu : usesL ((slL items).take (k + 1)) = usesL ((slL items).take k) ++ [sgN x.N] := by rw [hsn, usesL_append]; simp [usesL, h2]
      try simp -dsimp -implicitDefEqProofs only [↓later_1, ↓later_2, ↓later_3, obind_some, ↓Split_true, ↓Split_false, ↓run_pCond, ↓run_pCond_unkb, ↓run_pGuardT, ↓run_pGuardF, ↓run_pGuard_unkb, ↓run_pGuardST, ↓run_pGuardSF, ↓pGuard_tup, ↓pGuardS_tup, ↓run_pPick, ↓run_pIdx, ↓run_pExtract0, ↓run_pExtractS, ↓pJoin_eq, nth_zero, nth_cons, exitQ_normal, exitQ_exit, exitQ_ret, frOf_cons, ↓reduceIte, Nat.reduceEqDiff, loopPost_exit, loopPost_ret, pLen_str, pLen_isl, pLen_gsl, pLen_sl, pLen_nils, pLen_eml, pLen_array, pLen_slAV, pConv_int, pConv_str, pBox_true, pBox_false, pAlloc_eq, cells_agg, fits_agg, pNil_ptr, pNil_iptr, pNil_fn, pFieldAddr_ptr, pFieldAddr_iptr, pField_agg, pCells_zero, pCells_succ, pCells_some, Nat.reduceAdd, Nat.reduceLeDiff, Nat.le_refl, pLoad_iptr, pLoad_push, Nat.zero_add, Nat.add_zero, List.drop_zero, List.drop_succ_cons, List.length_cons, List.length_nil, List.take_succ_cons, List.take_zero, true_and, and_true, binA_int_eql, binA_int_neq, binA_int_lss, binA_int_leq, binA_int_gtr, binA_int_geq, binA_int_add, binA_int_sub, binA_int_mul, binA_int_and, binA_int_or, binA_int_xor, binA_str_eql, binA_str_neq, binA_bool_eql, binA_bool_neq, binA_ptr_eql_nil, binA_ptr_neq_nil, binA_iptr_eql_nil, binA_iptr_neq_nil, binA_nil_eql_nil, binA_nil_neq_nil, unA_not, unA_not_unkb, unA_neg, Bool.not_true, Bool.not_false, false_implies, true_implies, eq_self, e2, bld1]
      refine gsI_push (lo := h.next) (by simp; omega) (by omega) ?_ (sgN x.N) fun id2 h3 q1 q2 q3 q4 => ?_
      · rcases pt with pt | ⟨p1, p2, p3⟩
        · exact Or.inl pt
        · exact Or.inr ⟨p1, by simp; omega, by rw [kA.objs id p2 (fun h => h)]; exact p3⟩
      · try simp -dsimp -implicitDefEqProofs only [↓later_1, ↓later_2, ↓later_3, obind_some, ↓Split_true, ↓Split_false, ↓run_pCond, ↓run_pCond_unkb, ↓run_pGuardT, ↓run_pGuardF, ↓run_pGuard_unkb, ↓run_pGuardST, ↓run_pGuardSF, ↓pGuard_tup, ↓pGuardS_tup, ↓run_pPick, ↓run_pIdx, ↓run_pExtract0, ↓run_pExtractS, ↓pJoin_eq, nth_zero, nth_cons, exitQ_normal, exitQ_exit, exitQ_ret, frOf_cons, ↓reduceIte, Nat.reduceEqDiff, loopPost_exit, loopPost_ret, pLen_str, pLen_isl, pLen_gsl, pLen_sl, pLen_nils, pLen_eml, pLen_array, pLen_slAV, pConv_int, pConv_str, pBox_true, pBox_false, pAlloc_eq, cells_agg, fits_agg, pNil_ptr, pNil_iptr, pNil_fn, pFieldAddr_ptr, pFieldAddr_iptr, pField_agg, pCells_zero, pCells_succ, pCells_some, Nat.reduceAdd, Nat.reduceLeDiff, Nat.le_refl, pLoad_iptr, pLoad_push, Nat.zero_add, Nat.add_zero, List.drop_zero, List.drop_succ_cons, List.length_cons, List.length_nil, List.take_succ_cons, List.take_zero, true_and, and_true, binA_int_eql, binA_int_neq, binA_int_lss, binA_int_leq, binA_int_gtr, binA_int_geq, binA_int_add, binA_int_sub, binA_int_mul, binA_int_and, binA_int_or, binA_int_xor, binA_str_eql, binA_str_neq, binA_bool_eql, binA_bool_neq, binA_ptr_eql_nil, binA_ptr_neq_nil, binA_iptr_eql_nil, binA_iptr_neq_nil, binA_nil_eql_nil, binA_nil_neq_nil, unA_not, unA_not_unkb, unA_neg, Bool.not_true, Bool.not_false, false_implies, true_implies, eq_self, wk]
        rw [loopPost_normal, ← hI]
        refine ⟨_, ?_, k + 1, id2, by omega, rfl, ?_, Or.inr ⟨q2, q1, by rw [hu]; exact q3⟩, by rw [hu]⟩
        · omega
        · exact (kp.trans kA (fun _ _ h => h)).trans q4 (fun y hy hl => absurd hl (by omega))
    · have e2 : (x.Op == 2) = false := by simp [h2]
      have hu : usesL ((slL items).take (k + 1)) = usesL ((slL items).take k) := by rw [hsn, usesL_append]; simp [usesL, h2]
      try simp -dsimp -implicitDefEqProofs only [↓later_1, ↓later_2, ↓later_3, obind_some, ↓Split_true, ↓Split_false, ↓run_pCond, ↓run_pCond_unkb, ↓run_pGuardT, ↓run_pGuardF, ↓run_pGuard_unkb, ↓run_pGuardST, ↓run_pGuardSF, ↓pGuard_tup, ↓pGuardS_tup, ↓run_pPick, ↓run_pIdx, ↓run_pExtract0, ↓run_pExtractS, ↓pJoin_eq, nth_zero, nth_cons, exitQ_normal, exitQ_exit, exitQ_ret, frOf_cons, ↓reduceIte, Nat.reduceEqDiff, loopPost_exit, loopPost_ret, pLen_str, pLen_isl, pLen_gsl, pLen_sl, pLen_nils, pLen_eml, pLen_array, pLen_slAV, pConv_int, pConv_str, pBox_true, pBox_false, pAlloc_eq, cells_agg, fits_agg, pNil_ptr, pNil_iptr, pNil_fn, pFieldAddr_ptr, pFieldAddr_iptr, pField_agg, pCells_zero, pCells_succ, pCells_some, Nat.reduceAdd, Nat.reduceLeDiff, Nat.le_refl, pLoad_iptr, pLoad_push, Nat.zero_add, Nat.add_zero, List.drop_zero, List.drop_succ_cons, List.length_cons, List.length_nil, List.take_succ_cons, List.take_zero, true_and, and_true, binA_int_eql, binA_int_neq, binA_int_lss, binA_int_leq, binA_int_gtr, binA_int_geq, binA_int_add, binA_int_sub, binA_int_mul, binA_int_and, binA_int_or, binA_int_xor, binA_str_eql, binA_str_neq, binA_bool_eql, binA_bool_neq, binA_ptr_eql_nil, binA_ptr_neq_nil, binA_iptr_eql_nil, binA_iptr_neq_nil, binA_nil_eql_nil, binA_nil_neq_nil, unA_not, unA_not_unkb, unA_neg, Bool.not_true, Bool.not_false, false_implies, true_implies, eq_self, e2, wk]
      rw [loopPost_normal, ← hI]
      refine ⟨_, ?_, k + 1, id, by omega, rfl, kp.trans kA (fun _ _ h => h), ?_, by rw [hu]⟩
      · omega
      · rw [hu]
        rcases pt with pt | ⟨p1, p2, p3⟩
        · exact Or.inl pt
        · exact Or.inr ⟨p1, by simp; omega, by rw [kA.objs id p2 (fun h => h)]; exact p3⟩
  · have hke : k = (slL items).length := by omega
    subst hke
    rw [List.take_length] at *
    have d0 : decide (((slL items).length : Int) < ((slL items).length : Int)) = false := decide_eq_false (by omega)
    try simp -dsimp -implicitDefEqProofs only [↓later_1, ↓later_2, ↓later_3, obind_some, ↓Split_true, ↓Split_false, ↓run_pCond, ↓run_pCond_unkb, ↓run_pGuardT, ↓run_pGuardF, ↓run_pGuard_unkb, ↓run_pGuardST, ↓run_pGuardSF, ↓pGuard_tup, ↓pGuardS_tup, ↓run_pPick, ↓run_pIdx, ↓run_pExtract0, ↓run_pExtractS, ↓pJoin_eq, nth_zero, nth_cons, exitQ_normal, exitQ_exit, exitQ_ret, frOf_cons, ↓reduceIte, Nat.reduceEqDiff, loopPost_exit, loopPost_ret, pLen_str, pLen_isl, pLen_gsl, pLen_sl, pLen_nils, pLen_eml, pLen_array, pLen_slAV, pConv_int, pConv_str, pBox_true, pBox_false, pAlloc_eq, cells_agg, fits_agg, pNil_ptr, pNil_iptr, pNil_fn, pFieldAddr_ptr, pFieldAddr_iptr, pField_agg, pCells_zero, pCells_succ, pCells_some, Nat.reduceAdd, Nat.reduceLeDiff, Nat.le_refl, pLoad_iptr, pLoad_push, Nat.zero_add, Nat.add_zero, List.drop_zero, List.drop_succ_cons, List.length_cons, List.length_nil, List.take_succ_cons, List.take_zero, true_and, and_true, binA_int_eql, binA_int_neq, binA_int_lss, binA_int_leq, binA_int_gtr, binA_int_geq, binA_int_add, binA_int_sub, binA_int_mul, binA_int_and, binA_int_or, binA_int_xor, binA_str_eql, binA_str_neq, binA_bool_eql, binA_bool_neq, binA_ptr_eql_nil, binA_ptr_neq_nil, binA_iptr_eql_nil, binA_iptr_neq_nil, binA_nil_eql_nil, binA_nil_neq_nil, unA_not, unA_not_unkb, unA_neg, Bool.not_true, Bool.not_false, false_implies, true_implies, eq_self, d0]
    first | exact ⟨⟨id, rfl⟩, kp⟩ | exact ⟨⟨id, trivial⟩, kp⟩

def resN : Option (List Nat) → Nat × Int
  | some st => (st.headD 0, 0)
  | none => (0, 1)
theorem evalN_of {slots : List Nat} {inputs : List Int} {l : List It} {r : Option (List Nat)} (h1 : wantR slots.length l.reverse 1 = some 0) (h2 : l.length ≤ 64) (h3 : runN slots inputs [] l = r) : evalN slots inputs l = resN r := by
  have hg := (want_good slots.length _ l rfl 1 (by omega)).1 h1
  unfold evalN
  rw [if_pos ⟨hg.1, hg.2, h2⟩]
  subst h3
  cases runN slots inputs [] l <;> rfl

theorem calc_alive_does (h : AHeap) : CallsA Try.prog 28 [] h (fun v h2 => v = .bool true ∧ Keeps h h2 (fun _ => False)) := by
  apply padlocklaw08_alive_wp
  have a1 := fun h => calc_Eval_does (some [5]) none (some [⟨1, 0, 2⟩, ⟨2, 0, 0⟩, ⟨8, 0, 0⟩]) ⟨by simp [maxLen], by simp [okN]⟩ (by simp) (by simp) ⟨by simp [maxLen], by simp [Api_Item.ok, okI, okN]⟩ (by simp) h
  have a2 := fun h => calc_Eval_does none none (some [⟨1, 0, 2⟩, ⟨1, 0, 0⟩, ⟨8, 3, 0⟩]) ⟨by simp, by simp⟩ (by simp) (by simp) ⟨by simp [maxLen], by simp [Api_Item.ok, okI, okN]⟩ (by simp) h
  have e1 : evalN [5] [] [⟨1, 0, 2⟩, ⟨2, 0, 0⟩, ⟨8, 0, 0⟩] = (7, 0) := evalN_of (r := some [7]) (by decide) (by decide) (by decide +kernel)
  have e2 : evalN [] [] [⟨1, 0, 2⟩, ⟨1, 0, 0⟩, ⟨8, 3, 0⟩] = (0, 1) := evalN_of (r := none) (by decide) (by decide) (by decide +kernel)
  simp only [slL_some, slL_none, e1] at a1
  simp only [slL_some, slL_none, e2] at a2
  have c1 : slAV 1 encN (some [5]) = .isl 1 [[.int .u64 5]] := rfl
  have c2 : slAV 3 Api_Item.cells (some [⟨1, 0, 2⟩, ⟨2, 0, 0⟩, ⟨8, 0, 0⟩]) = .isl 3 [[.int .i64 1, .int .i64 0, .int .u64 2], [.int .i64 2, .int .i64 0, .int .u64 0], [.int .i64 8, .int .i64 0, .int .u64 0]] := rfl
  have c3 : slAV 3 Api_Item.cells (some [⟨1, 0, 2⟩, ⟨1, 0, 0⟩, ⟨8, 3, 0⟩]) = .isl 3 [[.int .i64 1, .int .i64 0, .int .u64 2], [.int .i64 1, .int .i64 0, .int .u64 0], [.int .i64 8, .int .i64 3, .int .u64 0]] := rfl
  have c4 : slAV 1 encI (none : Option (List Int)) = .nils := rfl
  have c5 : slAV 1 encN (none : Option (List Nat)) = .nils := rfl
  rw [c1, c2, c4] at a1
  rw [c3, c4, c5] at a2
  try simp -dsimp -implicitDefEqProofs only [↓later_1, ↓later_2, ↓later_3, obind_some, ↓Split_true, ↓Split_false, ↓run_pCond, ↓run_pCond_unkb, ↓run_pGuardT, ↓run_pGuardF, ↓run_pGuard_unkb, ↓run_pGuardST, ↓run_pGuardSF, ↓pGuard_tup, ↓pGuardS_tup, ↓run_pPick, ↓run_pIdx, ↓run_pExtract0, ↓run_pExtractS, ↓pJoin_eq, nth_zero, nth_cons, exitQ_normal, exitQ_exit, exitQ_ret, frOf_cons, ↓reduceIte, Nat.reduceEqDiff, loopPost_exit, loopPost_ret, pLen_str, pLen_isl, pLen_gsl, pLen_sl, pLen_nils, pLen_eml, pLen_array, pLen_slAV, pConv_int, pConv_str, pBox_true, pBox_false, pAlloc_eq, cells_agg, fits_agg, pNil_ptr, pNil_iptr, pNil_fn, pFieldAddr_ptr, pFieldAddr_iptr, pField_agg, pCells_zero, pCells_succ, pCells_some, Nat.reduceAdd, Nat.reduceLeDiff, Nat.le_refl, pLoad_iptr, pLoad_push, Nat.zero_add, Nat.add_zero, List.drop_zero, List.drop_succ_cons, List.length_cons, List.length_nil, List.take_succ_cons, List.take_zero, true_and, and_true, binA_int_eql, binA_int_neq, binA_int_lss, binA_int_leq, binA_int_gtr, binA_int_geq, binA_int_add, binA_int_sub, binA_int_mul, binA_int_and, binA_int_or, binA_int_xor, binA_str_eql, binA_str_neq, binA_bool_eql, binA_bool_neq, binA_ptr_eql_nil, binA_ptr_neq_nil, binA_iptr_eql_nil, binA_iptr_neq_nil, binA_nil_eql_nil, binA_nil_neq_nil, unA_not, unA_not_unkb, unA_neg, Bool.not_true, Bool.not_false, false_implies, true_implies, eq_self, pBuild, fillA, AV.fits, AV.cells, pBuildSl, fillE, List.getElem?_cons_zero, List.getElem?_cons_succ, List.replicate_succ, List.replicate_zero, List.set_cons_zero, List.set_cons_succ, and_self, if_true, List.nil_append, List.cons_append, List.append_nil, List.length_replicate, Nat.reduceMul, Nat.reduceLT, List.length_set, Nat.lt_add_left_iff_pos, Nat.zero_lt_succ, Nat.succ_ne_self, bld1]
  refine (a1 _).mono ?_
  rintro _ h2 ⟨rfl, k1⟩
  try simp -dsimp -implicitDefEqProofs only [↓later_1, ↓later_2, ↓later_3, obind_some, ↓Split_true, ↓Split_false, ↓run_pCond, ↓run_pCond_unkb, ↓run_pGuardT, ↓run_pGuardF, ↓run_pGuard_unkb, ↓run_pGuardST, ↓run_pGuardSF, ↓pGuard_tup, ↓pGuardS_tup, ↓run_pPick, ↓run_pIdx, ↓run_pExtract0, ↓run_pExtractS, ↓pJoin_eq, nth_zero, nth_cons, exitQ_normal, exitQ_exit, exitQ_ret, frOf_cons, ↓reduceIte, Nat.reduceEqDiff, loopPost_exit, loopPost_ret, pLen_str, pLen_isl, pLen_gsl, pLen_sl, pLen_nils, pLen_eml, pLen_array, pLen_slAV, pConv_int, pConv_str, pBox_true, pBox_false, pAlloc_eq, cells_agg, fits_agg, pNil_ptr, pNil_iptr, pNil_fn, pFieldAddr_ptr, pFieldAddr_iptr, pField_agg, pCells_zero, pCells_succ, pCells_some, Nat.reduceAdd, Nat.reduceLeDiff, Nat.le_refl, pLoad_iptr, pLoad_push, Nat.zero_add, Nat.add_zero, List.drop_zero, List.drop_succ_cons, List.length_cons, List.length_nil, List.take_succ_cons, List.take_zero, true_and, and_true, binA_int_eql, binA_int_neq, binA_int_lss, binA_int_leq, binA_int_gtr, binA_int_geq, binA_int_add, binA_int_sub, binA_int_mul, binA_int_and, binA_int_or, binA_int_xor, binA_str_eql, binA_str_neq, binA_bool_eql, binA_bool_neq, binA_ptr_eql_nil, binA_ptr_neq_nil, binA_iptr_eql_nil, binA_iptr_neq_nil, binA_nil_eql_nil, binA_nil_neq_nil, unA_not, unA_not_unkb, unA_neg, Bool.not_true, Bool.not_false, false_implies, true_implies, eq_self, pBuild, fillA, AV.fits, AV.cells, pBuildSl, fillE, List.getElem?_cons_zero, List.getElem?_cons_succ, List.replicate_succ, List.replicate_zero, List.set_cons_zero, List.set_cons_succ, and_self, if_true, List.nil_append, List.cons_append, List.append_nil, List.length_replicate, Nat.reduceMul, Nat.reduceLT, List.length_set, Nat.lt_add_left_iff_pos, Nat.zero_lt_succ, Nat.succ_ne_self, bld1]
  refine (a2 _).mono ?_
  rintro _ h3 ⟨rfl, k2⟩
  try simp -dsimp -implicitDefEqProofs only [↓later_1, ↓later_2, ↓later_3, obind_some, ↓Split_true, ↓Split_false, ↓run_pCond, ↓run_pCond_unkb, ↓run_pGuardT, ↓run_pGuardF, ↓run_pGuard_unkb, ↓run_pGuardST, ↓run_pGuardSF, ↓pGuard_tup, ↓pGuardS_tup, ↓run_pPick, ↓run_pIdx, ↓run_pExtract0, ↓run_pExtractS, ↓pJoin_eq, nth_zero, nth_cons, exitQ_normal, exitQ_exit, exitQ_ret, frOf_cons, ↓reduceIte, Nat.reduceEqDiff, loopPost_exit, loopPost_ret, pLen_str, pLen_isl, pLen_gsl, pLen_sl, pLen_nils, pLen_eml, pLen_array, pLen_slAV, pConv_int, pConv_str, pBox_true, pBox_false, pAlloc_eq, cells_agg, fits_agg, pNil_ptr, pNil_iptr, pNil_fn, pFieldAddr_ptr, pFieldAddr_iptr, pField_agg, pCells_zero, pCells_succ, pCells_some, Nat.reduceAdd, Nat.reduceLeDiff, Nat.le_refl, pLoad_iptr, pLoad_push, Nat.zero_add, Nat.add_zero, List.drop_zero, List.drop_succ_cons, List.length_cons, List.length_nil, List.take_succ_cons, List.take_zero, true_and, and_true, binA_int_eql, binA_int_neq, binA_int_lss, binA_int_leq, binA_int_gtr, binA_int_geq, binA_int_add, binA_int_sub, binA_int_mul, binA_int_and, binA_int_or, binA_int_xor, binA_str_eql, binA_str_neq, binA_bool_eql, binA_bool_neq, binA_ptr_eql_nil, binA_ptr_neq_nil, binA_iptr_eql_nil, binA_iptr_neq_nil, binA_nil_eql_nil, binA_nil_neq_nil, unA_not, unA_not_unkb, unA_neg, Bool.not_true, Bool.not_false, false_implies, true_implies, eq_self, show (((7 : Nat) : Int) == 7) = true from rfl, show (((0 : Nat) : Int) == 0) = true from rfl, show ((0 : Int) == 0) = true from rfl, show ((1 : Int) == 1) = true from rfl]
  first | exact ⟨rfl, k1.trans k2 (fun _ _ h => h)⟩ | exact k1.trans k2 (fun _ _ h => h)

end Go.Proofs.Ytkmehngemidiiaa
