/- calc: the law 'joins'. -/
import Derived.Test.YtkmehngemidiiaaCalcF
import Derived.Test.YtkmehngemidiiaaAbsGhost
set_option linter.unusedVariables false
set_option linter.unusedSimpArgs false
set_option maxRecDepth 8000
set_option maxHeartbeats 1000000
namespace Go.Proofs.Ytkmehngemidiiaa
open Go.Abs

theorem step_base {slots : List Nat} {inputs : List Int} {st base : List Nat} {x : It} (hn : needsI x.Op ≤ st.length) (h0 : needsI x.Op ≤ 2) (hm : 0 ≤ needsI x.Op) : stepN slots inputs (st ++ base) x = (stepN slots inputs st x).map (· ++ base) := by
  unfold stepN
  by_cases n0 : needsI x.Op = 0
  · rw [if_pos n0, if_pos n0]; rfl
  · rw [if_neg n0, if_neg n0]
    by_cases n1 : needsI x.Op = 1
    · rw [if_pos n1, if_pos n1]
      match st, hn with
      | a :: r, _ => rfl
      | [], hn => simp at hn; omega
    · rw [if_neg n1, if_neg n1]
      match st, hn with
      | b :: a :: r, _ =>
        simp only [List.cons_append]
        cases binN x a b <;> rfl
      | [b], hn => simp at hn; omega
      | [], hn => simp at hn; omega
theorem run_base {slots : List Nat} {inputs : List Int} {l : List It} {s : Int} (h : okL s l) (base : List Nat) : ∀ k, k ≤ l.length → runN slots inputs base (l.take k) = (runN slots inputs [] (l.take k)).map (· ++ base)
  | 0, _ => by simp [runN]
  | k + 1, hk => by
    have hx : l[k]? = some l[k] := List.getElem?_eq_getElem (by omega)
    obtain ⟨h1, h2⟩ := h k (by omega) _ hx
    have ih := run_base h base k (by omega) (slots := slots) (inputs := inputs)
    rw [List.take_add_one, hx]
    simp only [Option.toList_some]
    rw [runN_snoc, runN_snoc, ih]
    cases hr : runN slots inputs [] (l.take k) with
    | none => rfl
    | some st =>
      simp only [Option.map_some, Option.bind_some]
      have hl := runN_len h k (by omega) st hr
      exact step_base (by omega) (fits_needs h1).2 (fits_needs h1).1
theorem okL_append {s : Int} {l : List It} (hl : okL s l) (h0 : 0 ≤ high l) : ∀ (n : Nat) (m : List It), m.length = n → okL s m → okL s (l ++ m)
  | 0, m, hn, _ => by
    have := List.length_eq_zero_iff.1 hn
    subst this
    rw [List.append_nil]; exact hl
  | n + 1, m, hn, hm => by
    have hm' := hm
    obtain rfl | ⟨m', x, rfl⟩ := List.eq_nil_or_concat m
    · simp at hn
    rw [List.concat_eq_append] at hm ⊢
    obtain ⟨h1, h2, h3⟩ := okL_snoc.1 hm
    rw [← List.append_assoc]
    refine okL_snoc.2 ⟨okL_append hl h0 n _ (by simpa using hn) h1, h2, ?_⟩
    rw [high_append]; omega

theorem run_ok {slots : List Nat} {inputs : List Int} (hs : ∀ v ∈ slots, okN v) : ∀ (l : List It) (st st2 : List Nat), (∀ x ∈ l, x.ok) → (∀ v ∈ st, okN v) → runN slots inputs st l = some st2 → ∀ v ∈ st2, okN v
  | [], st, st2, _, h, e => by simp only [runN, Option.some.injEq] at e; subst e; exact h
  | x :: l, st, st2, hx, h, e => by
    simp only [runN] at e
    cases hs1 : stepN slots inputs st x with
    | none => rw [hs1] at e; cases e
    | some st1 =>
      rw [hs1] at e
      exact run_ok hs l st1 st2 (fun y hy => hx y (List.mem_cons_of_mem _ hy)) (stepN_ok hs (hx x (List.mem_cons_self ..)) h hs1) e
def opX (bin : Int) : It := ⟨8, bin, 0⟩
theorem evalN_g {slots : List Nat} {inputs : List Int} {l : List It} (hg : goodP l slots.length) : evalN slots inputs l = resN (runN slots inputs [] l) := by
  unfold evalN
  rw [if_pos hg]
  cases runN slots inputs [] l <;> rfl
theorem resN_snd (r : Option (List Nat)) : (resN r).2 = match r with | some _ => 0 | none => 1 := by cases r <;> rfl
theorem join_good {s : Int} {a b : List It} {bin : Int} (ha : goodP a s) (hb : goodP b s) (la : a.length ≤ 31) (lb : b.length ≤ 31) (h0 : 0 ≤ bin) (h8 : bin ≤ 8) : goodP (a ++ b ++ [opX bin]) s := by
  have hab : okL s (a ++ b) := okL_append ha.1 (by rw [ha.2.1]; omega) _ b rfl hb.1
  refine ⟨okL_snoc.2 ⟨hab, by simp [fitsB, opX, h0, h8], ?_⟩, ?_, by simp; omega⟩
  · rw [high_append, ha.2.1, hb.2.1]; simp [needsI, opX]
  · rw [high_snoc, high_append, ha.2.1, hb.2.1]; simp [needsI, opX]
theorem join_run {slots : List Nat} {inputs : List Int} {s : Int} {a b : List It} {bin : Int} (ha : goodP a s) (hb : goodP b s) :
    (runN slots inputs [] a = none → runN slots inputs [] (a ++ b ++ [opX bin]) = none) ∧
    (runN slots inputs [] b = none → runN slots inputs [] (a ++ b ++ [opX bin]) = none) ∧
    (∀ x y, runN slots inputs [] a = some x → runN slots inputs [] b = some y → ∃ u v, x = [u] ∧ y = [v] ∧ runN slots inputs [] (a ++ b ++ [opX bin]) = (binN (opX bin) u v).map fun w => [w]) := by
  have hb2 : ∀ base, runN slots inputs base b = (runN slots inputs [] b).map (· ++ base) := fun base => by
    have := run_base hb.1 base b.length (Nat.le_refl _) (slots := slots) (inputs := inputs)
    rwa [List.take_length] at this
  have one : ∀ {l : List It} {x : List Nat}, goodP l s → runN slots inputs [] l = some x → ∃ u, x = [u] := by
    intro l x hl hx
    have := runN_len hl.1 l.length (Nat.le_refl _) x (by rw [List.take_length]; exact hx)
    rw [List.take_length, hl.2.1] at this
    match x, this with
    | [u], _ => exact ⟨u, rfl⟩
    | [], h => simp at h
    | _ :: _ :: _, h => simp at h; omega
  refine ⟨fun h => ?_, fun h => ?_, fun x y hx hy => ?_⟩
  · rw [runN_append, runN_append, h]; rfl
  · rw [runN_append, runN_append]
    cases runN slots inputs [] a with
    | none => rfl
    | some st => simp only [Option.bind_some]; rw [hb2, h]; rfl
  · obtain ⟨u, rfl⟩ := one ha hx
    obtain ⟨v, rfl⟩ := one hb hy
    refine ⟨u, v, rfl, rfl, ?_⟩
    rw [runN_append, runN_append, hx]
    simp only [Option.bind_some]
    rw [hb2, hy]
    simp only [Option.map_some, Option.bind_some, List.singleton_append, runN, stepN, needsI, opX]
    simp
    cases binN { Op := 8, Bin := bin, N := 0 } u v <;> rfl
theorem push_good {u v : Nat} {bin : Int} (h0 : 0 ≤ bin) (h8 : bin ≤ 8) : goodP [⟨1, 0, u⟩, ⟨1, 0, v⟩, opX bin] 0 := by
  have e1 : okL 0 [⟨1, 0, u⟩] := (okL_snoc (l := []) (x := ⟨1, 0, u⟩)).2 ⟨fun k hk => absurd hk (by simp), by simp [fitsB], by simp [needsI, high]⟩
  have e2 : okL 0 [⟨1, 0, u⟩, ⟨1, 0, v⟩] := (okL_snoc (l := [⟨1, 0, u⟩]) (x := ⟨1, 0, v⟩)).2 ⟨e1, by simp [fitsB], by simp [needsI, high]⟩
  exact ⟨(okL_snoc (l := [⟨1, 0, u⟩, ⟨1, 0, v⟩]) (x := opX bin)).2 ⟨e2, by simp [fitsB, opX, h0, h8], by simp [needsI, high, opX]⟩, by simp [needsI, high, opX], by simp⟩
theorem push_run (u v : Nat) (bin : Int) : runN [] [] [] [⟨1, 0, u⟩, ⟨1, 0, v⟩, opX bin] = (binN (opX bin) u v).map fun w => [w] := by
  simp [runN, stepN, needsI, leafN, opX]
  cases binN { Op := 8, Bin := bin, N := 0 } u v <;> rfl

/-- A row of items that grew. -/
def AllAt (h : AHeap) (a : AV) (l : List It) : Prop := (l = [] ∧ a = .eml) ∨ ∃ id, a = .gsl id 3 (l.map Api_Item.cells) ∧ h.objs id = some (.tok 44 (l.length * 3))
theorem all_push {h : AHeap} {a : AV} {l : List It} (p : AllAt h a l) (o : Option (List It)) (hl : l.length + (slL o).length ≤ 1000) {K : AV → AHeap → Prop} (hK : ∀ a2 h2, AllAt h2 a2 (l ++ slL o) → K a2 h2) :
    pAppend true { e := 44, sz := 3, by_ := 24 } a (slAV 3 Api_Item.cells o) h K := by
  have e1 : srcElems 3 (slAV 3 Api_Item.cells o) h = some ((slL o).map Api_Item.cells) := by cases o <;> rfl
  simp only [pAppend, e1]
  rcases p with ⟨rfl, rfl⟩ | ⟨id, rfl, p3⟩
  · cases ho : slL o with
    | nil => rw [ho] at hK; exact hK _ _ (Or.inl ⟨rfl, rfl⟩)
    | cons x m =>
      rw [ho] at hK hl
      simp only [List.map_cons, newSl, if_true]
      refine ⟨by simp [bounded, maxLen] at hl ⊢; omega, hK _ _ (Or.inr ⟨h.next, by simp, by simp⟩)⟩
  · simp only [p3]
    refine ⟨trivial, trivial, by simp, by simp [bounded, maxLen]; omega, hK _ _ (Or.inr ⟨h.next, by simp, by simp⟩)⟩
theorem all_call {h0 h : AHeap} {a : AV} {l : List It} (p : AllAt h0 a l) (hl : l.length ≤ 1000) {P : Program} {f : FuncId} {pre : List AV} {R : AV → AHeap → Prop} (H : CallsA P f (pre ++ [slAV 3 Api_Item.cells (some l)]) h R) : CallsA P f (pre ++ [a]) h R := by
  have hs : ∀ pre : List AV, Sub (pre ++ [a]) (pre ++ [slAV 3 Api_Item.cells (some l)]) := by
    intro pre
    induction pre with
    | nil =>
      rcases p with ⟨rfl, rfl⟩ | ⟨id, rfl, p3⟩
      · exact Sub.cons (eml_isl 3) Sub.nil
      · exact Sub.cons (gsl_isl id 3 _ (by simp; omega)) Sub.nil
    | cons x pre ih => exact Sub.same ih
  exact CallsA.args (hs pre) H

theorem CalcJoins_does (a b : Option (List It)) (slots : Option (List Nat)) (bin : Int) (ha : okSl Api_Item.ok a) (hb : okSl Api_Item.ok b) (hs : okSl okN slots) (hbin : okI bin) (h : AHeap) :
    CallsA Try.prog 10 [slAV 3 Api_Item.cells a, slAV 3 Api_Item.cells b, slAV 1 encN slots, .int .i64 bin] h (fun v _ => v = .bool true) := by
  apply padlocklaw08_CalcJoins_wp
  refine (calc_alive_does h).mono ?_
  rintro _ h1 ⟨rfl, -⟩
  by_cases c1 : 31 < (slL a).length
  · have d1 : decide ((31 : Int) < ((slL a).length : Int)) = true := decide_eq_true (by omega)
    try simp -dsimp -implicitDefEqProofs only [↓later_1, ↓later_2, ↓later_3, obind_some, ↓Split_true, ↓Split_false, ↓run_pCond, ↓run_pCond_unkb, ↓run_pGuardT, ↓run_pGuardF, ↓run_pGuard_unkb, ↓run_pGuardST, ↓run_pGuardSF, ↓pGuard_tup, ↓pGuardS_tup, ↓run_pPick, ↓run_pIdx, ↓run_pExtract0, ↓run_pExtractS, ↓pJoin_eq, nth_zero, nth_cons, exitQ_normal, exitQ_exit, exitQ_ret, frOf_cons, ↓reduceIte, Nat.reduceEqDiff, loopPost_exit, loopPost_ret, pLen_str, pLen_isl, pLen_gsl, pLen_sl, pLen_nils, pLen_eml, pLen_array, pLen_slAV, pConv_int, pConv_str, pBox_true, pBox_false, pAlloc_eq, cells_agg, fits_agg, pNil_ptr, pNil_iptr, pNil_fn, pFieldAddr_ptr, pFieldAddr_iptr, pField_agg, pCells_zero, pCells_succ, pCells_some, Nat.reduceAdd, Nat.reduceLeDiff, Nat.le_refl, pLoad_iptr, pLoad_push, Nat.zero_add, Nat.add_zero, List.drop_zero, List.drop_succ_cons, List.length_cons, List.length_nil, List.take_succ_cons, List.take_zero, true_and, and_true, binA_int_eql, binA_int_neq, binA_int_lss, binA_int_leq, binA_int_gtr, binA_int_geq, binA_int_add, binA_int_sub, binA_int_mul, binA_int_and, binA_int_or, binA_int_xor, binA_str_eql, binA_str_neq, binA_bool_eql, binA_bool_neq, binA_ptr_eql_nil, binA_ptr_neq_nil, binA_iptr_eql_nil, binA_iptr_neq_nil, binA_nil_eql_nil, binA_nil_neq_nil, unA_not, unA_not_unkb, unA_neg, Bool.not_true, Bool.not_false, false_implies, true_implies, eq_self, d1]
  have d1 : decide ((31 : Int) < ((slL a).length : Int)) = false := decide_eq_false (by omega)
  by_cases c2 : 31 < (slL b).length
  · have d2 : decide ((31 : Int) < ((slL b).length : Int)) = true := decide_eq_true (by omega)
    try simp -dsimp -implicitDefEqProofs only [↓later_1, ↓later_2, ↓later_3, obind_some, ↓Split_true, ↓Split_false, ↓run_pCond, ↓run_pCond_unkb, ↓run_pGuardT, ↓run_pGuardF, ↓run_pGuard_unkb, ↓run_pGuardST, ↓run_pGuardSF, ↓pGuard_tup, ↓pGuardS_tup, ↓run_pPick, ↓run_pIdx, ↓run_pExtract0, ↓run_pExtractS, ↓pJoin_eq, nth_zero, nth_cons, exitQ_normal, exitQ_exit, exitQ_ret, frOf_cons, ↓reduceIte, Nat.reduceEqDiff, loopPost_exit, loopPost_ret, pLen_str, pLen_isl, pLen_gsl, pLen_sl, pLen_nils, pLen_eml, pLen_array, pLen_slAV, pConv_int, pConv_str, pBox_true, pBox_false, pAlloc_eq, cells_agg, fits_agg, pNil_ptr, pNil_iptr, pNil_fn, pFieldAddr_ptr, pFieldAddr_iptr, pField_agg, pCells_zero, pCells_succ, pCells_some, Nat.reduceAdd, Nat.reduceLeDiff, Nat.le_refl, pLoad_iptr, pLoad_push, Nat.zero_add, Nat.add_zero, List.drop_zero, List.drop_succ_cons, List.length_cons, List.length_nil, List.take_succ_cons, List.take_zero, true_and, and_true, binA_int_eql, binA_int_neq, binA_int_lss, binA_int_leq, binA_int_gtr, binA_int_geq, binA_int_add, binA_int_sub, binA_int_mul, binA_int_and, binA_int_or, binA_int_xor, binA_str_eql, binA_str_neq, binA_bool_eql, binA_bool_neq, binA_ptr_eql_nil, binA_ptr_neq_nil, binA_iptr_eql_nil, binA_iptr_neq_nil, binA_nil_eql_nil, binA_nil_neq_nil, unA_not, unA_not_unkb, unA_neg, Bool.not_true, Bool.not_false, false_implies, true_implies, eq_self, d1, d2]
  have d2 : decide ((31 : Int) < ((slL b).length : Int)) = false := decide_eq_false (by omega)
  by_cases c3 : 100 < (slL slots).length
  · have d3 : decide ((100 : Int) < ((slL slots).length : Int)) = true := decide_eq_true (by omega)
    try simp -dsimp -implicitDefEqProofs only [↓later_1, ↓later_2, ↓later_3, obind_some, ↓Split_true, ↓Split_false, ↓run_pCond, ↓run_pCond_unkb, ↓run_pGuardT, ↓run_pGuardF, ↓run_pGuard_unkb, ↓run_pGuardST, ↓run_pGuardSF, ↓pGuard_tup, ↓pGuardS_tup, ↓run_pPick, ↓run_pIdx, ↓run_pExtract0, ↓run_pExtractS, ↓pJoin_eq, nth_zero, nth_cons, exitQ_normal, exitQ_exit, exitQ_ret, frOf_cons, ↓reduceIte, Nat.reduceEqDiff, loopPost_exit, loopPost_ret, pLen_str, pLen_isl, pLen_gsl, pLen_sl, pLen_nils, pLen_eml, pLen_array, pLen_slAV, pConv_int, pConv_str, pBox_true, pBox_false, pAlloc_eq, cells_agg, fits_agg, pNil_ptr, pNil_iptr, pNil_fn, pFieldAddr_ptr, pFieldAddr_iptr, pField_agg, pCells_zero, pCells_succ, pCells_some, Nat.reduceAdd, Nat.reduceLeDiff, Nat.le_refl, pLoad_iptr, pLoad_push, Nat.zero_add, Nat.add_zero, List.drop_zero, List.drop_succ_cons, List.length_cons, List.length_nil, List.take_succ_cons, List.take_zero, true_and, and_true, binA_int_eql, binA_int_neq, binA_int_lss, binA_int_leq, binA_int_gtr, binA_int_geq, binA_int_add, binA_int_sub, binA_int_mul, binA_int_and, binA_int_or, binA_int_xor, binA_str_eql, binA_str_neq, binA_bool_eql, binA_bool_neq, binA_ptr_eql_nil, binA_ptr_neq_nil, binA_iptr_eql_nil, binA_iptr_neq_nil, binA_nil_eql_nil, binA_nil_neq_nil, unA_not, unA_not_unkb, unA_neg, Bool.not_true, Bool.not_false, false_implies, true_implies, eq_self, d1, d2, d3]
  have d3 : decide ((100 : Int) < ((slL slots).length : Int)) = false := decide_eq_false (by omega)
  try simp -dsimp -implicitDefEqProofs only [↓later_1, ↓later_2, ↓later_3, obind_some, ↓Split_true, ↓Split_false, ↓run_pCond, ↓run_pCond_unkb, ↓run_pGuardT, ↓run_pGuardF, ↓run_pGuard_unkb, ↓run_pGuardST, ↓run_pGuardSF, ↓pGuard_tup, ↓pGuardS_tup, ↓run_pPick, ↓run_pIdx, ↓run_pExtract0, ↓run_pExtractS, ↓pJoin_eq, nth_zero, nth_cons, exitQ_normal, exitQ_exit, exitQ_ret, frOf_cons, ↓reduceIte, Nat.reduceEqDiff, loopPost_exit, loopPost_ret, pLen_str, pLen_isl, pLen_gsl, pLen_sl, pLen_nils, pLen_eml, pLen_array, pLen_slAV, pConv_int, pConv_str, pBox_true, pBox_false, pAlloc_eq, cells_agg, fits_agg, pNil_ptr, pNil_iptr, pNil_fn, pFieldAddr_ptr, pFieldAddr_iptr, pField_agg, pCells_zero, pCells_succ, pCells_some, Nat.reduceAdd, Nat.reduceLeDiff, Nat.le_refl, pLoad_iptr, pLoad_push, Nat.zero_add, Nat.add_zero, List.drop_zero, List.drop_succ_cons, List.length_cons, List.length_nil, List.take_succ_cons, List.take_zero, true_and, and_true, binA_int_eql, binA_int_neq, binA_int_lss, binA_int_leq, binA_int_gtr, binA_int_geq, binA_int_add, binA_int_sub, binA_int_mul, binA_int_and, binA_int_or, binA_int_xor, binA_str_eql, binA_str_neq, binA_bool_eql, binA_bool_neq, binA_ptr_eql_nil, binA_ptr_neq_nil, binA_iptr_eql_nil, binA_iptr_neq_nil, binA_nil_eql_nil, binA_nil_neq_nil, unA_not, unA_not_unkb, unA_neg, Bool.not_true, Bool.not_false, false_implies, true_implies, eq_self, d1, d2, d3]
  have hsl : okI ((slL slots).length : Int) := by constructor <;> omega
  refine (ref_Good_does _ hsl a ha (by omega) _).mono ?_
  rintro _ h2 ⟨rfl, -⟩
  have unG : ∀ {l : List It} {s : Int}, goodB l s = true → goodP l s := fun hg => by
    unfold goodB at hg
    exact @of_decide_eq_true _ (Classical.propDecidable _) hg
  cases ga : goodB (slL a) ((slL slots).length : Int) with
  | false => try simp -dsimp -implicitDefEqProofs only [↓later_1, ↓later_2, ↓later_3, obind_some, ↓Split_true, ↓Split_false, ↓run_pCond, ↓run_pCond_unkb, ↓run_pGuardT, ↓run_pGuardF, ↓run_pGuard_unkb, ↓run_pGuardST, ↓run_pGuardSF, ↓pGuard_tup, ↓pGuardS_tup, ↓run_pPick, ↓run_pIdx, ↓run_pExtract0, ↓run_pExtractS, ↓pJoin_eq, nth_zero, nth_cons, exitQ_normal, exitQ_exit, exitQ_ret, frOf_cons, ↓reduceIte, Nat.reduceEqDiff, loopPost_exit, loopPost_ret, pLen_str, pLen_isl, pLen_gsl, pLen_sl, pLen_nils, pLen_eml, pLen_array, pLen_slAV, pConv_int, pConv_str, pBox_true, pBox_false, pAlloc_eq, cells_agg, fits_agg, pNil_ptr, pNil_iptr, pNil_fn, pFieldAddr_ptr, pFieldAddr_iptr, pField_agg, pCells_zero, pCells_succ, pCells_some, Nat.reduceAdd, Nat.reduceLeDiff, Nat.le_refl, pLoad_iptr, pLoad_push, Nat.zero_add, Nat.add_zero, List.drop_zero, List.drop_succ_cons, List.length_cons, List.length_nil, List.take_succ_cons, List.take_zero, true_and, and_true, binA_int_eql, binA_int_neq, binA_int_lss, binA_int_leq, binA_int_gtr, binA_int_geq, binA_int_add, binA_int_sub, binA_int_mul, binA_int_and, binA_int_or, binA_int_xor, binA_str_eql, binA_str_neq, binA_bool_eql, binA_bool_neq, binA_ptr_eql_nil, binA_ptr_neq_nil, binA_iptr_eql_nil, binA_iptr_neq_nil, binA_nil_eql_nil, binA_nil_neq_nil, unA_not, unA_not_unkb, unA_neg, Bool.not_true, Bool.not_false, false_implies, true_implies, eq_self]
  | true =>
  try simp -dsimp -implicitDefEqProofs only [↓later_1, ↓later_2, ↓later_3, obind_some, ↓Split_true, ↓Split_false, ↓run_pCond, ↓run_pCond_unkb, ↓run_pGuardT, ↓run_pGuardF, ↓run_pGuard_unkb, ↓run_pGuardST, ↓run_pGuardSF, ↓pGuard_tup, ↓pGuardS_tup, ↓run_pPick, ↓run_pIdx, ↓run_pExtract0, ↓run_pExtractS, ↓pJoin_eq, nth_zero, nth_cons, exitQ_normal, exitQ_exit, exitQ_ret, frOf_cons, ↓reduceIte, Nat.reduceEqDiff, loopPost_exit, loopPost_ret, pLen_str, pLen_isl, pLen_gsl, pLen_sl, pLen_nils, pLen_eml, pLen_array, pLen_slAV, pConv_int, pConv_str, pBox_true, pBox_false, pAlloc_eq, cells_agg, fits_agg, pNil_ptr, pNil_iptr, pNil_fn, pFieldAddr_ptr, pFieldAddr_iptr, pField_agg, pCells_zero, pCells_succ, pCells_some, Nat.reduceAdd, Nat.reduceLeDiff, Nat.le_refl, pLoad_iptr, pLoad_push, Nat.zero_add, Nat.add_zero, List.drop_zero, List.drop_succ_cons, List.length_cons, List.length_nil, List.take_succ_cons, List.take_zero, true_and, and_true, binA_int_eql, binA_int_neq, binA_int_lss, binA_int_leq, binA_int_gtr, binA_int_geq, binA_int_add, binA_int_sub, binA_int_mul, binA_int_and, binA_int_or, binA_int_xor, binA_str_eql, binA_str_neq, binA_bool_eql, binA_bool_neq, binA_ptr_eql_nil, binA_ptr_neq_nil, binA_iptr_eql_nil, binA_iptr_neq_nil, binA_nil_eql_nil, binA_nil_neq_nil, unA_not, unA_not_unkb, unA_neg, Bool.not_true, Bool.not_false, false_implies, true_implies, eq_self]
  refine (ref_Good_does _ hsl b hb (by omega) _).mono ?_
  rintro _ h3 ⟨rfl, -⟩
  cases gb : goodB (slL b) ((slL slots).length : Int) with
  | false => try simp -dsimp -implicitDefEqProofs only [↓later_1, ↓later_2, ↓later_3, obind_some, ↓Split_true, ↓Split_false, ↓run_pCond, ↓run_pCond_unkb, ↓run_pGuardT, ↓run_pGuardF, ↓run_pGuard_unkb, ↓run_pGuardST, ↓run_pGuardSF, ↓pGuard_tup, ↓pGuardS_tup, ↓run_pPick, ↓run_pIdx, ↓run_pExtract0, ↓run_pExtractS, ↓pJoin_eq, nth_zero, nth_cons, exitQ_normal, exitQ_exit, exitQ_ret, frOf_cons, ↓reduceIte, Nat.reduceEqDiff, loopPost_exit, loopPost_ret, pLen_str, pLen_isl, pLen_gsl, pLen_sl, pLen_nils, pLen_eml, pLen_array, pLen_slAV, pConv_int, pConv_str, pBox_true, pBox_false, pAlloc_eq, cells_agg, fits_agg, pNil_ptr, pNil_iptr, pNil_fn, pFieldAddr_ptr, pFieldAddr_iptr, pField_agg, pCells_zero, pCells_succ, pCells_some, Nat.reduceAdd, Nat.reduceLeDiff, Nat.le_refl, pLoad_iptr, pLoad_push, Nat.zero_add, Nat.add_zero, List.drop_zero, List.drop_succ_cons, List.length_cons, List.length_nil, List.take_succ_cons, List.take_zero, true_and, and_true, binA_int_eql, binA_int_neq, binA_int_lss, binA_int_leq, binA_int_gtr, binA_int_geq, binA_int_add, binA_int_sub, binA_int_mul, binA_int_and, binA_int_or, binA_int_xor, binA_str_eql, binA_str_neq, binA_bool_eql, binA_bool_neq, binA_ptr_eql_nil, binA_ptr_neq_nil, binA_iptr_eql_nil, binA_iptr_neq_nil, binA_nil_eql_nil, binA_nil_neq_nil, unA_not, unA_not_unkb, unA_neg, Bool.not_true, Bool.not_false, false_implies, true_implies, eq_self]
  | true =>
  by_cases c4 : bin < 0
  · have d4 : decide (bin < 0) = true := decide_eq_true c4
    try simp -dsimp -implicitDefEqProofs only [↓later_1, ↓later_2, ↓later_3, obind_some, ↓Split_true, ↓Split_false, ↓run_pCond, ↓run_pCond_unkb, ↓run_pGuardT, ↓run_pGuardF, ↓run_pGuard_unkb, ↓run_pGuardST, ↓run_pGuardSF, ↓pGuard_tup, ↓pGuardS_tup, ↓run_pPick, ↓run_pIdx, ↓run_pExtract0, ↓run_pExtractS, ↓pJoin_eq, nth_zero, nth_cons, exitQ_normal, exitQ_exit, exitQ_ret, frOf_cons, ↓reduceIte, Nat.reduceEqDiff, loopPost_exit, loopPost_ret, pLen_str, pLen_isl, pLen_gsl, pLen_sl, pLen_nils, pLen_eml, pLen_array, pLen_slAV, pConv_int, pConv_str, pBox_true, pBox_false, pAlloc_eq, cells_agg, fits_agg, pNil_ptr, pNil_iptr, pNil_fn, pFieldAddr_ptr, pFieldAddr_iptr, pField_agg, pCells_zero, pCells_succ, pCells_some, Nat.reduceAdd, Nat.reduceLeDiff, Nat.le_refl, pLoad_iptr, pLoad_push, Nat.zero_add, Nat.add_zero, List.drop_zero, List.drop_succ_cons, List.length_cons, List.length_nil, List.take_succ_cons, List.take_zero, true_and, and_true, binA_int_eql, binA_int_neq, binA_int_lss, binA_int_leq, binA_int_gtr, binA_int_geq, binA_int_add, binA_int_sub, binA_int_mul, binA_int_and, binA_int_or, binA_int_xor, binA_str_eql, binA_str_neq, binA_bool_eql, binA_bool_neq, binA_ptr_eql_nil, binA_ptr_neq_nil, binA_iptr_eql_nil, binA_iptr_neq_nil, binA_nil_eql_nil, binA_nil_neq_nil, unA_not, unA_not_unkb, unA_neg, Bool.not_true, Bool.not_false, false_implies, true_implies, eq_self, d4]
  have d4 : decide (bin < 0) = false := decide_eq_false c4
  by_cases c5 : 8 < bin
  · have d5 : decide (8 < bin) = true := decide_eq_true c5
    try simp -dsimp -implicitDefEqProofs only [↓later_1, ↓later_2, ↓later_3, obind_some, ↓Split_true, ↓Split_false, ↓run_pCond, ↓run_pCond_unkb, ↓run_pGuardT, ↓run_pGuardF, ↓run_pGuard_unkb, ↓run_pGuardST, ↓run_pGuardSF, ↓pGuard_tup, ↓pGuardS_tup, ↓run_pPick, ↓run_pIdx, ↓run_pExtract0, ↓run_pExtractS, ↓pJoin_eq, nth_zero, nth_cons, exitQ_normal, exitQ_exit, exitQ_ret, frOf_cons, ↓reduceIte, Nat.reduceEqDiff, loopPost_exit, loopPost_ret, pLen_str, pLen_isl, pLen_gsl, pLen_sl, pLen_nils, pLen_eml, pLen_array, pLen_slAV, pConv_int, pConv_str, pBox_true, pBox_false, pAlloc_eq, cells_agg, fits_agg, pNil_ptr, pNil_iptr, pNil_fn, pFieldAddr_ptr, pFieldAddr_iptr, pField_agg, pCells_zero, pCells_succ, pCells_some, Nat.reduceAdd, Nat.reduceLeDiff, Nat.le_refl, pLoad_iptr, pLoad_push, Nat.zero_add, Nat.add_zero, List.drop_zero, List.drop_succ_cons, List.length_cons, List.length_nil, List.take_succ_cons, List.take_zero, true_and, and_true, binA_int_eql, binA_int_neq, binA_int_lss, binA_int_leq, binA_int_gtr, binA_int_geq, binA_int_add, binA_int_sub, binA_int_mul, binA_int_and, binA_int_or, binA_int_xor, binA_str_eql, binA_str_neq, binA_bool_eql, binA_bool_neq, binA_ptr_eql_nil, binA_ptr_neq_nil, binA_iptr_eql_nil, binA_iptr_neq_nil, binA_nil_eql_nil, binA_nil_neq_nil, unA_not, unA_not_unkb, unA_neg, Bool.not_true, Bool.not_false, false_implies, true_implies, eq_self, d4, d5]
  have d5 : decide (8 < bin) = false := decide_eq_false c5
  have ga := unG ga
  have gb := unG gb
  try simp -dsimp -implicitDefEqProofs only [↓later_1, ↓later_2, ↓later_3, obind_some, ↓Split_true, ↓Split_false, ↓run_pCond, ↓run_pCond_unkb, ↓run_pGuardT, ↓run_pGuardF, ↓run_pGuard_unkb, ↓run_pGuardST, ↓run_pGuardSF, ↓pGuard_tup, ↓pGuardS_tup, ↓run_pPick, ↓run_pIdx, ↓run_pExtract0, ↓run_pExtractS, ↓pJoin_eq, nth_zero, nth_cons, exitQ_normal, exitQ_exit, exitQ_ret, frOf_cons, ↓reduceIte, Nat.reduceEqDiff, loopPost_exit, loopPost_ret, pLen_str, pLen_isl, pLen_gsl, pLen_sl, pLen_nils, pLen_eml, pLen_array, pLen_slAV, pConv_int, pConv_str, pBox_true, pBox_false, pAlloc_eq, cells_agg, fits_agg, pNil_ptr, pNil_iptr, pNil_fn, pFieldAddr_ptr, pFieldAddr_iptr, pField_agg, pCells_zero, pCells_succ, pCells_some, Nat.reduceAdd, Nat.reduceLeDiff, Nat.le_refl, pLoad_iptr, pLoad_push, Nat.zero_add, Nat.add_zero, List.drop_zero, List.drop_succ_cons, List.length_cons, List.length_nil, List.take_succ_cons, List.take_zero, true_and, and_true, binA_int_eql, binA_int_neq, binA_int_lss, binA_int_leq, binA_int_gtr, binA_int_geq, binA_int_add, binA_int_sub, binA_int_mul, binA_int_and, binA_int_or, binA_int_xor, binA_str_eql, binA_str_neq, binA_bool_eql, binA_bool_neq, binA_ptr_eql_nil, binA_ptr_neq_nil, binA_iptr_eql_nil, binA_iptr_neq_nil, binA_nil_eql_nil, binA_nil_neq_nil, unA_not, unA_not_unkb, unA_neg, Bool.not_true, Bool.not_false, false_implies, true_implies, eq_self, d4, d5, pBuildSl, Bool.false_eq_true, if_false, true_and, imp_self, eq_self, implies_true]
  refine all_push (Or.inl ⟨rfl, rfl⟩) a (by simp; omega) fun v1 h4 p4 => ?_
  try simp -dsimp -implicitDefEqProofs only [↓later_1, ↓later_2, ↓later_3, obind_some, ↓Split_true, ↓Split_false, ↓run_pCond, ↓run_pCond_unkb, ↓run_pGuardT, ↓run_pGuardF, ↓run_pGuard_unkb, ↓run_pGuardST, ↓run_pGuardSF, ↓pGuard_tup, ↓pGuardS_tup, ↓run_pPick, ↓run_pIdx, ↓run_pExtract0, ↓run_pExtractS, ↓pJoin_eq, nth_zero, nth_cons, exitQ_normal, exitQ_exit, exitQ_ret, frOf_cons, ↓reduceIte, Nat.reduceEqDiff, loopPost_exit, loopPost_ret, pLen_str, pLen_isl, pLen_gsl, pLen_sl, pLen_nils, pLen_eml, pLen_array, pLen_slAV, pConv_int, pConv_str, pBox_true, pBox_false, pAlloc_eq, cells_agg, fits_agg, pNil_ptr, pNil_iptr, pNil_fn, pFieldAddr_ptr, pFieldAddr_iptr, pField_agg, pCells_zero, pCells_succ, pCells_some, Nat.reduceAdd, Nat.reduceLeDiff, Nat.le_refl, pLoad_iptr, pLoad_push, Nat.zero_add, Nat.add_zero, List.drop_zero, List.drop_succ_cons, List.length_cons, List.length_nil, List.take_succ_cons, List.take_zero, true_and, and_true, binA_int_eql, binA_int_neq, binA_int_lss, binA_int_leq, binA_int_gtr, binA_int_geq, binA_int_add, binA_int_sub, binA_int_mul, binA_int_and, binA_int_or, binA_int_xor, binA_str_eql, binA_str_neq, binA_bool_eql, binA_bool_neq, binA_ptr_eql_nil, binA_ptr_neq_nil, binA_iptr_eql_nil, binA_iptr_neq_nil, binA_nil_eql_nil, binA_nil_neq_nil, unA_not, unA_not_unkb, unA_neg, Bool.not_true, Bool.not_false, false_implies, true_implies, eq_self]
  refine all_push p4 b (by simp; omega) fun v2 h5 p5 => ?_
  try simp -dsimp -implicitDefEqProofs only [↓later_1, ↓later_2, ↓later_3, obind_some, ↓Split_true, ↓Split_false, ↓run_pCond, ↓run_pCond_unkb, ↓run_pGuardT, ↓run_pGuardF, ↓run_pGuard_unkb, ↓run_pGuardST, ↓run_pGuardSF, ↓pGuard_tup, ↓pGuardS_tup, ↓run_pPick, ↓run_pIdx, ↓run_pExtract0, ↓run_pExtractS, ↓pJoin_eq, nth_zero, nth_cons, exitQ_normal, exitQ_exit, exitQ_ret, frOf_cons, ↓reduceIte, Nat.reduceEqDiff, loopPost_exit, loopPost_ret, pLen_str, pLen_isl, pLen_gsl, pLen_sl, pLen_nils, pLen_eml, pLen_array, pLen_slAV, pConv_int, pConv_str, pBox_true, pBox_false, pAlloc_eq, cells_agg, fits_agg, pNil_ptr, pNil_iptr, pNil_fn, pFieldAddr_ptr, pFieldAddr_iptr, pField_agg, pCells_zero, pCells_succ, pCells_some, Nat.reduceAdd, Nat.reduceLeDiff, Nat.le_refl, pLoad_iptr, pLoad_push, Nat.zero_add, Nat.add_zero, List.drop_zero, List.drop_succ_cons, List.length_cons, List.length_nil, List.take_succ_cons, List.take_zero, true_and, and_true, binA_int_eql, binA_int_neq, binA_int_lss, binA_int_leq, binA_int_gtr, binA_int_geq, binA_int_add, binA_int_sub, binA_int_mul, binA_int_and, binA_int_or, binA_int_xor, binA_str_eql, binA_str_neq, binA_bool_eql, binA_bool_neq, binA_ptr_eql_nil, binA_ptr_neq_nil, binA_iptr_eql_nil, binA_iptr_neq_nil, binA_nil_eql_nil, binA_nil_neq_nil, unA_not, unA_not_unkb, unA_neg, Bool.not_true, Bool.not_false, false_implies, true_implies, eq_self, pBuild, fillA, AV.fits, AV.cells, pBuildSl, fillE, List.getElem?_cons_zero, List.getElem?_cons_succ, List.replicate_succ, List.replicate_zero, List.set_cons_zero, List.set_cons_succ, and_self, if_true, List.nil_append, List.cons_append, List.append_nil, List.length_replicate, Nat.reduceMul, Nat.reduceLT, List.length_set, Nat.lt_add_left_iff_pos, Nat.zero_lt_succ, Nat.succ_ne_self, bld1]
  refine all_push p5 (some [opX bin]) (by simp; omega) fun v3 h6 p6 => ?_
  have hall := join_good (bin := bin) ga gb (by omega) (by omega) (by omega) (by omega)
  have hrun := join_run (slots := slL slots) (inputs := []) (bin := bin) ga gb
  have okAll : okSl Api_Item.ok (some (slL a ++ slL b ++ [opX bin])) := by
    refine ⟨by simp [maxLen]; omega, fun x hx => ?_⟩
    simp only [slL_some] at hx
    rcases List.mem_append.1 hx with hx | hx
    · rcases List.mem_append.1 hx with hx | hx
      · exact ha.2 x hx
      · exact hb.2 x hx
    · rcases List.mem_singleton.1 hx with rfl
      exact ⟨by constructor <;> simp [opX], hbin, by simp [opX, okN]⟩
  have q6 : AllAt h6 v3 (slL a ++ slL b ++ [opX bin]) := by simpa using p6
  have lall : (slL a ++ slL b ++ [opX bin]).length ≤ 64 := by simp; omega
  have eA := evalN_g (inputs := []) ga
  have eB := evalN_g (inputs := []) gb
  have eC := evalN_g (inputs := []) hall
  try simp -dsimp -implicitDefEqProofs only [↓later_1, ↓later_2, ↓later_3, obind_some, ↓Split_true, ↓Split_false, ↓run_pCond, ↓run_pCond_unkb, ↓run_pGuardT, ↓run_pGuardF, ↓run_pGuard_unkb, ↓run_pGuardST, ↓run_pGuardSF, ↓pGuard_tup, ↓pGuardS_tup, ↓run_pPick, ↓run_pIdx, ↓run_pExtract0, ↓run_pExtractS, ↓pJoin_eq, nth_zero, nth_cons, exitQ_normal, exitQ_exit, exitQ_ret, frOf_cons, ↓reduceIte, Nat.reduceEqDiff, loopPost_exit, loopPost_ret, pLen_str, pLen_isl, pLen_gsl, pLen_sl, pLen_nils, pLen_eml, pLen_array, pLen_slAV, pConv_int, pConv_str, pBox_true, pBox_false, pAlloc_eq, cells_agg, fits_agg, pNil_ptr, pNil_iptr, pNil_fn, pFieldAddr_ptr, pFieldAddr_iptr, pField_agg, pCells_zero, pCells_succ, pCells_some, Nat.reduceAdd, Nat.reduceLeDiff, Nat.le_refl, pLoad_iptr, pLoad_push, Nat.zero_add, Nat.add_zero, List.drop_zero, List.drop_succ_cons, List.length_cons, List.length_nil, List.take_succ_cons, List.take_zero, true_and, and_true, binA_int_eql, binA_int_neq, binA_int_lss, binA_int_leq, binA_int_gtr, binA_int_geq, binA_int_add, binA_int_sub, binA_int_mul, binA_int_and, binA_int_or, binA_int_xor, binA_str_eql, binA_str_neq, binA_bool_eql, binA_bool_neq, binA_ptr_eql_nil, binA_ptr_neq_nil, binA_iptr_eql_nil, binA_iptr_neq_nil, binA_nil_eql_nil, binA_nil_neq_nil, unA_not, unA_not_unkb, unA_neg, Bool.not_true, Bool.not_false, false_implies, true_implies, eq_self]
  refine (calc_Eval_does slots none a hs (by omega) (by simp) ha (by omega) _).mono ?_
  rintro _ h7 ⟨rfl, -⟩
  try simp -dsimp -implicitDefEqProofs only [↓later_1, ↓later_2, ↓later_3, obind_some, ↓Split_true, ↓Split_false, ↓run_pCond, ↓run_pCond_unkb, ↓run_pGuardT, ↓run_pGuardF, ↓run_pGuard_unkb, ↓run_pGuardST, ↓run_pGuardSF, ↓pGuard_tup, ↓pGuardS_tup, ↓run_pPick, ↓run_pIdx, ↓run_pExtract0, ↓run_pExtractS, ↓pJoin_eq, nth_zero, nth_cons, exitQ_normal, exitQ_exit, exitQ_ret, frOf_cons, ↓reduceIte, Nat.reduceEqDiff, loopPost_exit, loopPost_ret, pLen_str, pLen_isl, pLen_gsl, pLen_sl, pLen_nils, pLen_eml, pLen_array, pLen_slAV, pConv_int, pConv_str, pBox_true, pBox_false, pAlloc_eq, cells_agg, fits_agg, pNil_ptr, pNil_iptr, pNil_fn, pFieldAddr_ptr, pFieldAddr_iptr, pField_agg, pCells_zero, pCells_succ, pCells_some, Nat.reduceAdd, Nat.reduceLeDiff, Nat.le_refl, pLoad_iptr, pLoad_push, Nat.zero_add, Nat.add_zero, List.drop_zero, List.drop_succ_cons, List.length_cons, List.length_nil, List.take_succ_cons, List.take_zero, true_and, and_true, binA_int_eql, binA_int_neq, binA_int_lss, binA_int_leq, binA_int_gtr, binA_int_geq, binA_int_add, binA_int_sub, binA_int_mul, binA_int_and, binA_int_or, binA_int_xor, binA_str_eql, binA_str_neq, binA_bool_eql, binA_bool_neq, binA_ptr_eql_nil, binA_ptr_neq_nil, binA_iptr_eql_nil, binA_iptr_neq_nil, binA_nil_eql_nil, binA_nil_neq_nil, unA_not, unA_not_unkb, unA_neg, Bool.not_true, Bool.not_false, false_implies, true_implies, eq_self]
  refine (calc_Eval_does slots none b hs (by omega) (by simp) hb (by omega) _).mono ?_
  rintro _ h8 ⟨rfl, -⟩
  try simp -dsimp -implicitDefEqProofs only [↓later_1, ↓later_2, ↓later_3, obind_some, ↓Split_true, ↓Split_false, ↓run_pCond, ↓run_pCond_unkb, ↓run_pGuardT, ↓run_pGuardF, ↓run_pGuard_unkb, ↓run_pGuardST, ↓run_pGuardSF, ↓pGuard_tup, ↓pGuardS_tup, ↓run_pPick, ↓run_pIdx, ↓run_pExtract0, ↓run_pExtractS, ↓pJoin_eq, nth_zero, nth_cons, exitQ_normal, exitQ_exit, exitQ_ret, frOf_cons, ↓reduceIte, Nat.reduceEqDiff, loopPost_exit, loopPost_ret, pLen_str, pLen_isl, pLen_gsl, pLen_sl, pLen_nils, pLen_eml, pLen_array, pLen_slAV, pConv_int, pConv_str, pBox_true, pBox_false, pAlloc_eq, cells_agg, fits_agg, pNil_ptr, pNil_iptr, pNil_fn, pFieldAddr_ptr, pFieldAddr_iptr, pField_agg, pCells_zero, pCells_succ, pCells_some, Nat.reduceAdd, Nat.reduceLeDiff, Nat.le_refl, pLoad_iptr, pLoad_push, Nat.zero_add, Nat.add_zero, List.drop_zero, List.drop_succ_cons, List.length_cons, List.length_nil, List.take_succ_cons, List.take_zero, true_and, and_true, binA_int_eql, binA_int_neq, binA_int_lss, binA_int_leq, binA_int_gtr, binA_int_geq, binA_int_add, binA_int_sub, binA_int_mul, binA_int_and, binA_int_or, binA_int_xor, binA_str_eql, binA_str_neq, binA_bool_eql, binA_bool_neq, binA_ptr_eql_nil, binA_ptr_neq_nil, binA_iptr_eql_nil, binA_iptr_neq_nil, binA_nil_eql_nil, binA_nil_neq_nil, unA_not, unA_not_unkb, unA_neg, Bool.not_true, Bool.not_false, false_implies, true_implies, eq_self]
  refine all_call (pre := [slAV 1 encN slots, .nils]) q6 (by omega) ((calc_Eval_does slots none (some (slL a ++ slL b ++ [opX bin])) hs (by omega) (by simp) okAll (by simp only [slL_some]; omega) _).mono ?_)
  rintro _ h9 ⟨rfl, -⟩
  try simp -dsimp -implicitDefEqProofs only [↓later_1, ↓later_2, ↓later_3, obind_some, ↓Split_true, ↓Split_false, ↓run_pCond, ↓run_pCond_unkb, ↓run_pGuardT, ↓run_pGuardF, ↓run_pGuard_unkb, ↓run_pGuardST, ↓run_pGuardSF, ↓pGuard_tup, ↓pGuardS_tup, ↓run_pPick, ↓run_pIdx, ↓run_pExtract0, ↓run_pExtractS, ↓pJoin_eq, nth_zero, nth_cons, exitQ_normal, exitQ_exit, exitQ_ret, frOf_cons, ↓reduceIte, Nat.reduceEqDiff, loopPost_exit, loopPost_ret, pLen_str, pLen_isl, pLen_gsl, pLen_sl, pLen_nils, pLen_eml, pLen_array, pLen_slAV, pConv_int, pConv_str, pBox_true, pBox_false, pAlloc_eq, cells_agg, fits_agg, pNil_ptr, pNil_iptr, pNil_fn, pFieldAddr_ptr, pFieldAddr_iptr, pField_agg, pCells_zero, pCells_succ, pCells_some, Nat.reduceAdd, Nat.reduceLeDiff, Nat.le_refl, pLoad_iptr, pLoad_push, Nat.zero_add, Nat.add_zero, List.drop_zero, List.drop_succ_cons, List.length_cons, List.length_nil, List.take_succ_cons, List.take_zero, true_and, and_true, binA_int_eql, binA_int_neq, binA_int_lss, binA_int_leq, binA_int_gtr, binA_int_geq, binA_int_add, binA_int_sub, binA_int_mul, binA_int_and, binA_int_or, binA_int_xor, binA_str_eql, binA_str_neq, binA_bool_eql, binA_bool_neq, binA_ptr_eql_nil, binA_ptr_neq_nil, binA_iptr_eql_nil, binA_iptr_neq_nil, binA_nil_eql_nil, binA_nil_neq_nil, unA_not, unA_not_unkb, unA_neg, Bool.not_true, Bool.not_false, false_implies, true_implies, eq_self]
  refine all_call (pre := [.int .i64 ((slL slots).length : Nat)]) q6 (by omega) ((calc_Good_does _ hsl (some (slL a ++ slL b ++ [opX bin])) okAll _).mono ?_)
  rintro _ h10 ⟨rfl, -⟩
  have hgb : goodB (slL a ++ slL b ++ [opX bin]) ((slL slots).length : Int) = true := by unfold goodB; exact @decide_eq_true _ (Classical.propDecidable _) hall
  have z1 : ((1 : Int) != 0) = true := rfl
  have z0 : ((0 : Int) != 0) = false := rfl
  have w1 : ((1 : Int) == 1) = true := rfl
  have w0 : (((0 : Nat) : Int) == 0) = true := rfl
  have b3 : ∀ n : Int, (n == n) = true := by simp
  have n1 : (resN none).1 = 0 := rfl
  have n2 : (resN none).2 = 1 := rfl
  have n3 : ∀ x, (resN (some x)).2 = 0 := fun _ => rfl
  cases rA : runN (slL slots) [] [] (slL a) with
  | none =>
    rw [rA] at eA
    rw [hrun.1 rA] at eC
    try simp -dsimp -implicitDefEqProofs only [↓later_1, ↓later_2, ↓later_3, obind_some, ↓Split_true, ↓Split_false, ↓run_pCond, ↓run_pCond_unkb, ↓run_pGuardT, ↓run_pGuardF, ↓run_pGuard_unkb, ↓run_pGuardST, ↓run_pGuardSF, ↓pGuard_tup, ↓pGuardS_tup, ↓run_pPick, ↓run_pIdx, ↓run_pExtract0, ↓run_pExtractS, ↓pJoin_eq, nth_zero, nth_cons, exitQ_normal, exitQ_exit, exitQ_ret, frOf_cons, ↓reduceIte, Nat.reduceEqDiff, loopPost_exit, loopPost_ret, pLen_str, pLen_isl, pLen_gsl, pLen_sl, pLen_nils, pLen_eml, pLen_array, pLen_slAV, pConv_int, pConv_str, pBox_true, pBox_false, pAlloc_eq, cells_agg, fits_agg, pNil_ptr, pNil_iptr, pNil_fn, pFieldAddr_ptr, pFieldAddr_iptr, pField_agg, pCells_zero, pCells_succ, pCells_some, Nat.reduceAdd, Nat.reduceLeDiff, Nat.le_refl, pLoad_iptr, pLoad_push, Nat.zero_add, Nat.add_zero, List.drop_zero, List.drop_succ_cons, List.length_cons, List.length_nil, List.take_succ_cons, List.take_zero, true_and, and_true, binA_int_eql, binA_int_neq, binA_int_lss, binA_int_leq, binA_int_gtr, binA_int_geq, binA_int_add, binA_int_sub, binA_int_mul, binA_int_and, binA_int_or, binA_int_xor, binA_str_eql, binA_str_neq, binA_bool_eql, binA_bool_neq, binA_ptr_eql_nil, binA_ptr_neq_nil, binA_iptr_eql_nil, binA_iptr_neq_nil, binA_nil_eql_nil, binA_nil_neq_nil, unA_not, unA_not_unkb, unA_neg, Bool.not_true, Bool.not_false, false_implies, true_implies, eq_self, slL_some, slL_none, hgb, eA, eC, n1, n2, z1, w1, w0]
  | some x =>
    cases rB : runN (slL slots) [] [] (slL b) with
    | none =>
      rw [rA] at eA
      rw [rB] at eB
      rw [hrun.2.1 rB] at eC
      try simp -dsimp -implicitDefEqProofs only [↓later_1, ↓later_2, ↓later_3, obind_some, ↓Split_true, ↓Split_false, ↓run_pCond, ↓run_pCond_unkb, ↓run_pGuardT, ↓run_pGuardF, ↓run_pGuard_unkb, ↓run_pGuardST, ↓run_pGuardSF, ↓pGuard_tup, ↓pGuardS_tup, ↓run_pPick, ↓run_pIdx, ↓run_pExtract0, ↓run_pExtractS, ↓pJoin_eq, nth_zero, nth_cons, exitQ_normal, exitQ_exit, exitQ_ret, frOf_cons, ↓reduceIte, Nat.reduceEqDiff, loopPost_exit, loopPost_ret, pLen_str, pLen_isl, pLen_gsl, pLen_sl, pLen_nils, pLen_eml, pLen_array, pLen_slAV, pConv_int, pConv_str, pBox_true, pBox_false, pAlloc_eq, cells_agg, fits_agg, pNil_ptr, pNil_iptr, pNil_fn, pFieldAddr_ptr, pFieldAddr_iptr, pField_agg, pCells_zero, pCells_succ, pCells_some, Nat.reduceAdd, Nat.reduceLeDiff, Nat.le_refl, pLoad_iptr, pLoad_push, Nat.zero_add, Nat.add_zero, List.drop_zero, List.drop_succ_cons, List.length_cons, List.length_nil, List.take_succ_cons, List.take_zero, true_and, and_true, binA_int_eql, binA_int_neq, binA_int_lss, binA_int_leq, binA_int_gtr, binA_int_geq, binA_int_add, binA_int_sub, binA_int_mul, binA_int_and, binA_int_or, binA_int_xor, binA_str_eql, binA_str_neq, binA_bool_eql, binA_bool_neq, binA_ptr_eql_nil, binA_ptr_neq_nil, binA_iptr_eql_nil, binA_iptr_neq_nil, binA_nil_eql_nil, binA_nil_neq_nil, unA_not, unA_not_unkb, unA_neg, Bool.not_true, Bool.not_false, false_implies, true_implies, eq_self, slL_some, slL_none, hgb, eA, eB, eC, n1, n2, n3, z0, z1, w1, w0]
    | some y =>
      obtain ⟨u, v, rfl, rfl, e3⟩ := hrun.2.2 x y rA rB
      have hu : okN u := run_ok hs.2 _ [] _ (fun x hx => ha.2 x hx) (by simp) rA u (by simp)
      have hv : okN v := run_ok hs.2 _ [] _ (fun x hx => hb.2 x hx) (by simp) rB v (by simp)
      have hw := (calc_Eval_does none none (some [⟨1, 0, u⟩, ⟨1, 0, v⟩, opX bin]) ⟨by simp, by simp⟩ (by simp) (by simp) ⟨by simp [maxLen], by
        intro x hx
        simp only [slL_some, List.mem_cons, List.not_mem_nil, or_false] at hx
        rcases hx with rfl | rfl | rfl
        · exact ⟨by constructor <;> simp, by constructor <;> simp, hu⟩
        · exact ⟨by constructor <;> simp, by constructor <;> simp, hv⟩
        · exact ⟨by constructor <;> simp [opX], hbin, by simp [opX, okN]⟩⟩ (by simp))
      have eW := evalN_g (slots := []) (inputs := []) (push_good (u := u) (v := v) (bin := bin) (by omega) (by omega))
      rw [push_run] at eW
      simp only [slL_some, slL_none, eW] at hw
      rw [rA] at eA
      rw [rB] at eB
      rw [e3] at eC
      have r1 : (resN (some [u])).1 = u := rfl
      have r2 : (resN (some [u])).2 = 0 := rfl
      have r3 : (resN (some [v])).1 = v := rfl
      have r4 : (resN (some [v])).2 = 0 := rfl
      try simp -dsimp -implicitDefEqProofs only [↓later_1, ↓later_2, ↓later_3, obind_some, ↓Split_true, ↓Split_false, ↓run_pCond, ↓run_pCond_unkb, ↓run_pGuardT, ↓run_pGuardF, ↓run_pGuard_unkb, ↓run_pGuardST, ↓run_pGuardSF, ↓pGuard_tup, ↓pGuardS_tup, ↓run_pPick, ↓run_pIdx, ↓run_pExtract0, ↓run_pExtractS, ↓pJoin_eq, nth_zero, nth_cons, exitQ_normal, exitQ_exit, exitQ_ret, frOf_cons, ↓reduceIte, Nat.reduceEqDiff, loopPost_exit, loopPost_ret, pLen_str, pLen_isl, pLen_gsl, pLen_sl, pLen_nils, pLen_eml, pLen_array, pLen_slAV, pConv_int, pConv_str, pBox_true, pBox_false, pAlloc_eq, cells_agg, fits_agg, pNil_ptr, pNil_iptr, pNil_fn, pFieldAddr_ptr, pFieldAddr_iptr, pField_agg, pCells_zero, pCells_succ, pCells_some, Nat.reduceAdd, Nat.reduceLeDiff, Nat.le_refl, pLoad_iptr, pLoad_push, Nat.zero_add, Nat.add_zero, List.drop_zero, List.drop_succ_cons, List.length_cons, List.length_nil, List.take_succ_cons, List.take_zero, true_and, and_true, binA_int_eql, binA_int_neq, binA_int_lss, binA_int_leq, binA_int_gtr, binA_int_geq, binA_int_add, binA_int_sub, binA_int_mul, binA_int_and, binA_int_or, binA_int_xor, binA_str_eql, binA_str_neq, binA_bool_eql, binA_bool_neq, binA_ptr_eql_nil, binA_ptr_neq_nil, binA_iptr_eql_nil, binA_iptr_neq_nil, binA_nil_eql_nil, binA_nil_neq_nil, unA_not, unA_not_unkb, unA_neg, Bool.not_true, Bool.not_false, false_implies, true_implies, eq_self, slL_some, slL_none, hgb, eA, eB, eC, r1, r2, r3, r4, z0, pBuild, fillA, AV.fits, AV.cells, pBuildSl, fillE, List.getElem?_cons_zero, List.getElem?_cons_succ, List.replicate_succ, List.replicate_zero, List.set_cons_zero, List.set_cons_succ, and_self, if_true, List.nil_append, List.cons_append, List.append_nil, List.length_replicate, Nat.reduceMul, Nat.reduceLT, List.length_set, Nat.lt_add_left_iff_pos, Nat.zero_lt_succ, Nat.succ_ne_self, bld1]
      refine (hw _).mono ?_
      rintro _ h11 ⟨rfl, -⟩
      try simp -dsimp -implicitDefEqProofs only [↓later_1, ↓later_2, ↓later_3, obind_some, ↓Split_true, ↓Split_false, ↓run_pCond, ↓run_pCond_unkb, ↓run_pGuardT, ↓run_pGuardF, ↓run_pGuard_unkb, ↓run_pGuardST, ↓run_pGuardSF, ↓pGuard_tup, ↓pGuardS_tup, ↓run_pPick, ↓run_pIdx, ↓run_pExtract0, ↓run_pExtractS, ↓pJoin_eq, nth_zero, nth_cons, exitQ_normal, exitQ_exit, exitQ_ret, frOf_cons, ↓reduceIte, Nat.reduceEqDiff, loopPost_exit, loopPost_ret, pLen_str, pLen_isl, pLen_gsl, pLen_sl, pLen_nils, pLen_eml, pLen_array, pLen_slAV, pConv_int, pConv_str, pBox_true, pBox_false, pAlloc_eq, cells_agg, fits_agg, pNil_ptr, pNil_iptr, pNil_fn, pFieldAddr_ptr, pFieldAddr_iptr, pField_agg, pCells_zero, pCells_succ, pCells_some, Nat.reduceAdd, Nat.reduceLeDiff, Nat.le_refl, pLoad_iptr, pLoad_push, Nat.zero_add, Nat.add_zero, List.drop_zero, List.drop_succ_cons, List.length_cons, List.length_nil, List.take_succ_cons, List.take_zero, true_and, and_true, binA_int_eql, binA_int_neq, binA_int_lss, binA_int_leq, binA_int_gtr, binA_int_geq, binA_int_add, binA_int_sub, binA_int_mul, binA_int_and, binA_int_or, binA_int_xor, binA_str_eql, binA_str_neq, binA_bool_eql, binA_bool_neq, binA_ptr_eql_nil, binA_ptr_neq_nil, binA_iptr_eql_nil, binA_iptr_neq_nil, binA_nil_eql_nil, binA_nil_neq_nil, unA_not, unA_not_unkb, unA_neg, Bool.not_true, Bool.not_false, false_implies, true_implies, eq_self, slL_some, slL_none, eC, b3]

end Go.Proofs.Ytkmehngemidiiaa
