/- calc: the law 'hangs'. -/
import Derived.Test.YtkmehngemidiiaaCalcF
import Derived.Test.YtkmehngemidiiaaAbsGhost
set_option linter.unusedVariables false
set_option linter.unusedSimpArgs false
set_option maxRecDepth 8000
set_option maxHeartbeats 1000000
namespace Go.Proofs.Ytkmehngemidiiaa
open Go.Abs

theorem runN_cong {s1 s2 : List Nat} {inputs : List Int} : ∀ (l : List It) (st : List Nat), (∀ x ∈ l, x.Op = 2 → s1.getD x.N 0 = s2.getD x.N 0) → runN s1 inputs st l = runN s2 inputs st l
  | [], st, _ => rfl
  | x :: l, st, h => by
    have e : stepN s1 inputs st x = stepN s2 inputs st x := by
      unfold stepN leafN
      by_cases h2 : x.Op = 2
      · rw [h x (List.mem_cons_self ..) h2]
      · simp only [h2, if_false]
    simp only [runN, e]
    cases stepN s2 inputs st x with
    | none => rfl
    | some st2 => exact runN_cong l st2 fun y hy => h y (List.mem_cons_of_mem _ hy)
theorem evalN_cong {s1 s2 : List Nat} {inputs : List Int} {l : List It} (hl : s1.length = s2.length) (h : ∀ x ∈ l, x.Op = 2 → s1.getD x.N 0 = s2.getD x.N 0) : evalN s1 inputs l = evalN s2 inputs l := by
  unfold evalN
  rw [hl, runN_cong l [] h]
theorem usesL_mem {l : List It} {v : Int} (h : v ∈ usesL l) : ∃ x ∈ l, x.Op = 2 ∧ v = sgN x.N := by
  induction l with
  | nil => simp [usesL] at h
  | cons x l ih =>
    simp only [usesL] at h
    split at h
    · rename_i e
      rcases List.mem_cons.1 h with rfl | h
      · exact ⟨x, List.mem_cons_self .., e, rfl⟩
      · obtain ⟨y, hy, r⟩ := ih h
        exact ⟨y, List.mem_cons_of_mem _ hy, r⟩
    · obtain ⟨y, hy, r⟩ := ih h
      exact ⟨y, List.mem_cons_of_mem _ hy, r⟩
theorem mem_usesL {l : List It} {x : It} (hx : x ∈ l) (h2 : x.Op = 2) : sgN x.N ∈ usesL l := by
  induction l with
  | nil => cases hx
  | cons y l ih =>
    simp only [usesL]
    rcases List.mem_cons.1 hx with rfl | hx
    · rw [if_pos h2]; exact List.mem_cons_self ..
    · split
      · exact List.mem_cons_of_mem _ (ih hx)
      · exact ih hx
theorem uses_in {l : List It} {s : Nat} (hs : s ≤ 1000000) (hg : okL s l) {x : It} (hx : x ∈ l) (h2 : x.Op = 2) : x.N < s ∧ sgN x.N = (x.N : Int) := by
  obtain ⟨k, hk, rfl⟩ := List.getElem_of_mem hx
  have hf := (hg k hk _ (List.getElem?_eq_getElem hk)).1
  unfold fitsB at hf
  rw [if_neg (by omega), if_pos h2] at hf
  simp only [Bool.and_eq_true, decide_eq_true_eq] at hf
  have : l[k].N < s := by omega
  exact ⟨this, by unfold sgN; rw [wrapI (by omega) (by omega)]⟩

theorem enc_flat (m : List Nat) : (m.map encN).flatten = m.map fun v : Nat => AV.int .u64 (v : Int) := by
  induction m with
  | nil => rfl
  | cons x m ih => simp only [List.map_cons, List.flatten_cons, ih]; rfl
/-- The slots that are turned. -/
def MixAt (h : AHeap) (a : AV) (st : List Nat) : Prop := (st = [] ∧ a = .eml) ∨ ∃ id, id < h.next ∧ a = .sl id 0 st.length 1 ∧ h.objs id = some (.row 28 (st.map fun v : Nat => .int .u64 (v : Int)))
theorem MixAt.keeps {h h' : AHeap} {a : AV} {st : List Nat} (p : MixAt h a st) (k : Keeps h h' (fun _ => False)) : MixAt h' a st := by
  rcases p with p | ⟨id, p2, p3, p4⟩
  · exact Or.inl p
  · exact Or.inr ⟨id, Nat.lt_of_lt_of_le p2 k.next, p3, by rw [k.objs id p2 (fun h => h)]; exact p4⟩
theorem mix_init (o : Option (List Nat)) (ho : (slL o).length ≤ 1000) (h : AHeap) {K : AV → AHeap → Prop} (hK : ∀ a h2, MixAt h2 a (slL o) → K a h2) : pAppend false { e := 28, sz := 1, by_ := 8 } .eml (slAV 1 encN o) h K := by
  rcases o with _ | (_ | ⟨v, l⟩)
  · exact hK _ _ (Or.inl ⟨rfl, rfl⟩)
  · exact hK _ _ (Or.inl ⟨rfl, rfl⟩)
  · have e1 : srcElems 1 (slAV 1 encN (some (v :: l))) h = some (encN v :: l.map encN) := rfl
    simp only [pAppend, e1, newSl, Bool.false_eq_true, if_false]
    refine ⟨by simp [bounded, maxLen] at ho ⊢; omega, hK _ _ (Or.inr ⟨h.next, by simp, by simp, ?_⟩)⟩
    have := enc_flat l
    simp [encN] at this ⊢
    exact this
theorem mix_set {h : AHeap} {a : AV} {st : List Nat} (p : MixAt h a st) {k : Nat} (hk : k < st.length) (v : Nat) (kk : IntKind) {K : AHeap → Prop}
    (hK : ∀ h2, MixAt h2 a (st.set k v) → K h2) : pIndexAddr (.slice 1) a (.int kk (k : Nat)) (fun x => pStore 1 x (.int .u64 (v : Int)) h K) := by
  rcases p with ⟨rfl, -⟩ | ⟨id, p2, rfl, p4⟩
  · simp at hk
  · simp only [pIndexAddr]
    refine ⟨trivial, by omega, by omega, ?_⟩
    simp only [Int.toNat_natCast, Nat.zero_add, Nat.mul_one]
    rw [pStore_ptr p4 rfl (by simpa using hk)]
    refine hK _ (Or.inr ⟨id, p2, by simp, ?_⟩)
    simp
theorem mix_call {h : AHeap} {a : AV} {st : List Nat} (p : MixAt h a st) (hl : st.length ≤ 1000000) {P : Program} {f : FuncId} {post : List AV} {R : AV → AHeap → Prop} (H : ∀ h, CallsA P f (slAV 1 encN (some st) :: post) h R) : CallsA P f (a :: post) h R := by
  rcases p with ⟨rfl, rfl⟩ | ⟨id, p2, rfl, p4⟩
  · exact CallsA.args (Sub.cons (eml_isl 1) (fun _ _ _ h => h)) (H h)
  · have := CallsA.freeze (pre := []) (post := post) (f := f) (P := P) (R := R) (n := st.length) (sz := 1) p4 (by simp) hl (by
      have e : chunk 1 st.length (st.map fun v : Nat => AV.int .u64 (v : Int)) = st.map encN := by
        have := chunk_flat 1 (st.map encN) (by intro e he; obtain ⟨x, -, rfl⟩ := List.mem_map.1 he; rfl)
        rw [List.length_map] at this
        rw [← enc_flat]
        exact this
      rw [e]
      exact H _)
    exact this

theorem CalcHangs_does (items : Option (List It)) (slots others : Option (List Nat)) (inputs : Option (List Int)) (hok : okSl Api_Item.ok items) (hs : okSl okN slots) (ho : okSl okN others) (hin : okSl okI inputs) (h : AHeap) :
    CallsA Try.prog 14 [slAV 3 Api_Item.cells items, slAV 1 encN slots, slAV 1 encN others, slAV 1 encI inputs] h (fun v _ => v = .bool true) := by
  apply padlocklaw08_CalcHangs_wp
  refine (calc_alive_does h).mono ?_
  rintro _ h1 ⟨rfl, -⟩
  by_cases c1 : 64 < (slL items).length
  · have d1 : decide ((64 : Int) < ((slL items).length : Int)) = true := decide_eq_true (by omega)
    try simp -dsimp -implicitDefEqProofs only [↓later_1, ↓later_2, ↓later_3, obind_some, ↓Split_true, ↓Split_false, ↓run_pCond, ↓run_pCond_unkb, ↓run_pGuardT, ↓run_pGuardF, ↓run_pGuard_unkb, ↓run_pGuardST, ↓run_pGuardSF, ↓pGuard_tup, ↓pGuardS_tup, ↓run_pPick, ↓run_pIdx, ↓run_pExtract0, ↓run_pExtractS, ↓pJoin_eq, nth_zero, nth_cons, exitQ_normal, exitQ_exit, exitQ_ret, frOf_cons, ↓reduceIte, Nat.reduceEqDiff, loopPost_exit, loopPost_ret, pLen_str, pLen_isl, pLen_gsl, pLen_sl, pLen_nils, pLen_eml, pLen_array, pLen_slAV, pConv_int, pConv_str, pBox_true, pBox_false, pAlloc_eq, cells_agg, fits_agg, pNil_ptr, pNil_iptr, pNil_fn, pFieldAddr_ptr, pFieldAddr_iptr, pField_agg, pCells_zero, pCells_succ, pCells_some, Nat.reduceAdd, Nat.reduceLeDiff, Nat.le_refl, pLoad_iptr, pLoad_push, Nat.zero_add, Nat.add_zero, List.drop_zero, List.drop_succ_cons, List.length_cons, List.length_nil, List.take_succ_cons, List.take_zero, true_and, and_true, binA_int_eql, binA_int_neq, binA_int_lss, binA_int_leq, binA_int_gtr, binA_int_geq, binA_int_add, binA_int_sub, binA_int_mul, binA_int_and, binA_int_or, binA_int_xor, binA_str_eql, binA_str_neq, binA_bool_eql, binA_bool_neq, binA_ptr_eql_nil, binA_ptr_neq_nil, binA_iptr_eql_nil, binA_iptr_neq_nil, binA_nil_eql_nil, binA_nil_neq_nil, unA_not, unA_not_unkb, unA_neg, Bool.not_true, Bool.not_false, false_implies, true_implies, eq_self, d1]
  have d1 : decide ((64 : Int) < ((slL items).length : Int)) = false := decide_eq_false (by omega)
  by_cases c2 : 100 < (slL slots).length
  · have d2 : decide ((100 : Int) < ((slL slots).length : Int)) = true := decide_eq_true (by omega)
    try simp -dsimp -implicitDefEqProofs only [↓later_1, ↓later_2, ↓later_3, obind_some, ↓Split_true, ↓Split_false, ↓run_pCond, ↓run_pCond_unkb, ↓run_pGuardT, ↓run_pGuardF, ↓run_pGuard_unkb, ↓run_pGuardST, ↓run_pGuardSF, ↓pGuard_tup, ↓pGuardS_tup, ↓run_pPick, ↓run_pIdx, ↓run_pExtract0, ↓run_pExtractS, ↓pJoin_eq, nth_zero, nth_cons, exitQ_normal, exitQ_exit, exitQ_ret, frOf_cons, ↓reduceIte, Nat.reduceEqDiff, loopPost_exit, loopPost_ret, pLen_str, pLen_isl, pLen_gsl, pLen_sl, pLen_nils, pLen_eml, pLen_array, pLen_slAV, pConv_int, pConv_str, pBox_true, pBox_false, pAlloc_eq, cells_agg, fits_agg, pNil_ptr, pNil_iptr, pNil_fn, pFieldAddr_ptr, pFieldAddr_iptr, pField_agg, pCells_zero, pCells_succ, pCells_some, Nat.reduceAdd, Nat.reduceLeDiff, Nat.le_refl, pLoad_iptr, pLoad_push, Nat.zero_add, Nat.add_zero, List.drop_zero, List.drop_succ_cons, List.length_cons, List.length_nil, List.take_succ_cons, List.take_zero, true_and, and_true, binA_int_eql, binA_int_neq, binA_int_lss, binA_int_leq, binA_int_gtr, binA_int_geq, binA_int_add, binA_int_sub, binA_int_mul, binA_int_and, binA_int_or, binA_int_xor, binA_str_eql, binA_str_neq, binA_bool_eql, binA_bool_neq, binA_ptr_eql_nil, binA_ptr_neq_nil, binA_iptr_eql_nil, binA_iptr_neq_nil, binA_nil_eql_nil, binA_nil_neq_nil, unA_not, unA_not_unkb, unA_neg, Bool.not_true, Bool.not_false, false_implies, true_implies, eq_self, d1, d2]
  have d2 : decide ((100 : Int) < ((slL slots).length : Int)) = false := decide_eq_false (by omega)
  by_cases c4 : ¬ (slL others).length = (slL slots).length
  · have d4 : ((((slL others).length : Nat) : Int) != (((slL slots).length : Nat) : Int)) = true := by simp only [bne_iff_ne, ne_eq]; omega
    try simp -dsimp -implicitDefEqProofs only [↓later_1, ↓later_2, ↓later_3, obind_some, ↓Split_true, ↓Split_false, ↓run_pCond, ↓run_pCond_unkb, ↓run_pGuardT, ↓run_pGuardF, ↓run_pGuard_unkb, ↓run_pGuardST, ↓run_pGuardSF, ↓pGuard_tup, ↓pGuardS_tup, ↓run_pPick, ↓run_pIdx, ↓run_pExtract0, ↓run_pExtractS, ↓pJoin_eq, nth_zero, nth_cons, exitQ_normal, exitQ_exit, exitQ_ret, frOf_cons, ↓reduceIte, Nat.reduceEqDiff, loopPost_exit, loopPost_ret, pLen_str, pLen_isl, pLen_gsl, pLen_sl, pLen_nils, pLen_eml, pLen_array, pLen_slAV, pConv_int, pConv_str, pBox_true, pBox_false, pAlloc_eq, cells_agg, fits_agg, pNil_ptr, pNil_iptr, pNil_fn, pFieldAddr_ptr, pFieldAddr_iptr, pField_agg, pCells_zero, pCells_succ, pCells_some, Nat.reduceAdd, Nat.reduceLeDiff, Nat.le_refl, pLoad_iptr, pLoad_push, Nat.zero_add, Nat.add_zero, List.drop_zero, List.drop_succ_cons, List.length_cons, List.length_nil, List.take_succ_cons, List.take_zero, true_and, and_true, binA_int_eql, binA_int_neq, binA_int_lss, binA_int_leq, binA_int_gtr, binA_int_geq, binA_int_add, binA_int_sub, binA_int_mul, binA_int_and, binA_int_or, binA_int_xor, binA_str_eql, binA_str_neq, binA_bool_eql, binA_bool_neq, binA_ptr_eql_nil, binA_ptr_neq_nil, binA_iptr_eql_nil, binA_iptr_neq_nil, binA_nil_eql_nil, binA_nil_neq_nil, unA_not, unA_not_unkb, unA_neg, Bool.not_true, Bool.not_false, false_implies, true_implies, eq_self, d1, d2, d4]
  have c4 := Classical.not_not.1 c4
  have d4 : ((((slL others).length : Nat) : Int) != (((slL slots).length : Nat) : Int)) = false := by simp [c4]
  by_cases c3 : 100 < (slL inputs).length
  · have d3 : decide ((100 : Int) < ((slL inputs).length : Int)) = true := decide_eq_true (by omega)
    try simp -dsimp -implicitDefEqProofs only [↓later_1, ↓later_2, ↓later_3, obind_some, ↓Split_true, ↓Split_false, ↓run_pCond, ↓run_pCond_unkb, ↓run_pGuardT, ↓run_pGuardF, ↓run_pGuard_unkb, ↓run_pGuardST, ↓run_pGuardSF, ↓pGuard_tup, ↓pGuardS_tup, ↓run_pPick, ↓run_pIdx, ↓run_pExtract0, ↓run_pExtractS, ↓pJoin_eq, nth_zero, nth_cons, exitQ_normal, exitQ_exit, exitQ_ret, frOf_cons, ↓reduceIte, Nat.reduceEqDiff, loopPost_exit, loopPost_ret, pLen_str, pLen_isl, pLen_gsl, pLen_sl, pLen_nils, pLen_eml, pLen_array, pLen_slAV, pConv_int, pConv_str, pBox_true, pBox_false, pAlloc_eq, cells_agg, fits_agg, pNil_ptr, pNil_iptr, pNil_fn, pFieldAddr_ptr, pFieldAddr_iptr, pField_agg, pCells_zero, pCells_succ, pCells_some, Nat.reduceAdd, Nat.reduceLeDiff, Nat.le_refl, pLoad_iptr, pLoad_push, Nat.zero_add, Nat.add_zero, List.drop_zero, List.drop_succ_cons, List.length_cons, List.length_nil, List.take_succ_cons, List.take_zero, true_and, and_true, binA_int_eql, binA_int_neq, binA_int_lss, binA_int_leq, binA_int_gtr, binA_int_geq, binA_int_add, binA_int_sub, binA_int_mul, binA_int_and, binA_int_or, binA_int_xor, binA_str_eql, binA_str_neq, binA_bool_eql, binA_bool_neq, binA_ptr_eql_nil, binA_ptr_neq_nil, binA_iptr_eql_nil, binA_iptr_neq_nil, binA_nil_eql_nil, binA_nil_neq_nil, unA_not, unA_not_unkb, unA_neg, Bool.not_true, Bool.not_false, false_implies, true_implies, eq_self, d1, d2, d4, d3]
  have d3 : decide ((100 : Int) < ((slL inputs).length : Int)) = false := decide_eq_false (by omega)
  try simp -dsimp -implicitDefEqProofs only [↓later_1, ↓later_2, ↓later_3, obind_some, ↓Split_true, ↓Split_false, ↓run_pCond, ↓run_pCond_unkb, ↓run_pGuardT, ↓run_pGuardF, ↓run_pGuard_unkb, ↓run_pGuardST, ↓run_pGuardSF, ↓pGuard_tup, ↓pGuardS_tup, ↓run_pPick, ↓run_pIdx, ↓run_pExtract0, ↓run_pExtractS, ↓pJoin_eq, nth_zero, nth_cons, exitQ_normal, exitQ_exit, exitQ_ret, frOf_cons, ↓reduceIte, Nat.reduceEqDiff, loopPost_exit, loopPost_ret, pLen_str, pLen_isl, pLen_gsl, pLen_sl, pLen_nils, pLen_eml, pLen_array, pLen_slAV, pConv_int, pConv_str, pBox_true, pBox_false, pAlloc_eq, cells_agg, fits_agg, pNil_ptr, pNil_iptr, pNil_fn, pFieldAddr_ptr, pFieldAddr_iptr, pField_agg, pCells_zero, pCells_succ, pCells_some, Nat.reduceAdd, Nat.reduceLeDiff, Nat.le_refl, pLoad_iptr, pLoad_push, Nat.zero_add, Nat.add_zero, List.drop_zero, List.drop_succ_cons, List.length_cons, List.length_nil, List.take_succ_cons, List.take_zero, true_and, and_true, binA_int_eql, binA_int_neq, binA_int_lss, binA_int_leq, binA_int_gtr, binA_int_geq, binA_int_add, binA_int_sub, binA_int_mul, binA_int_and, binA_int_or, binA_int_xor, binA_str_eql, binA_str_neq, binA_bool_eql, binA_bool_neq, binA_ptr_eql_nil, binA_ptr_neq_nil, binA_iptr_eql_nil, binA_iptr_neq_nil, binA_nil_eql_nil, binA_nil_neq_nil, unA_not, unA_not_unkb, unA_neg, Bool.not_true, Bool.not_false, false_implies, true_implies, eq_self, d1, d2, d4, d3]
  refine (ref_Good_does _ (by constructor <;> omega) items hok (by omega) _).mono ?_
  rintro _ h2 ⟨rfl, -⟩
  cases hg : goodB (slL items) ((slL slots).length : Int) with
  | false => try simp -dsimp -implicitDefEqProofs only [↓later_1, ↓later_2, ↓later_3, obind_some, ↓Split_true, ↓Split_false, ↓run_pCond, ↓run_pCond_unkb, ↓run_pGuardT, ↓run_pGuardF, ↓run_pGuard_unkb, ↓run_pGuardST, ↓run_pGuardSF, ↓pGuard_tup, ↓pGuardS_tup, ↓run_pPick, ↓run_pIdx, ↓run_pExtract0, ↓run_pExtractS, ↓pJoin_eq, nth_zero, nth_cons, exitQ_normal, exitQ_exit, exitQ_ret, frOf_cons, ↓reduceIte, Nat.reduceEqDiff, loopPost_exit, loopPost_ret, pLen_str, pLen_isl, pLen_gsl, pLen_sl, pLen_nils, pLen_eml, pLen_array, pLen_slAV, pConv_int, pConv_str, pBox_true, pBox_false, pAlloc_eq, cells_agg, fits_agg, pNil_ptr, pNil_iptr, pNil_fn, pFieldAddr_ptr, pFieldAddr_iptr, pField_agg, pCells_zero, pCells_succ, pCells_some, Nat.reduceAdd, Nat.reduceLeDiff, Nat.le_refl, pLoad_iptr, pLoad_push, Nat.zero_add, Nat.add_zero, List.drop_zero, List.drop_succ_cons, List.length_cons, List.length_nil, List.take_succ_cons, List.take_zero, true_and, and_true, binA_int_eql, binA_int_neq, binA_int_lss, binA_int_leq, binA_int_gtr, binA_int_geq, binA_int_add, binA_int_sub, binA_int_mul, binA_int_and, binA_int_or, binA_int_xor, binA_str_eql, binA_str_neq, binA_bool_eql, binA_bool_neq, binA_ptr_eql_nil, binA_ptr_neq_nil, binA_iptr_eql_nil, binA_iptr_neq_nil, binA_nil_eql_nil, binA_nil_neq_nil, unA_not, unA_not_unkb, unA_neg, Bool.not_true, Bool.not_false, false_implies, true_implies, eq_self]
  | true =>
  have hgp : goodP (slL items) ((slL slots).length : Int) := by
    unfold goodB at hg
    exact @of_decide_eq_true _ (Classical.propDecidable _) hg
  try simp -dsimp -implicitDefEqProofs only [↓later_1, ↓later_2, ↓later_3, obind_some, ↓Split_true, ↓Split_false, ↓run_pCond, ↓run_pCond_unkb, ↓run_pGuardT, ↓run_pGuardF, ↓run_pGuard_unkb, ↓run_pGuardST, ↓run_pGuardSF, ↓pGuard_tup, ↓pGuardS_tup, ↓run_pPick, ↓run_pIdx, ↓run_pExtract0, ↓run_pExtractS, ↓pJoin_eq, nth_zero, nth_cons, exitQ_normal, exitQ_exit, exitQ_ret, frOf_cons, ↓reduceIte, Nat.reduceEqDiff, loopPost_exit, loopPost_ret, pLen_str, pLen_isl, pLen_gsl, pLen_sl, pLen_nils, pLen_eml, pLen_array, pLen_slAV, pConv_int, pConv_str, pBox_true, pBox_false, pAlloc_eq, cells_agg, fits_agg, pNil_ptr, pNil_iptr, pNil_fn, pFieldAddr_ptr, pFieldAddr_iptr, pField_agg, pCells_zero, pCells_succ, pCells_some, Nat.reduceAdd, Nat.reduceLeDiff, Nat.le_refl, pLoad_iptr, pLoad_push, Nat.zero_add, Nat.add_zero, List.drop_zero, List.drop_succ_cons, List.length_cons, List.length_nil, List.take_succ_cons, List.take_zero, true_and, and_true, binA_int_eql, binA_int_neq, binA_int_lss, binA_int_leq, binA_int_gtr, binA_int_geq, binA_int_add, binA_int_sub, binA_int_mul, binA_int_and, binA_int_or, binA_int_xor, binA_str_eql, binA_str_neq, binA_bool_eql, binA_bool_neq, binA_ptr_eql_nil, binA_ptr_neq_nil, binA_iptr_eql_nil, binA_iptr_neq_nil, binA_nil_eql_nil, binA_nil_neq_nil, unA_not, unA_not_unkb, unA_neg, Bool.not_true, Bool.not_false, false_implies, true_implies, eq_self, pBuildSl, Bool.false_eq_true, if_false, true_and, imp_self, eq_self, implies_true]
  refine mix_init others (by omega) _ fun a h3 p3 => ?_
  try simp -dsimp -implicitDefEqProofs only [↓later_1, ↓later_2, ↓later_3, obind_some, ↓Split_true, ↓Split_false, ↓run_pCond, ↓run_pCond_unkb, ↓run_pGuardT, ↓run_pGuardF, ↓run_pGuard_unkb, ↓run_pGuardST, ↓run_pGuardSF, ↓pGuard_tup, ↓pGuardS_tup, ↓run_pPick, ↓run_pIdx, ↓run_pExtract0, ↓run_pExtractS, ↓pJoin_eq, nth_zero, nth_cons, exitQ_normal, exitQ_exit, exitQ_ret, frOf_cons, ↓reduceIte, Nat.reduceEqDiff, loopPost_exit, loopPost_ret, pLen_str, pLen_isl, pLen_gsl, pLen_sl, pLen_nils, pLen_eml, pLen_array, pLen_slAV, pConv_int, pConv_str, pBox_true, pBox_false, pAlloc_eq, cells_agg, fits_agg, pNil_ptr, pNil_iptr, pNil_fn, pFieldAddr_ptr, pFieldAddr_iptr, pField_agg, pCells_zero, pCells_succ, pCells_some, Nat.reduceAdd, Nat.reduceLeDiff, Nat.le_refl, pLoad_iptr, pLoad_push, Nat.zero_add, Nat.add_zero, List.drop_zero, List.drop_succ_cons, List.length_cons, List.length_nil, List.take_succ_cons, List.take_zero, true_and, and_true, binA_int_eql, binA_int_neq, binA_int_lss, binA_int_leq, binA_int_gtr, binA_int_geq, binA_int_add, binA_int_sub, binA_int_mul, binA_int_and, binA_int_or, binA_int_xor, binA_str_eql, binA_str_neq, binA_bool_eql, binA_bool_neq, binA_ptr_eql_nil, binA_ptr_neq_nil, binA_iptr_eql_nil, binA_iptr_neq_nil, binA_nil_eql_nil, binA_nil_neq_nil, unA_not, unA_not_unkb, unA_neg, Bool.not_true, Bool.not_false, false_implies, true_implies, eq_self]
  refine (calc_Uses_does items hok (by omega) _).mono ?_
  rintro _ h4 ⟨⟨id, rfl⟩, k4⟩
  have ul := usesL_len (slL items)
  have hin2 : ∀ v ∈ usesL (slL items), ∃ n : Nat, v = (n : Int) ∧ n < (slL slots).length := by
    intro v hv
    obtain ⟨x, hx, hx2, rfl⟩ := usesL_mem hv
    obtain ⟨u1, u2⟩ := uses_in (by omega) hgp.1 hx hx2
    exact ⟨x.N, u2, u1⟩
  try simp -dsimp -implicitDefEqProofs only [↓later_1, ↓later_2, ↓later_3, obind_some, ↓Split_true, ↓Split_false, ↓run_pCond, ↓run_pCond_unkb, ↓run_pGuardT, ↓run_pGuardF, ↓run_pGuard_unkb, ↓run_pGuardST, ↓run_pGuardSF, ↓pGuard_tup, ↓pGuardS_tup, ↓run_pPick, ↓run_pIdx, ↓run_pExtract0, ↓run_pExtractS, ↓pJoin_eq, nth_zero, nth_cons, exitQ_normal, exitQ_exit, exitQ_ret, frOf_cons, ↓reduceIte, Nat.reduceEqDiff, loopPost_exit, loopPost_ret, pLen_str, pLen_isl, pLen_gsl, pLen_sl, pLen_nils, pLen_eml, pLen_array, pLen_slAV, pConv_int, pConv_str, pBox_true, pBox_false, pAlloc_eq, cells_agg, fits_agg, pNil_ptr, pNil_iptr, pNil_fn, pFieldAddr_ptr, pFieldAddr_iptr, pField_agg, pCells_zero, pCells_succ, pCells_some, Nat.reduceAdd, Nat.reduceLeDiff, Nat.le_refl, pLoad_iptr, pLoad_push, Nat.zero_add, Nat.add_zero, List.drop_zero, List.drop_succ_cons, List.length_cons, List.length_nil, List.take_succ_cons, List.take_zero, true_and, and_true, binA_int_eql, binA_int_neq, binA_int_lss, binA_int_leq, binA_int_gtr, binA_int_geq, binA_int_add, binA_int_sub, binA_int_mul, binA_int_and, binA_int_or, binA_int_xor, binA_str_eql, binA_str_neq, binA_bool_eql, binA_bool_neq, binA_ptr_eql_nil, binA_ptr_neq_nil, binA_iptr_eql_nil, binA_iptr_neq_nil, binA_nil_eql_nil, binA_nil_neq_nil, unA_not, unA_not_unkb, unA_neg, Bool.not_true, Bool.not_false, false_implies, true_implies, eq_self, gsI_len]
  refine WP_loop mixed_ (by kernel_rfl) (fun m fr hh => ∃ (k : Nat) (st : List Nat), k ≤ (usesL (slL items)).length ∧ m = (usesL (slL items)).length - k ∧ st.length = (slL slots).length ∧ (∀ v ∈ st, okN v) ∧ MixAt hh a st ∧ (∀ n : Nat, (n : Int) ∈ (usesL (slL items)).take k → st.getD n 0 = (slL slots).getD n 0) ∧
    fr = frOf [(0, slAV 3 Api_Item.cells items), (1, slAV 1 encN slots), (3, slAV 1 encI inputs), (9, a), (49, gsI id (usesL (slL items))), (50, .int .i64 ((usesL (slL items)).length : Nat)), (51, .int .i64 (k : Nat))]) (usesL (slL items)).length
    ⟨0, slL others, by omega, by omega, c4, ho.2, p3.keeps k4, by simp, rfl⟩ ?_
  rintro m fr hh ⟨k, st, hk, rfl, hst, hsk, hmx, hag, rfl⟩
  apply padlocklaw08_CalcHangs_loop7
  generalize hI : (fun (m : Nat) (fr : Fr) (hh : AHeap) => _) = I
  by_cases hkl : k < (usesL (slL items)).length
  · have hx : (usesL (slL items))[k]? = some (usesL (slL items))[k] := List.getElem?_eq_getElem hkl
    obtain ⟨n, hn, hnl⟩ := hin2 _ (List.mem_of_getElem? hx)
    rw [hn] at hx
    have d0 : decide ((k : Int) < ((usesL (slL items)).length : Int)) = true := decide_eq_true (by omega)
    have wk : IntKind.i64.wrap ((k : Int) + 1) = ((k + 1 : Nat) : Int) := by rw [wrapI (by omega) (by omega)]; omega
    have d5 : decide ((n : Int) < 0) = false := decide_eq_false (by omega)
    have d6 : decide (((slL slots).length : Int) ≤ (n : Int)) = false := decide_eq_false (by omega)
    try simp -dsimp -implicitDefEqProofs only [↓later_1, ↓later_2, ↓later_3, obind_some, ↓Split_true, ↓Split_false, ↓run_pCond, ↓run_pCond_unkb, ↓run_pGuardT, ↓run_pGuardF, ↓run_pGuard_unkb, ↓run_pGuardST, ↓run_pGuardSF, ↓pGuard_tup, ↓pGuardS_tup, ↓run_pPick, ↓run_pIdx, ↓run_pExtract0, ↓run_pExtractS, ↓pJoin_eq, nth_zero, nth_cons, exitQ_normal, exitQ_exit, exitQ_ret, frOf_cons, ↓reduceIte, Nat.reduceEqDiff, loopPost_exit, loopPost_ret, pLen_str, pLen_isl, pLen_gsl, pLen_sl, pLen_nils, pLen_eml, pLen_array, pLen_slAV, pConv_int, pConv_str, pBox_true, pBox_false, pAlloc_eq, cells_agg, fits_agg, pNil_ptr, pNil_iptr, pNil_fn, pFieldAddr_ptr, pFieldAddr_iptr, pField_agg, pCells_zero, pCells_succ, pCells_some, Nat.reduceAdd, Nat.reduceLeDiff, Nat.le_refl, pLoad_iptr, pLoad_push, Nat.zero_add, Nat.add_zero, List.drop_zero, List.drop_succ_cons, List.length_cons, List.length_nil, List.take_succ_cons, List.take_zero, true_and, and_true, binA_int_eql, binA_int_neq, binA_int_lss, binA_int_leq, binA_int_gtr, binA_int_geq, binA_int_add, binA_int_sub, binA_int_mul, binA_int_and, binA_int_or, binA_int_xor, binA_str_eql, binA_str_neq, binA_bool_eql, binA_bool_neq, binA_ptr_eql_nil, binA_ptr_neq_nil, binA_iptr_eql_nil, binA_iptr_neq_nil, binA_nil_eql_nil, binA_nil_neq_nil, unA_not, unA_not_unkb, unA_neg, Bool.not_true, Bool.not_false, false_implies, true_implies, eq_self, d0, gsI_at hx, d5, d6, encN_at hnl]
    refine mix_set hmx (by omega) ((slL slots).getD n 0) .i64 fun h5 p5 => ?_
    try simp -dsimp -implicitDefEqProofs only [↓later_1, ↓later_2, ↓later_3, obind_some, ↓Split_true, ↓Split_false, ↓run_pCond, ↓run_pCond_unkb, ↓run_pGuardT, ↓run_pGuardF, ↓run_pGuard_unkb, ↓run_pGuardST, ↓run_pGuardSF, ↓pGuard_tup, ↓pGuardS_tup, ↓run_pPick, ↓run_pIdx, ↓run_pExtract0, ↓run_pExtractS, ↓pJoin_eq, nth_zero, nth_cons, exitQ_normal, exitQ_exit, exitQ_ret, frOf_cons, ↓reduceIte, Nat.reduceEqDiff, loopPost_exit, loopPost_ret, pLen_str, pLen_isl, pLen_gsl, pLen_sl, pLen_nils, pLen_eml, pLen_array, pLen_slAV, pConv_int, pConv_str, pBox_true, pBox_false, pAlloc_eq, cells_agg, fits_agg, pNil_ptr, pNil_iptr, pNil_fn, pFieldAddr_ptr, pFieldAddr_iptr, pField_agg, pCells_zero, pCells_succ, pCells_some, Nat.reduceAdd, Nat.reduceLeDiff, Nat.le_refl, pLoad_iptr, pLoad_push, Nat.zero_add, Nat.add_zero, List.drop_zero, List.drop_succ_cons, List.length_cons, List.length_nil, List.take_succ_cons, List.take_zero, true_and, and_true, binA_int_eql, binA_int_neq, binA_int_lss, binA_int_leq, binA_int_gtr, binA_int_geq, binA_int_add, binA_int_sub, binA_int_mul, binA_int_and, binA_int_or, binA_int_xor, binA_str_eql, binA_str_neq, binA_bool_eql, binA_bool_neq, binA_ptr_eql_nil, binA_ptr_neq_nil, binA_iptr_eql_nil, binA_iptr_neq_nil, binA_nil_eql_nil, binA_nil_neq_nil, unA_not, unA_not_unkb, unA_neg, Bool.not_true, Bool.not_false, false_implies, true_implies, eq_self, wk]
    rw [loopPost_normal, ← hI]
    refine ⟨_, ?_, k + 1, st.set n ((slL slots).getD n 0), by omega, rfl, by simp [hst], ?_, p5, ?_, rfl⟩
    · omega
    · intro v hv
      rcases List.mem_or_eq_of_mem_set hv with hv | rfl
      · exact hsk v hv
      · rw [List.getD_eq_getElem?_getD, List.getElem?_eq_getElem hnl]
        exact hs.2 _ (List.getElem_mem hnl)
    · intro j hj
      rw [List.take_add_one, hx] at hj
      by_cases e : j = n
      · subst e
        simp [List.getD_eq_getElem?_getD, hst, hnl]
      · have : (j : Int) ∈ (usesL (slL items)).take k := by
          rcases List.mem_append.1 hj with hj | hj
          · exact hj
          · simp at hj; omega
        rw [← hag j this]
        simp [List.getD_eq_getElem?_getD, List.getElem?_set, Ne.symm e]
  · have hke : k = (usesL (slL items)).length := by omega
    subst hke
    rw [List.take_length] at hag
    have d0 : decide (((usesL (slL items)).length : Int) < ((usesL (slL items)).length : Int)) = false := decide_eq_false (by omega)
    have hev : evalN st (slL inputs) (slL items) = evalN (slL slots) (slL inputs) (slL items) := evalN_cong hst fun x hx h2 => by
      have := mem_usesL hx h2
      rw [(uses_in (by omega) hgp.1 hx h2).2] at this
      exact hag _ this
    try simp -dsimp -implicitDefEqProofs only [↓later_1, ↓later_2, ↓later_3, obind_some, ↓Split_true, ↓Split_false, ↓run_pCond, ↓run_pCond_unkb, ↓run_pGuardT, ↓run_pGuardF, ↓run_pGuard_unkb, ↓run_pGuardST, ↓run_pGuardSF, ↓pGuard_tup, ↓pGuardS_tup, ↓run_pPick, ↓run_pIdx, ↓run_pExtract0, ↓run_pExtractS, ↓pJoin_eq, nth_zero, nth_cons, exitQ_normal, exitQ_exit, exitQ_ret, frOf_cons, ↓reduceIte, Nat.reduceEqDiff, loopPost_exit, loopPost_ret, pLen_str, pLen_isl, pLen_gsl, pLen_sl, pLen_nils, pLen_eml, pLen_array, pLen_slAV, pConv_int, pConv_str, pBox_true, pBox_false, pAlloc_eq, cells_agg, fits_agg, pNil_ptr, pNil_iptr, pNil_fn, pFieldAddr_ptr, pFieldAddr_iptr, pField_agg, pCells_zero, pCells_succ, pCells_some, Nat.reduceAdd, Nat.reduceLeDiff, Nat.le_refl, pLoad_iptr, pLoad_push, Nat.zero_add, Nat.add_zero, List.drop_zero, List.drop_succ_cons, List.length_cons, List.length_nil, List.take_succ_cons, List.take_zero, true_and, and_true, binA_int_eql, binA_int_neq, binA_int_lss, binA_int_leq, binA_int_gtr, binA_int_geq, binA_int_add, binA_int_sub, binA_int_mul, binA_int_and, binA_int_or, binA_int_xor, binA_str_eql, binA_str_neq, binA_bool_eql, binA_bool_neq, binA_ptr_eql_nil, binA_ptr_neq_nil, binA_iptr_eql_nil, binA_iptr_neq_nil, binA_nil_eql_nil, binA_nil_neq_nil, unA_not, unA_not_unkb, unA_neg, Bool.not_true, Bool.not_false, false_implies, true_implies, eq_self, d0]
    refine (calc_Eval_does slots inputs items hs (by omega) (by omega) hok (by omega) _).mono ?_
    rintro _ h6 ⟨rfl, k6⟩
    try simp -dsimp -implicitDefEqProofs only [↓later_1, ↓later_2, ↓later_3, obind_some, ↓Split_true, ↓Split_false, ↓run_pCond, ↓run_pCond_unkb, ↓run_pGuardT, ↓run_pGuardF, ↓run_pGuard_unkb, ↓run_pGuardST, ↓run_pGuardSF, ↓pGuard_tup, ↓pGuardS_tup, ↓run_pPick, ↓run_pIdx, ↓run_pExtract0, ↓run_pExtractS, ↓pJoin_eq, nth_zero, nth_cons, exitQ_normal, exitQ_exit, exitQ_ret, frOf_cons, ↓reduceIte, Nat.reduceEqDiff, loopPost_exit, loopPost_ret, pLen_str, pLen_isl, pLen_gsl, pLen_sl, pLen_nils, pLen_eml, pLen_array, pLen_slAV, pConv_int, pConv_str, pBox_true, pBox_false, pAlloc_eq, cells_agg, fits_agg, pNil_ptr, pNil_iptr, pNil_fn, pFieldAddr_ptr, pFieldAddr_iptr, pField_agg, pCells_zero, pCells_succ, pCells_some, Nat.reduceAdd, Nat.reduceLeDiff, Nat.le_refl, pLoad_iptr, pLoad_push, Nat.zero_add, Nat.add_zero, List.drop_zero, List.drop_succ_cons, List.length_cons, List.length_nil, List.take_succ_cons, List.take_zero, true_and, and_true, binA_int_eql, binA_int_neq, binA_int_lss, binA_int_leq, binA_int_gtr, binA_int_geq, binA_int_add, binA_int_sub, binA_int_mul, binA_int_and, binA_int_or, binA_int_xor, binA_str_eql, binA_str_neq, binA_bool_eql, binA_bool_neq, binA_ptr_eql_nil, binA_ptr_neq_nil, binA_iptr_eql_nil, binA_iptr_neq_nil, binA_nil_eql_nil, binA_nil_neq_nil, unA_not, unA_not_unkb, unA_neg, Bool.not_true, Bool.not_false, false_implies, true_implies, eq_self]
    refine mix_call (hmx.keeps k6) (by omega) fun hx => (calc_Eval_does (some st) inputs items ⟨by simp only [slL_some, maxLen]; omega, hsk⟩ (by simp only [slL_some]; omega) (by omega) hok (by omega) hx).mono ?_
    rintro _ h7 ⟨rfl, -⟩
    have b3 : ∀ n : Int, (n == n) = true := by simp
    simp only [slL_some, hev]
    try simp -dsimp -implicitDefEqProofs only [↓later_1, ↓later_2, ↓later_3, obind_some, ↓Split_true, ↓Split_false, ↓run_pCond, ↓run_pCond_unkb, ↓run_pGuardT, ↓run_pGuardF, ↓run_pGuard_unkb, ↓run_pGuardST, ↓run_pGuardSF, ↓pGuard_tup, ↓pGuardS_tup, ↓run_pPick, ↓run_pIdx, ↓run_pExtract0, ↓run_pExtractS, ↓pJoin_eq, nth_zero, nth_cons, exitQ_normal, exitQ_exit, exitQ_ret, frOf_cons, ↓reduceIte, Nat.reduceEqDiff, loopPost_exit, loopPost_ret, pLen_str, pLen_isl, pLen_gsl, pLen_sl, pLen_nils, pLen_eml, pLen_array, pLen_slAV, pConv_int, pConv_str, pBox_true, pBox_false, pAlloc_eq, cells_agg, fits_agg, pNil_ptr, pNil_iptr, pNil_fn, pFieldAddr_ptr, pFieldAddr_iptr, pField_agg, pCells_zero, pCells_succ, pCells_some, Nat.reduceAdd, Nat.reduceLeDiff, Nat.le_refl, pLoad_iptr, pLoad_push, Nat.zero_add, Nat.add_zero, List.drop_zero, List.drop_succ_cons, List.length_cons, List.length_nil, List.take_succ_cons, List.take_zero, true_and, and_true, binA_int_eql, binA_int_neq, binA_int_lss, binA_int_leq, binA_int_gtr, binA_int_geq, binA_int_add, binA_int_sub, binA_int_mul, binA_int_and, binA_int_or, binA_int_xor, binA_str_eql, binA_str_neq, binA_bool_eql, binA_bool_neq, binA_ptr_eql_nil, binA_ptr_neq_nil, binA_iptr_eql_nil, binA_iptr_neq_nil, binA_nil_eql_nil, binA_nil_neq_nil, unA_not, unA_not_unkb, unA_neg, Bool.not_true, Bool.not_false, false_implies, true_implies, eq_self, b3]

end Go.Proofs.Ytkmehngemidiiaa
