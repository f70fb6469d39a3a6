/- heap: making by the document; globals; names. -/
import Derived.Test.YtppldbldpphlmaaHeapG
set_option linter.unusedVariables false
set_option linter.unusedSimpArgs false
set_option maxRecDepth 8000
namespace Go.Proofs.Ytppldbldpphlmaa
open Go.Abs

theorem RfAt.grow {h hE : AHeap} {F : Nat → Prop} {j : Nat} {ts : List Rt} {GL : AV} (p : RfAt h F j ts GL) (t : Rt) (g : Nat) (hn : h.next ≤ hE.next) (hj : hE.objs j = some (.row 87 [GL, thsAV (ts ++ [t]) g]))
    (ht : hE.objs t.id = some (.row 28 (valCells t.vals))) (h1 : h.next ≤ t.id) (h2 : t.id < hE.next) (hr : 1 ≤ t.ref ∧ t.ref ≤ 64) (hl : ts.length < 64) (ho : ∀ x, F x → x ≠ j → hE.objs x = h.objs x) :
    RfAt hE (fun x => F x ∨ x = t.id) j (ts ++ [t]) GL := by
  obtain ⟨g0, hg⟩ := p.row
  have cne : ∀ u ∈ ts, u.id ≠ j := fun u hu e => by have := (p.cells u hu).2; rw [e, hg] at this; cases this
  refine ⟨Or.inl p.own, fun x hx => ?_, ⟨g, hj⟩, fun u hu => ?_, fun a b u v ha hb hid => ?_, by simp; omega, fun u hu => ?_⟩
  · rcases hx with hx | rfl
    · exact Nat.lt_of_lt_of_le (p.lt x hx) hn
    · exact h2
  · rcases List.mem_append.1 hu with hu | hu
    · exact ⟨Or.inl (p.cells u hu).1, by rw [ho _ (p.cells u hu).1 (cne u hu)]; exact (p.cells u hu).2⟩
    · rcases List.mem_singleton.1 hu with rfl
      exact ⟨Or.inr rfl, ht⟩
  · have lt : ∀ (a : Nat) (u : Rt), (ts ++ [t])[a]? = some u → (ts[a]? = some u ∧ u.id < h.next) ∨ (a = ts.length ∧ u = t) := by
      intro a u ha
      rw [List.getElem?_append] at ha
      split at ha
      · exact Or.inl ⟨ha, p.lt _ (p.cells u (List.mem_of_getElem? ha)).1⟩
      · rename_i hge
        have : a - ts.length = 0 := by
          have := (List.getElem?_eq_some_iff.1 ha).1
          simp at this; omega
        rw [this] at ha
        simp at ha
        exact Or.inr ⟨by omega, ha.symm⟩
    rcases lt a u ha with ⟨a1, a2⟩ | ⟨a1, rfl⟩ <;> rcases lt b v hb with ⟨b1, b2⟩ | ⟨b1, rfl⟩
    · exact p.dist a b u v a1 b1 hid
    · omega
    · omega
    · omega
  · rcases List.mem_append.1 hu with hu | hu
    · exact p.refs u hu
    · rcases List.mem_singleton.1 hu with rfl
      exact hr

def ThAt (h : AHeap) (a : AV) (ts : List Rt) (lo : Nat) : Prop := (ts = [] ∧ a = .eml) ∨ ∃ id, lo ≤ id ∧ id < h.next ∧ a = .gsl id 4 (ts.map Rt.cells) ∧ h.objs id = some (.tok 106 (ts.length * 4))
theorem ths_copy (ts : List Rt) (g : Nat) (hl : ts.length ≤ 64) (h : AHeap) {K : AV → AHeap → Prop} (hK : ∀ a h2, ThAt h2 a ts h.next → Keeps h h2 (fun _ => False) → K a h2) :
    pAppend true { e := 106, sz := 4, by_ := 48 } .eml (thsAV ts g) h K := by
  cases ts with
  | nil => exact hK _ _ (Or.inl ⟨rfl, rfl⟩) (.refl _ _)
  | cons t ts =>
    have e : srcElems 4 (thsAV (t :: ts) g) h = some ((t :: ts).map Rt.cells) := by simp [thsAV, srcElems]
    simp only [pAppend, e, List.map_cons, newSl, if_true]
    refine ⟨by simp [bounded, maxLen] at hl ⊢; omega, hK _ _ (Or.inr ⟨h.next, by omega, by simp, by simp, by simp⟩) (Keeps.push _ _)⟩
theorem ths_push {h : AHeap} {a : AV} {ts : List Rt} {lo : Nat} (p : ThAt h a ts lo) (hl : ts.length ≤ 64) (t : Rt) {K : AV → AHeap → Prop} (hK : ∀ g h2, (∀ x, x < h.next → (x < lo ∨ ∃ ty cs, h.objs x = some (.row ty cs)) → h2.objs x = h.objs x) → h.next ≤ h2.next → K (thsAV (ts ++ [t]) g) h2) :
    pAppend true { e := 106, sz := 4, by_ := 48 } a (.isl 4 [t.cells]) h K := by
  have ea : ∀ g, thsAV (ts ++ [t]) g = .gsl g 4 ((ts ++ [t]).map Rt.cells) := fun g => by cases ts <;> rfl
  rcases p with ⟨rfl, rfl⟩ | ⟨id, p1, p2, rfl, p3⟩
  · simp only [pAppend, srcElems, if_true, newSl]
    refine ⟨by simp [bounded, maxLen], ?_⟩
    exact hK h.next _ (fun x hx _ => by simp; omega) (by simp)
  · simp only [pAppend, srcElems, if_true, p3]
    refine ⟨trivial, trivial, by simp, by simp [bounded, maxLen]; omega, ?_⟩
    have := hK h.next ((h.kill id).push (.tok 106 ((ts.map Rt.cells ++ [t.cells]).length * 4))) (fun x hx hc => by
      simp only [AHeap.push_objs, AHeap.kill_objs]
      rw [if_neg (show ¬ x = (h.kill id).next by simp only [AHeap.kill_next]; omega), if_neg]
      rintro rfl
      rcases hc with hc | ⟨ty, cs, hc⟩
      · omega
      · rw [p3] at hc; cases hc) (by simp)
    rw [ea] at this
    simpa using this

theorem len_cnt : ∀ (M : List Rf), (∀ t ∈ M, 1 ≤ t.ref ∧ t.ref ≤ 64) → M.length = cntM M 0 + cntM M 1 + cntM M 2 + cntM M 3
  | [], _ => rfl
  | t :: M, h => by
    have ih := len_cnt M fun x hx => h x (List.mem_cons_of_mem _ hx)
    have ht := h t (List.mem_cons_self ..)
    unfold cntM at ih ⊢
    simp only [List.map_cons, List.countP_cons, List.length_cons, beq_iff_eq]
    generalize List.countP (fun r => ((((r - 1) / 16 : Nat) : Int) == 0)) (M.map Rf.ref) = a at ih ⊢
    generalize List.countP (fun r => ((((r - 1) / 16 : Nat) : Int) == 1)) (M.map Rf.ref) = b at ih ⊢
    generalize List.countP (fun r => ((((r - 1) / 16 : Nat) : Int) == 2)) (M.map Rf.ref) = c at ih ⊢
    generalize List.countP (fun r => ((((r - 1) / 16 : Nat) : Int) == 3)) (M.map Rf.ref) = d at ih ⊢
    obtain e | e | e | e : (t.ref - 1) / 16 = 0 ∨ (t.ref - 1) / 16 = 1 ∨ (t.ref - 1) / 16 = 2 ∨ (t.ref - 1) / 16 = 3 := by omega
    all_goals (rw [e]; simp; omega)
def makeRM (M : List Rf) (th n : Int) : Int ⊕ Nat := if th < 0 ∨ 3 < th ∨ 16 ≤ cntM M th then .inl 4 else if n < 0 ∨ 16 < n then .inl 5 else .inr (16 * th.toNat + cntM M th + 1)

theorem ref_Make_does {h : AHeap} {F : Nat → Prop} {j : Nat} {ts : List Rt} {GL : AV} (p : RfAt h F j ts GL) (th site cls n : Int) (hw : ∀ k : Int, cntM (ts.map Rt.rf) k ≤ 16) :
    CallsA Try.prog 44 [.ptr j 0, .int .i64 th, .int .i64 site, .int .i64 cls, .int .i64 n] h (fun v h2 =>
      match makeRM (ts.map Rt.rf) th n with
      | .inl e => v = .tup [.int .u64 0, .int .i64 e] ∧ RfAt h2 F j ts GL ∧ Keeps h h2 (fun _ => False)
      | .inr r => v = .tup [.int .u64 (r : Int), .int .i64 0] ∧ ∃ F2 ts2, RfAt h2 F2 j ts2 GL ∧ ts2.map Rt.rf = ts.map Rt.rf ++ [⟨r, site, cls, List.replicate n.toNat 0⟩] ∧ Keeps h h2 F ∧ ∀ x, F2 x → F x ∨ h.next ≤ x) := by
  apply padlockref17_Heap_Make_wp
  unfold makeRM
  by_cases c1 : th < 0
  · have d1 : decide (th < 0) = true := decide_eq_true c1
    rw [if_pos (Or.inl c1)]
    try simp -dsimp -implicitDefEqProofs only [↓later_1, ↓later_2, ↓later_3, obind_some, ↓Split_true, ↓Split_false, ↓run_pCond, ↓run_pCond_unkb, ↓run_pGuardT, ↓run_pGuardF, ↓run_pGuard_unkb, ↓run_pGuardST, ↓run_pGuardSF, ↓pGuard_tup, ↓pGuardS_tup, ↓run_pPick, ↓run_pIdx, ↓run_pExtract0, ↓run_pExtractS, ↓pJoin_eq, nth_zero, nth_cons, exitQ_normal, exitQ_exit, exitQ_ret, frOf_cons, ↓reduceIte, Nat.reduceEqDiff, loopPost_exit, loopPost_ret, pLen_str, pLen_isl, pLen_gsl, pLen_sl, pLen_nils, pLen_eml, pLen_array, pLen_slAV, pConv_int, pConv_str, pBox_true, pBox_false, pAlloc_eq, cells_agg, fits_agg, pNil_ptr, pNil_iptr, pNil_fn, pFieldAddr_ptr, pFieldAddr_iptr, pField_agg, pCells_zero, pCells_succ, pCells_some, Nat.reduceAdd, Nat.reduceLeDiff, Nat.le_refl, pLoad_iptr, pLoad_push, Nat.zero_add, Nat.add_zero, List.drop_zero, List.drop_succ_cons, List.length_cons, List.length_nil, List.take_succ_cons, List.take_zero, true_and, and_true, binA_int_eql, binA_int_neq, binA_int_lss, binA_int_leq, binA_int_gtr, binA_int_geq, binA_int_add, binA_int_sub, binA_int_mul, binA_int_and, binA_int_or, binA_int_xor, binA_str_eql, binA_str_neq, binA_bool_eql, binA_bool_neq, binA_ptr_eql_nil, binA_ptr_neq_nil, binA_iptr_eql_nil, binA_iptr_neq_nil, binA_nil_eql_nil, binA_nil_neq_nil, unA_not, unA_not_unkb, unA_neg, Bool.not_true, Bool.not_false, false_implies, true_implies, eq_self, d1]
    first | exact ⟨rfl, p, .refl _ _⟩ | exact ⟨p, .refl _ _⟩
  have d1 : decide (th < 0) = false := decide_eq_false c1
  by_cases c2 : 3 < th
  · have d2 : decide (3 < th) = true := decide_eq_true c2
    rw [if_pos (Or.inr (Or.inl c2))]
    try simp -dsimp -implicitDefEqProofs only [↓later_1, ↓later_2, ↓later_3, obind_some, ↓Split_true, ↓Split_false, ↓run_pCond, ↓run_pCond_unkb, ↓run_pGuardT, ↓run_pGuardF, ↓run_pGuard_unkb, ↓run_pGuardST, ↓run_pGuardSF, ↓pGuard_tup, ↓pGuardS_tup, ↓run_pPick, ↓run_pIdx, ↓run_pExtract0, ↓run_pExtractS, ↓pJoin_eq, nth_zero, nth_cons, exitQ_normal, exitQ_exit, exitQ_ret, frOf_cons, ↓reduceIte, Nat.reduceEqDiff, loopPost_exit, loopPost_ret, pLen_str, pLen_isl, pLen_gsl, pLen_sl, pLen_nils, pLen_eml, pLen_array, pLen_slAV, pConv_int, pConv_str, pBox_true, pBox_false, pAlloc_eq, cells_agg, fits_agg, pNil_ptr, pNil_iptr, pNil_fn, pFieldAddr_ptr, pFieldAddr_iptr, pField_agg, pCells_zero, pCells_succ, pCells_some, Nat.reduceAdd, Nat.reduceLeDiff, Nat.le_refl, pLoad_iptr, pLoad_push, Nat.zero_add, Nat.add_zero, List.drop_zero, List.drop_succ_cons, List.length_cons, List.length_nil, List.take_succ_cons, List.take_zero, true_and, and_true, binA_int_eql, binA_int_neq, binA_int_lss, binA_int_leq, binA_int_gtr, binA_int_geq, binA_int_add, binA_int_sub, binA_int_mul, binA_int_and, binA_int_or, binA_int_xor, binA_str_eql, binA_str_neq, binA_bool_eql, binA_bool_neq, binA_ptr_eql_nil, binA_ptr_neq_nil, binA_iptr_eql_nil, binA_iptr_neq_nil, binA_nil_eql_nil, binA_nil_neq_nil, unA_not, unA_not_unkb, unA_neg, Bool.not_true, Bool.not_false, false_implies, true_implies, eq_self, d1, d2]
    first | exact ⟨rfl, p, .refl _ _⟩ | exact ⟨p, .refl _ _⟩
  have d2 : decide (3 < th) = false := decide_eq_false c2
  try simp -dsimp -implicitDefEqProofs only [↓later_1, ↓later_2, ↓later_3, obind_some, ↓Split_true, ↓Split_false, ↓run_pCond, ↓run_pCond_unkb, ↓run_pGuardT, ↓run_pGuardF, ↓run_pGuard_unkb, ↓run_pGuardST, ↓run_pGuardSF, ↓pGuard_tup, ↓pGuardS_tup, ↓run_pPick, ↓run_pIdx, ↓run_pExtract0, ↓run_pExtractS, ↓pJoin_eq, nth_zero, nth_cons, exitQ_normal, exitQ_exit, exitQ_ret, frOf_cons, ↓reduceIte, Nat.reduceEqDiff, loopPost_exit, loopPost_ret, pLen_str, pLen_isl, pLen_gsl, pLen_sl, pLen_nils, pLen_eml, pLen_array, pLen_slAV, pConv_int, pConv_str, pBox_true, pBox_false, pAlloc_eq, cells_agg, fits_agg, pNil_ptr, pNil_iptr, pNil_fn, pFieldAddr_ptr, pFieldAddr_iptr, pField_agg, pCells_zero, pCells_succ, pCells_some, Nat.reduceAdd, Nat.reduceLeDiff, Nat.le_refl, pLoad_iptr, pLoad_push, Nat.zero_add, Nat.add_zero, List.drop_zero, List.drop_succ_cons, List.length_cons, List.length_nil, List.take_succ_cons, List.take_zero, true_and, and_true, binA_int_eql, binA_int_neq, binA_int_lss, binA_int_leq, binA_int_gtr, binA_int_geq, binA_int_add, binA_int_sub, binA_int_mul, binA_int_and, binA_int_or, binA_int_xor, binA_str_eql, binA_str_neq, binA_bool_eql, binA_bool_neq, binA_ptr_eql_nil, binA_ptr_neq_nil, binA_iptr_eql_nil, binA_iptr_neq_nil, binA_nil_eql_nil, binA_nil_neq_nil, unA_not, unA_not_unkb, unA_neg, Bool.not_true, Bool.not_false, false_implies, true_implies, eq_self, d1, d2]
  refine (ref_Made_does p th).mono ?_
  rintro _ h2 ⟨rfl, k2⟩
  have p2 := p.keeps k2 (fun _ _ h => h)
  by_cases c3 : 16 ≤ cntM (ts.map Rt.rf) th
  · have d3 : decide ((16 : Int) ≤ (cntM (ts.map Rt.rf) th : Nat)) = true := decide_eq_true (by omega)
    rw [if_pos (Or.inr (Or.inr c3))]
    try simp -dsimp -implicitDefEqProofs only [↓later_1, ↓later_2, ↓later_3, obind_some, ↓Split_true, ↓Split_false, ↓run_pCond, ↓run_pCond_unkb, ↓run_pGuardT, ↓run_pGuardF, ↓run_pGuard_unkb, ↓run_pGuardST, ↓run_pGuardSF, ↓pGuard_tup, ↓pGuardS_tup, ↓run_pPick, ↓run_pIdx, ↓run_pExtract0, ↓run_pExtractS, ↓pJoin_eq, nth_zero, nth_cons, exitQ_normal, exitQ_exit, exitQ_ret, frOf_cons, ↓reduceIte, Nat.reduceEqDiff, loopPost_exit, loopPost_ret, pLen_str, pLen_isl, pLen_gsl, pLen_sl, pLen_nils, pLen_eml, pLen_array, pLen_slAV, pConv_int, pConv_str, pBox_true, pBox_false, pAlloc_eq, cells_agg, fits_agg, pNil_ptr, pNil_iptr, pNil_fn, pFieldAddr_ptr, pFieldAddr_iptr, pField_agg, pCells_zero, pCells_succ, pCells_some, Nat.reduceAdd, Nat.reduceLeDiff, Nat.le_refl, pLoad_iptr, pLoad_push, Nat.zero_add, Nat.add_zero, List.drop_zero, List.drop_succ_cons, List.length_cons, List.length_nil, List.take_succ_cons, List.take_zero, true_and, and_true, binA_int_eql, binA_int_neq, binA_int_lss, binA_int_leq, binA_int_gtr, binA_int_geq, binA_int_add, binA_int_sub, binA_int_mul, binA_int_and, binA_int_or, binA_int_xor, binA_str_eql, binA_str_neq, binA_bool_eql, binA_bool_neq, binA_ptr_eql_nil, binA_ptr_neq_nil, binA_iptr_eql_nil, binA_iptr_neq_nil, binA_nil_eql_nil, binA_nil_neq_nil, unA_not, unA_not_unkb, unA_neg, Bool.not_true, Bool.not_false, false_implies, true_implies, eq_self, d3]
    first | exact ⟨rfl, p2, k2⟩ | exact ⟨p2, k2⟩
  have d3 : decide ((16 : Int) ≤ (cntM (ts.map Rt.rf) th : Nat)) = false := decide_eq_false (by omega)
  rw [if_neg (by omega)]
  by_cases c4 : n < 0
  · have d4 : decide (n < 0) = true := decide_eq_true c4
    rw [if_pos (Or.inl c4)]
    try simp -dsimp -implicitDefEqProofs only [↓later_1, ↓later_2, ↓later_3, obind_some, ↓Split_true, ↓Split_false, ↓run_pCond, ↓run_pCond_unkb, ↓run_pGuardT, ↓run_pGuardF, ↓run_pGuard_unkb, ↓run_pGuardST, ↓run_pGuardSF, ↓pGuard_tup, ↓pGuardS_tup, ↓run_pPick, ↓run_pIdx, ↓run_pExtract0, ↓run_pExtractS, ↓pJoin_eq, nth_zero, nth_cons, exitQ_normal, exitQ_exit, exitQ_ret, frOf_cons, ↓reduceIte, Nat.reduceEqDiff, loopPost_exit, loopPost_ret, pLen_str, pLen_isl, pLen_gsl, pLen_sl, pLen_nils, pLen_eml, pLen_array, pLen_slAV, pConv_int, pConv_str, pBox_true, pBox_false, pAlloc_eq, cells_agg, fits_agg, pNil_ptr, pNil_iptr, pNil_fn, pFieldAddr_ptr, pFieldAddr_iptr, pField_agg, pCells_zero, pCells_succ, pCells_some, Nat.reduceAdd, Nat.reduceLeDiff, Nat.le_refl, pLoad_iptr, pLoad_push, Nat.zero_add, Nat.add_zero, List.drop_zero, List.drop_succ_cons, List.length_cons, List.length_nil, List.take_succ_cons, List.take_zero, true_and, and_true, binA_int_eql, binA_int_neq, binA_int_lss, binA_int_leq, binA_int_gtr, binA_int_geq, binA_int_add, binA_int_sub, binA_int_mul, binA_int_and, binA_int_or, binA_int_xor, binA_str_eql, binA_str_neq, binA_bool_eql, binA_bool_neq, binA_ptr_eql_nil, binA_ptr_neq_nil, binA_iptr_eql_nil, binA_iptr_neq_nil, binA_nil_eql_nil, binA_nil_neq_nil, unA_not, unA_not_unkb, unA_neg, Bool.not_true, Bool.not_false, false_implies, true_implies, eq_self, d3, d4]
    first | exact ⟨rfl, p2, k2⟩ | exact ⟨p2, k2⟩
  have d4 : decide (n < 0) = false := decide_eq_false c4
  by_cases c5 : 16 < n
  · have d5 : decide (16 < n) = true := decide_eq_true c5
    rw [if_pos (Or.inr c5)]
    try simp -dsimp -implicitDefEqProofs only [↓later_1, ↓later_2, ↓later_3, obind_some, ↓Split_true, ↓Split_false, ↓run_pCond, ↓run_pCond_unkb, ↓run_pGuardT, ↓run_pGuardF, ↓run_pGuard_unkb, ↓run_pGuardST, ↓run_pGuardSF, ↓pGuard_tup, ↓pGuardS_tup, ↓run_pPick, ↓run_pIdx, ↓run_pExtract0, ↓run_pExtractS, ↓pJoin_eq, nth_zero, nth_cons, exitQ_normal, exitQ_exit, exitQ_ret, frOf_cons, ↓reduceIte, Nat.reduceEqDiff, loopPost_exit, loopPost_ret, pLen_str, pLen_isl, pLen_gsl, pLen_sl, pLen_nils, pLen_eml, pLen_array, pLen_slAV, pConv_int, pConv_str, pBox_true, pBox_false, pAlloc_eq, cells_agg, fits_agg, pNil_ptr, pNil_iptr, pNil_fn, pFieldAddr_ptr, pFieldAddr_iptr, pField_agg, pCells_zero, pCells_succ, pCells_some, Nat.reduceAdd, Nat.reduceLeDiff, Nat.le_refl, pLoad_iptr, pLoad_push, Nat.zero_add, Nat.add_zero, List.drop_zero, List.drop_succ_cons, List.length_cons, List.length_nil, List.take_succ_cons, List.take_zero, true_and, and_true, binA_int_eql, binA_int_neq, binA_int_lss, binA_int_leq, binA_int_gtr, binA_int_geq, binA_int_add, binA_int_sub, binA_int_mul, binA_int_and, binA_int_or, binA_int_xor, binA_str_eql, binA_str_neq, binA_bool_eql, binA_bool_neq, binA_ptr_eql_nil, binA_ptr_neq_nil, binA_iptr_eql_nil, binA_iptr_neq_nil, binA_nil_eql_nil, binA_nil_neq_nil, unA_not, unA_not_unkb, unA_neg, Bool.not_true, Bool.not_false, false_implies, true_implies, eq_self, d3, d4, d5]
    first | exact ⟨rfl, p2, k2⟩ | exact ⟨p2, k2⟩
  have d5 : decide (16 < n) = false := decide_eq_false c5
  rw [if_neg (by omega)]
  obtain ⟨t0, rfl⟩ : ∃ k : Nat, th = k := ⟨th.toNat, by omega⟩
  obtain ⟨n0, rfl⟩ : ∃ k : Nat, n = k := ⟨n.toNat, by omega⟩
  have w0 : IntKind.i64.wrap (16 * (t0 : Int)) = 16 * (t0 : Int) := wrapI (by omega) (by omega)
  try simp -dsimp -implicitDefEqProofs only [↓later_1, ↓later_2, ↓later_3, obind_some, ↓Split_true, ↓Split_false, ↓run_pCond, ↓run_pCond_unkb, ↓run_pGuardT, ↓run_pGuardF, ↓run_pGuard_unkb, ↓run_pGuardST, ↓run_pGuardSF, ↓pGuard_tup, ↓pGuardS_tup, ↓run_pPick, ↓run_pIdx, ↓run_pExtract0, ↓run_pExtractS, ↓pJoin_eq, nth_zero, nth_cons, exitQ_normal, exitQ_exit, exitQ_ret, frOf_cons, ↓reduceIte, Nat.reduceEqDiff, loopPost_exit, loopPost_ret, pLen_str, pLen_isl, pLen_gsl, pLen_sl, pLen_nils, pLen_eml, pLen_array, pLen_slAV, pConv_int, pConv_str, pBox_true, pBox_false, pAlloc_eq, cells_agg, fits_agg, pNil_ptr, pNil_iptr, pNil_fn, pFieldAddr_ptr, pFieldAddr_iptr, pField_agg, pCells_zero, pCells_succ, pCells_some, Nat.reduceAdd, Nat.reduceLeDiff, Nat.le_refl, pLoad_iptr, pLoad_push, Nat.zero_add, Nat.add_zero, List.drop_zero, List.drop_succ_cons, List.length_cons, List.length_nil, List.take_succ_cons, List.take_zero, true_and, and_true, binA_int_eql, binA_int_neq, binA_int_lss, binA_int_leq, binA_int_gtr, binA_int_geq, binA_int_add, binA_int_sub, binA_int_mul, binA_int_and, binA_int_or, binA_int_xor, binA_str_eql, binA_str_neq, binA_bool_eql, binA_bool_neq, binA_ptr_eql_nil, binA_ptr_neq_nil, binA_iptr_eql_nil, binA_iptr_neq_nil, binA_nil_eql_nil, binA_nil_neq_nil, unA_not, unA_not_unkb, unA_neg, Bool.not_true, Bool.not_false, false_implies, true_implies, eq_self, d3, d4, d5, w0]
  refine (ref_Made_does p2 t0).mono ?_
  rintro _ h3 ⟨rfl, k3⟩
  have p3 := p2.keeps k3 (fun _ _ h => h)
  obtain ⟨g, hg⟩ := p3.row
  have r1 : ∀ K, pLoad none (.ptr j 1) h3 K = K (thsAV ts g) := fun K => by rw [pLoad_ptr hg, pCells_none]; rfl
  generalize hcn : cntM (ts.map Rt.rf) t0 = cn at *
  have w1 : IntKind.i64.wrap (16 * (t0 : Int) + cn) = 16 * (t0 : Int) + cn := wrapI (by omega) (by omega)
  have w2 : IntKind.i64.wrap (16 * (t0 : Int) + cn + 1) = 16 * (t0 : Int) + cn + 1 := wrapI (by omega) (by omega)
  have w3 : IntKind.u64.wrap (16 * (t0 : Int) + cn + 1) = ((16 * t0 + cn + 1 : Nat) : Int) := by rw [wr_u64, Int.emod_eq_of_lt (by omega) (by omega)]; omega
  have e3 : repC n0 [.int .u64 0] = valCells (List.replicate n0 0) := by simp [repC, valCells]
  try simp -dsimp -implicitDefEqProofs only [↓later_1, ↓later_2, ↓later_3, obind_some, ↓Split_true, ↓Split_false, ↓run_pCond, ↓run_pCond_unkb, ↓run_pGuardT, ↓run_pGuardF, ↓run_pGuard_unkb, ↓run_pGuardST, ↓run_pGuardSF, ↓pGuard_tup, ↓pGuardS_tup, ↓run_pPick, ↓run_pIdx, ↓run_pExtract0, ↓run_pExtractS, ↓pJoin_eq, nth_zero, nth_cons, exitQ_normal, exitQ_exit, exitQ_ret, frOf_cons, ↓reduceIte, Nat.reduceEqDiff, loopPost_exit, loopPost_ret, pLen_str, pLen_isl, pLen_gsl, pLen_sl, pLen_nils, pLen_eml, pLen_array, pLen_slAV, pConv_int, pConv_str, pBox_true, pBox_false, pAlloc_eq, cells_agg, fits_agg, pNil_ptr, pNil_iptr, pNil_fn, pFieldAddr_ptr, pFieldAddr_iptr, pField_agg, pCells_zero, pCells_succ, pCells_some, Nat.reduceAdd, Nat.reduceLeDiff, Nat.le_refl, pLoad_iptr, pLoad_push, Nat.zero_add, Nat.add_zero, List.drop_zero, List.drop_succ_cons, List.length_cons, List.length_nil, List.take_succ_cons, List.take_zero, true_and, and_true, binA_int_eql, binA_int_neq, binA_int_lss, binA_int_leq, binA_int_gtr, binA_int_geq, binA_int_add, binA_int_sub, binA_int_mul, binA_int_and, binA_int_or, binA_int_xor, binA_str_eql, binA_str_neq, binA_bool_eql, binA_bool_neq, binA_ptr_eql_nil, binA_ptr_neq_nil, binA_iptr_eql_nil, binA_iptr_neq_nil, binA_nil_eql_nil, binA_nil_neq_nil, unA_not, unA_not_unkb, unA_neg, Bool.not_true, Bool.not_false, false_implies, true_implies, eq_self, w1, w2, w3, pBuildSl, Bool.false_eq_true, if_false, true_and, imp_self, eq_self, implies_true, r1]
  have hl64 : ts.length < 64 := by
    have := len_cnt (ts.map Rt.rf) (fun x hx => by obtain ⟨t, ht, rfl⟩ := List.mem_map.1 hx; exact p.refs t ht)
    have h0 := hw 0; have h1 := hw 1; have h2 := hw 2; have h3 := hw 3
    simp only [List.length_map] at this
    obtain rfl | rfl | rfl | rfl : t0 = 0 ∨ t0 = 1 ∨ t0 = 2 ∨ t0 = 3 := by omega
    all_goals (simp at hcn; omega)
  have mk : ∀ (h : AHeap) (K : AV → AHeap → Prop), pMakeSl { e := 28, sz := 1, by_ := 8 } [.int .u64 0] (.int .i64 (n0 : Int)) (.int .i64 (n0 : Int)) h K = K (.sl h.next 0 n0 1) (h.push (.row 28 (valCells (List.replicate n0 0)))) := fun h K => by
    simp only [pMakeSl, Int.toNat_natCast, e3]
    apply propext
    constructor
    · rintro ⟨-, -, -, -, -, hk⟩; exact hk
    · intro hk; exact ⟨by omega, by omega, by omega, by omega, rfl, hk⟩
  have tail : ∀ (h39 : AHeap) (g' id : Nat) (K : AHeap → Prop), h3.next ≤ h39.next → h3.next ≤ id → id < h39.next → h39.objs id = some (.row 28 (valCells (List.replicate n0 0))) → (∀ x, x < h3.next → h39.objs x = h3.objs x) →
      (∀ h42 ts2 F2, RfAt h42 F2 j ts2 GL → ts2.map Rt.rf = ts.map Rt.rf ++ [⟨16 * t0 + cn + 1, site, cls, List.replicate n0 0⟩] → Keeps h h42 F → (∀ x, F2 x → F x ∨ h.next ≤ x) → K h42) → pStore 1 (.ptr j 1) (thsAV (ts ++ [⟨16 * t0 + cn + 1, site, cls, id, List.replicate n0 0⟩]) g') h39 K := by
    intro h39 g' id K q1 q2 q3 q4 q5 hK
    have hjl := p3.lt j p3.own
    have hj : h39.objs j = some (.row 87 [GL, thsAV ts g]) := by rw [q5 j hjl]; exact hg
    have hfit : (thsAV (ts ++ [⟨16 * t0 + cn + 1, site, cls, id, List.replicate n0 0⟩]) g').fits = true ∧ (thsAV (ts ++ [⟨16 * t0 + cn + 1, site, cls, id, List.replicate n0 0⟩]) g').cells = [thsAV (ts ++ [⟨16 * t0 + cn + 1, site, cls, id, List.replicate n0 0⟩]) g'] := by cases ts <;> exact ⟨rfl, rfl⟩
    rw [pStore_ptr hj (by cases ts <;> rfl) (by simp)]
    refine hK _ (ts ++ [⟨16 * t0 + cn + 1, site, cls, id, List.replicate n0 0⟩]) _ (p3.grow ⟨16 * t0 + cn + 1, site, cls, id, List.replicate n0 0⟩ g' (by simpa using q1) (by simp) (by
      simp only [AHeap.put_objs]
      rw [if_neg (by omega)]
      exact q4) q2 (by simpa using q3) (by simp only; omega) hl64 (fun x hx hne => by
      simp only [AHeap.put_objs]
      rw [if_neg hne]
      exact q5 x (p3.lt x hx))) (by simp [Rt.rf]) ?_ ?_
    · have kn2 := k2.next
      have kn3 := k3.next
      refine ⟨by simp; omega, fun x hx hF => ?_⟩
      simp only [AHeap.put_objs]
      rw [if_neg (show ¬ x = j from fun e => hF (by rw [e]; exact p.own)), q5 x (by omega), k3.objs x (by omega) (fun h => h), k2.objs x hx (fun h => h)]
    · intro x hx
      have kn2 := k2.next
      have kn3 := k3.next
      rcases hx with hx | rfl
      · exact Or.inl hx
      · exact Or.inr (by omega)
  have hcl : ∀ id : Nat, [AV.int .u64 ((16 * t0 + cn + 1 : Nat) : Int), .int .i64 site, .int .i64 cls, .sl id 0 n0 1] = (⟨16 * t0 + cn + 1, site, cls, id, List.replicate n0 0⟩ : Rt).cells := fun id => by simp [Rt.cells]
  constructor
  · refine ths_copy ts g (by omega) h3 fun a h4 pa ka => ?_
    have kan := ka.next
    try simp -dsimp -implicitDefEqProofs only [↓later_1, ↓later_2, ↓later_3, obind_some, ↓Split_true, ↓Split_false, ↓run_pCond, ↓run_pCond_unkb, ↓run_pGuardT, ↓run_pGuardF, ↓run_pGuard_unkb, ↓run_pGuardST, ↓run_pGuardSF, ↓pGuard_tup, ↓pGuardS_tup, ↓run_pPick, ↓run_pIdx, ↓run_pExtract0, ↓run_pExtractS, ↓pJoin_eq, nth_zero, nth_cons, exitQ_normal, exitQ_exit, exitQ_ret, frOf_cons, ↓reduceIte, Nat.reduceEqDiff, loopPost_exit, loopPost_ret, pLen_str, pLen_isl, pLen_gsl, pLen_sl, pLen_nils, pLen_eml, pLen_array, pLen_slAV, pConv_int, pConv_str, pBox_true, pBox_false, pAlloc_eq, cells_agg, fits_agg, pNil_ptr, pNil_iptr, pNil_fn, pFieldAddr_ptr, pFieldAddr_iptr, pField_agg, pCells_zero, pCells_succ, pCells_some, Nat.reduceAdd, Nat.reduceLeDiff, Nat.le_refl, pLoad_iptr, pLoad_push, Nat.zero_add, Nat.add_zero, List.drop_zero, List.drop_succ_cons, List.length_cons, List.length_nil, List.take_succ_cons, List.take_zero, true_and, and_true, binA_int_eql, binA_int_neq, binA_int_lss, binA_int_leq, binA_int_gtr, binA_int_geq, binA_int_add, binA_int_sub, binA_int_mul, binA_int_and, binA_int_or, binA_int_xor, binA_str_eql, binA_str_neq, binA_bool_eql, binA_bool_neq, binA_ptr_eql_nil, binA_ptr_neq_nil, binA_iptr_eql_nil, binA_iptr_neq_nil, binA_nil_eql_nil, binA_nil_neq_nil, unA_not, unA_not_unkb, unA_neg, Bool.not_true, Bool.not_false, false_implies, true_implies, eq_self, mk, pBuild, fillA, AV.fits, AV.cells, pBuildSl, fillE, List.getElem?_cons_zero, List.getElem?_cons_succ, List.replicate_succ, List.replicate_zero, List.set_cons_zero, List.set_cons_succ, and_self, if_true, List.nil_append, List.cons_append, List.append_nil, List.length_replicate, Nat.reduceMul, Nat.reduceLT, List.length_set, Nat.lt_add_left_iff_pos, Nat.zero_lt_succ, Nat.succ_ne_self, w3]
    have pa2 : ThAt (h4.push (.row 28 (valCells (List.replicate n0 0)))) a ts h3.next := by
      rcases pa with pa | ⟨id, a1, a2, a3, a4⟩
      · exact Or.inl pa
      · exact Or.inr ⟨id, a1, by simp; omega, a3, by simp; rw [if_neg (by omega)]; exact a4⟩
    rw [hcl]
    refine ths_push pa2 (by omega) _ fun g' h5 hp hn => ?_
    try simp -dsimp -implicitDefEqProofs only [↓later_1, ↓later_2, ↓later_3, obind_some, ↓Split_true, ↓Split_false, ↓run_pCond, ↓run_pCond_unkb, ↓run_pGuardT, ↓run_pGuardF, ↓run_pGuard_unkb, ↓run_pGuardST, ↓run_pGuardSF, ↓pGuard_tup, ↓pGuardS_tup, ↓run_pPick, ↓run_pIdx, ↓run_pExtract0, ↓run_pExtractS, ↓pJoin_eq, nth_zero, nth_cons, exitQ_normal, exitQ_exit, exitQ_ret, frOf_cons, ↓reduceIte, Nat.reduceEqDiff, loopPost_exit, loopPost_ret, pLen_str, pLen_isl, pLen_gsl, pLen_sl, pLen_nils, pLen_eml, pLen_array, pLen_slAV, pConv_int, pConv_str, pBox_true, pBox_false, pAlloc_eq, cells_agg, fits_agg, pNil_ptr, pNil_iptr, pNil_fn, pFieldAddr_ptr, pFieldAddr_iptr, pField_agg, pCells_zero, pCells_succ, pCells_some, Nat.reduceAdd, Nat.reduceLeDiff, Nat.le_refl, pLoad_iptr, pLoad_push, Nat.zero_add, Nat.add_zero, List.drop_zero, List.drop_succ_cons, List.length_cons, List.length_nil, List.take_succ_cons, List.take_zero, true_and, and_true, binA_int_eql, binA_int_neq, binA_int_lss, binA_int_leq, binA_int_gtr, binA_int_geq, binA_int_add, binA_int_sub, binA_int_mul, binA_int_and, binA_int_or, binA_int_xor, binA_str_eql, binA_str_neq, binA_bool_eql, binA_bool_neq, binA_ptr_eql_nil, binA_ptr_neq_nil, binA_iptr_eql_nil, binA_iptr_neq_nil, binA_nil_eql_nil, binA_nil_neq_nil, unA_not, unA_not_unkb, unA_neg, Bool.not_true, Bool.not_false, false_implies, true_implies, eq_self]
    refine tail h5 g' h4.next _ (by simp at hn; omega) (by omega) (by simp at hn; omega) ?_ ?_ ?_
    · rw [hp h4.next (by simp) (Or.inr ⟨_, _, push_new _ _⟩), push_new]
    · intro x hx
      rw [hp x (by simp; omega) (Or.inl hx)]
      simp only [AHeap.push_objs]
      rw [if_neg (by omega), ka.objs x hx (fun h => h)]
    · intro h42 ts2 F2 y1 y2 y3 y4
      refine ⟨trivial, ?_⟩
      simp only [Int.toNat_natCast]
      exact ⟨by rw [w3], F2, ts2, y1, y2, y3, y4⟩
  · have hjl := p3.lt j p3.own
    have r2 : ∀ K, pLoad none (.ptr j 1) (h3.push (.row 28 (valCells (List.replicate n0 0)))) K = K (thsAV ts g) := fun K => by rw [pLoad_ptr (by rw [push_old hjl]; exact hg), pCells_none]; rfl
    try simp -dsimp -implicitDefEqProofs only [↓later_1, ↓later_2, ↓later_3, obind_some, ↓Split_true, ↓Split_false, ↓run_pCond, ↓run_pCond_unkb, ↓run_pGuardT, ↓run_pGuardF, ↓run_pGuard_unkb, ↓run_pGuardST, ↓run_pGuardSF, ↓pGuard_tup, ↓pGuardS_tup, ↓run_pPick, ↓run_pIdx, ↓run_pExtract0, ↓run_pExtractS, ↓pJoin_eq, nth_zero, nth_cons, exitQ_normal, exitQ_exit, exitQ_ret, frOf_cons, ↓reduceIte, Nat.reduceEqDiff, loopPost_exit, loopPost_ret, pLen_str, pLen_isl, pLen_gsl, pLen_sl, pLen_nils, pLen_eml, pLen_array, pLen_slAV, pConv_int, pConv_str, pBox_true, pBox_false, pAlloc_eq, cells_agg, fits_agg, pNil_ptr, pNil_iptr, pNil_fn, pFieldAddr_ptr, pFieldAddr_iptr, pField_agg, pCells_zero, pCells_succ, pCells_some, Nat.reduceAdd, Nat.reduceLeDiff, Nat.le_refl, pLoad_iptr, pLoad_push, Nat.zero_add, Nat.add_zero, List.drop_zero, List.drop_succ_cons, List.length_cons, List.length_nil, List.take_succ_cons, List.take_zero, true_and, and_true, binA_int_eql, binA_int_neq, binA_int_lss, binA_int_leq, binA_int_gtr, binA_int_geq, binA_int_add, binA_int_sub, binA_int_mul, binA_int_and, binA_int_or, binA_int_xor, binA_str_eql, binA_str_neq, binA_bool_eql, binA_bool_neq, binA_ptr_eql_nil, binA_ptr_neq_nil, binA_iptr_eql_nil, binA_iptr_neq_nil, binA_nil_eql_nil, binA_nil_neq_nil, unA_not, unA_not_unkb, unA_neg, Bool.not_true, Bool.not_false, false_implies, true_implies, eq_self, mk, r2, pBuild, fillA, AV.fits, AV.cells, pBuildSl, fillE, List.getElem?_cons_zero, List.getElem?_cons_succ, List.replicate_succ, List.replicate_zero, List.set_cons_zero, List.set_cons_succ, and_self, if_true, List.nil_append, List.cons_append, List.append_nil, List.length_replicate, Nat.reduceMul, Nat.reduceLT, List.length_set, Nat.lt_add_left_iff_pos, Nat.zero_lt_succ, Nat.succ_ne_self, w3]
    refine ths_copy ts g (by omega) _ fun a h4 pa ka => ?_
    have kan := ka.next
    simp only [AHeap.push_next] at kan
    try simp -dsimp -implicitDefEqProofs only [↓later_1, ↓later_2, ↓later_3, obind_some, ↓Split_true, ↓Split_false, ↓run_pCond, ↓run_pCond_unkb, ↓run_pGuardT, ↓run_pGuardF, ↓run_pGuard_unkb, ↓run_pGuardST, ↓run_pGuardSF, ↓pGuard_tup, ↓pGuardS_tup, ↓run_pPick, ↓run_pIdx, ↓run_pExtract0, ↓run_pExtractS, ↓pJoin_eq, nth_zero, nth_cons, exitQ_normal, exitQ_exit, exitQ_ret, frOf_cons, ↓reduceIte, Nat.reduceEqDiff, loopPost_exit, loopPost_ret, pLen_str, pLen_isl, pLen_gsl, pLen_sl, pLen_nils, pLen_eml, pLen_array, pLen_slAV, pConv_int, pConv_str, pBox_true, pBox_false, pAlloc_eq, cells_agg, fits_agg, pNil_ptr, pNil_iptr, pNil_fn, pFieldAddr_ptr, pFieldAddr_iptr, pField_agg, pCells_zero, pCells_succ, pCells_some, Nat.reduceAdd, Nat.reduceLeDiff, Nat.le_refl, pLoad_iptr, pLoad_push, Nat.zero_add, Nat.add_zero, List.drop_zero, List.drop_succ_cons, List.length_cons, List.length_nil, List.take_succ_cons, List.take_zero, true_and, and_true, binA_int_eql, binA_int_neq, binA_int_lss, binA_int_leq, binA_int_gtr, binA_int_geq, binA_int_add, binA_int_sub, binA_int_mul, binA_int_and, binA_int_or, binA_int_xor, binA_str_eql, binA_str_neq, binA_bool_eql, binA_bool_neq, binA_ptr_eql_nil, binA_ptr_neq_nil, binA_iptr_eql_nil, binA_iptr_neq_nil, binA_nil_eql_nil, binA_nil_neq_nil, unA_not, unA_not_unkb, unA_neg, Bool.not_true, Bool.not_false, false_implies, true_implies, eq_self]
    rw [hcl]
    refine ths_push pa (by omega) _ fun g' h5 hp hn => ?_
    try simp -dsimp -implicitDefEqProofs only [↓later_1, ↓later_2, ↓later_3, obind_some, ↓Split_true, ↓Split_false, ↓run_pCond, ↓run_pCond_unkb, ↓run_pGuardT, ↓run_pGuardF, ↓run_pGuard_unkb, ↓run_pGuardST, ↓run_pGuardSF, ↓pGuard_tup, ↓pGuardS_tup, ↓run_pPick, ↓run_pIdx, ↓run_pExtract0, ↓run_pExtractS, ↓pJoin_eq, nth_zero, nth_cons, exitQ_normal, exitQ_exit, exitQ_ret, frOf_cons, ↓reduceIte, Nat.reduceEqDiff, loopPost_exit, loopPost_ret, pLen_str, pLen_isl, pLen_gsl, pLen_sl, pLen_nils, pLen_eml, pLen_array, pLen_slAV, pConv_int, pConv_str, pBox_true, pBox_false, pAlloc_eq, cells_agg, fits_agg, pNil_ptr, pNil_iptr, pNil_fn, pFieldAddr_ptr, pFieldAddr_iptr, pField_agg, pCells_zero, pCells_succ, pCells_some, Nat.reduceAdd, Nat.reduceLeDiff, Nat.le_refl, pLoad_iptr, pLoad_push, Nat.zero_add, Nat.add_zero, List.drop_zero, List.drop_succ_cons, List.length_cons, List.length_nil, List.take_succ_cons, List.take_zero, true_and, and_true, binA_int_eql, binA_int_neq, binA_int_lss, binA_int_leq, binA_int_gtr, binA_int_geq, binA_int_add, binA_int_sub, binA_int_mul, binA_int_and, binA_int_or, binA_int_xor, binA_str_eql, binA_str_neq, binA_bool_eql, binA_bool_neq, binA_ptr_eql_nil, binA_ptr_neq_nil, binA_iptr_eql_nil, binA_iptr_neq_nil, binA_nil_eql_nil, binA_nil_neq_nil, unA_not, unA_not_unkb, unA_neg, Bool.not_true, Bool.not_false, false_implies, true_implies, eq_self]
    refine tail h5 g' h3.next _ (by omega) (by omega) (by omega) ?_ ?_ ?_
    · rw [hp h3.next (by omega) (Or.inl (by simp)), ka.objs _ (by simp) (fun h => h), push_new]
    · intro x hx
      rw [hp x (by omega) (Or.inl (by simp; omega)), ka.objs x (by simp; omega) (fun h => h), push_old hx]
    · intro h42 ts2 F2 y1 y2 y3 y4
      refine ⟨trivial, ?_⟩
      simp only [Int.toNat_natCast]
      exact ⟨by rw [w3], F2, ts2, y1, y2, y3, y4⟩

end Go.Proofs.Ytppldbldpphlmaa
