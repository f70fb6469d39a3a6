/- heap: the document's heap in memory: what was made, finding, cells. -/
import Derived.Test.YtppldbldpphlmaaHeapE
import Derived.Test.YtppldbldpphlmaaTypes
set_option linter.unusedVariables false
set_option linter.unusedSimpArgs false
set_option maxRecDepth 8000
namespace Go.Proofs.Ytppldbldpphlmaa
open Go.Abs

structure Rt where
  ref : Nat
  site : Int
  cls : Int
  id : Nat
  vals : List Nat
def Rt.cells (t : Rt) : List AV := [.int .u64 (t.ref : Int), .int .i64 t.site, .int .i64 t.cls, .sl t.id 0 t.vals.length 1]
def Rt.rf (t : Rt) : Rf := ⟨t.ref, t.site, t.cls, t.vals⟩
def thsAV (ts : List Rt) (g : Nat) : AV := match ts with | [] => .nils | _ => .gsl g 4 (ts.map Rt.cells)
theorem ths_len (ts : List Rt) (g : Nat) (K : AV → Prop) : pLen .slice (thsAV ts g) K = K (.int .i64 ts.length) := by cases ts <;> simp [thsAV]
theorem ths_at {ts : List Rt} {k : Nat} {t : Rt} (hk : ts[k]? = some t) (g : Nat) (kk : IntKind) (K : AV → Prop) : pIndexAddr (.slice 4) (thsAV ts g) (.int kk (k : Int)) K = K (.iptr t.cells) := by
  cases ts with
  | nil => simp at hk
  | cons a l =>
    have : ((a :: l).map Rt.cells)[k]? = some t.cells := by rw [List.getElem?_map, hk]; rfl
    simp only [thsAV, pIndexAddr, Int.toNat_natCast, this]
    simp

structure RfAt (h : AHeap) (F : Nat → Prop) (j : Nat) (ts : List Rt) (GL : AV) : Prop where
  own : F j
  lt : ∀ x, F x → x < h.next
  row : ∃ g, h.objs j = some (.row 87 [GL, thsAV ts g])
  cells : ∀ t ∈ ts, F t.id ∧ h.objs t.id = some (.row 28 (valCells t.vals))
  dist : ∀ (a b : Nat) (u v : Rt), ts[a]? = some u → ts[b]? = some v → u.id = v.id → a = b
  len : ts.length ≤ 64
  refs : ∀ t ∈ ts, 1 ≤ t.ref ∧ t.ref ≤ 64

theorem RfAt.keeps {h h' : AHeap} {F : Nat → Prop} {j : Nat} {ts : List Rt} {GL : AV} {S : Nat → Prop} (p : RfAt h F j ts GL) (k : Keeps h h' S) (hS : ∀ x, F x → ¬ S x) : RfAt h' F j ts GL := by
  have e : ∀ x, F x → h'.objs x = h.objs x := fun x hx => k.objs x (p.lt x hx) (hS x hx)
  obtain ⟨g, hg⟩ := p.row
  exact ⟨p.own, fun x hx => Nat.lt_of_lt_of_le (p.lt x hx) k.next, ⟨g, by rw [e j p.own]; exact hg⟩, fun t ht => ⟨(p.cells t ht).1, by rw [e _ (p.cells t ht).1]; exact (p.cells t ht).2⟩, p.dist, p.len, p.refs⟩

theorem ref_New_does (n : Nat) (hn : n ≤ 8) (x : Int) (hx : max x 0 = n ∨ (8 < x ∧ n = 8)) (h : AHeap) : CallsA Try.prog 14 [.int .i64 x] h (fun v h2 => v = .ptr (h.next + 1) 0 ∧ h2 = (h.push (.row 28 (valCells (List.replicate n 0)))).push (.row 87 [.sl h.next 0 n 1, .nils])) := by
  apply padlockref17_New_wp
  have e1 : maxA [.int .i64 x, .int .i64 0] = some (.int .i64 (max x 0)) := by
    simp only [maxA]; split <;> congr 2 <;> omega
  have e2 : minA [.int .i64 (max x 0), .int .i64 8] = some (.int .i64 n) := by
    simp only [minA]; split <;> congr 2 <;> omega
  have e3 : repC n [.int .u64 0] = valCells (List.replicate n 0) := by simp [repC, valCells]
  try simp -dsimp -implicitDefEqProofs only [↓later_1, ↓later_2, ↓later_3, obind_some, ↓Split_true, ↓Split_false, ↓run_pCond, ↓run_pCond_unkb, ↓run_pGuardT, ↓run_pGuardF, ↓run_pGuard_unkb, ↓run_pGuardST, ↓run_pGuardSF, ↓pGuard_tup, ↓pGuardS_tup, ↓run_pPick, ↓run_pIdx, ↓run_pExtract0, ↓run_pExtractS, ↓pJoin_eq, nth_zero, nth_cons, exitQ_normal, exitQ_exit, exitQ_ret, frOf_cons, ↓reduceIte, Nat.reduceEqDiff, loopPost_exit, loopPost_ret, pLen_str, pLen_isl, pLen_gsl, pLen_sl, pLen_nils, pLen_eml, pLen_array, pLen_slAV, pConv_int, pConv_str, pBox_true, pBox_false, pAlloc_eq, cells_agg, fits_agg, pNil_ptr, pNil_iptr, pNil_fn, pFieldAddr_ptr, pFieldAddr_iptr, pField_agg, pCells_zero, pCells_succ, pCells_some, Nat.reduceAdd, Nat.reduceLeDiff, Nat.le_refl, pLoad_iptr, pLoad_push, Nat.zero_add, Nat.add_zero, List.drop_zero, List.drop_succ_cons, List.length_cons, List.length_nil, List.take_succ_cons, List.take_zero, true_and, and_true, binA_int_eql, binA_int_neq, binA_int_lss, binA_int_leq, binA_int_gtr, binA_int_geq, binA_int_add, binA_int_sub, binA_int_mul, binA_int_and, binA_int_or, binA_int_xor, binA_str_eql, binA_str_neq, binA_bool_eql, binA_bool_neq, binA_ptr_eql_nil, binA_ptr_neq_nil, binA_iptr_eql_nil, binA_iptr_neq_nil, binA_nil_eql_nil, binA_nil_neq_nil, unA_not, unA_not_unkb, unA_neg, Bool.not_true, Bool.not_false, false_implies, true_implies, eq_self, e1, e2, pMakeSl, Int.toNat_natCast, e3]
  refine ⟨by omega, by omega, by omega, by omega, ?_⟩
  simp [pBuild, fillA, AV.cells, AV.fits, Go.Abs.later, e3]

theorem ref_Made_does {h : AHeap} {F : Nat → Prop} {j : Nat} {ts : List Rt} {GL : AV} (p : RfAt h F j ts GL) (th : Int) :
    CallsA Try.prog 23 [.ptr j 0, .int .i64 th] h (fun v h2 => v = .int .i64 (cntM (ts.map Rt.rf) th : Nat) ∧ Keeps h h2 (fun _ => False)) := by
  apply padlockref17_Heap_Made_wp
  obtain ⟨g, hg⟩ := p.row
  have hlen := p.len
  have r1 : ∀ K, pLoad none (.ptr j 1) h K = K (thsAV ts g) := fun K => by rw [pLoad_ptr hg, pCells_none]; rfl
  try simp -dsimp -implicitDefEqProofs only [↓later_1, ↓later_2, ↓later_3, obind_some, ↓Split_true, ↓Split_false, ↓run_pCond, ↓run_pCond_unkb, ↓run_pGuardT, ↓run_pGuardF, ↓run_pGuard_unkb, ↓run_pGuardST, ↓run_pGuardSF, ↓pGuard_tup, ↓pGuardS_tup, ↓run_pPick, ↓run_pIdx, ↓run_pExtract0, ↓run_pExtractS, ↓pJoin_eq, nth_zero, nth_cons, exitQ_normal, exitQ_exit, exitQ_ret, frOf_cons, ↓reduceIte, Nat.reduceEqDiff, loopPost_exit, loopPost_ret, pLen_str, pLen_isl, pLen_gsl, pLen_sl, pLen_nils, pLen_eml, pLen_array, pLen_slAV, pConv_int, pConv_str, pBox_true, pBox_false, pAlloc_eq, cells_agg, fits_agg, pNil_ptr, pNil_iptr, pNil_fn, pFieldAddr_ptr, pFieldAddr_iptr, pField_agg, pCells_zero, pCells_succ, pCells_some, Nat.reduceAdd, Nat.reduceLeDiff, Nat.le_refl, pLoad_iptr, pLoad_push, Nat.zero_add, Nat.add_zero, List.drop_zero, List.drop_succ_cons, List.length_cons, List.length_nil, List.take_succ_cons, List.take_zero, true_and, and_true, binA_int_eql, binA_int_neq, binA_int_lss, binA_int_leq, binA_int_gtr, binA_int_geq, binA_int_add, binA_int_sub, binA_int_mul, binA_int_and, binA_int_or, binA_int_xor, binA_str_eql, binA_str_neq, binA_bool_eql, binA_bool_neq, binA_ptr_eql_nil, binA_ptr_neq_nil, binA_iptr_eql_nil, binA_iptr_neq_nil, binA_nil_eql_nil, binA_nil_neq_nil, unA_not, unA_not_unkb, unA_neg, Bool.not_true, Bool.not_false, false_implies, true_implies, eq_self, r1, ths_len]
  refine WP_loop mixed_ (by kernel_rfl) (fun m fr hh => ∃ (k : Nat), k ≤ ts.length ∧ m = ts.length - k ∧ Keeps h hh (fun _ => False) ∧
    fr = frOf [(1, .int .i64 th), (5, .int .i64 (cntM ((ts.take k).map Rt.rf) th : Nat)), (11, thsAV ts g), (12, .int .i64 ts.length), (13, .int .i64 k)]) ts.length ⟨0, by omega, by omega, .refl _ _, rfl⟩ ?_
  rintro m fr hh ⟨k, hk, rfl, kp, rfl⟩
  apply padlockref17_Heap_Made_loop3
  generalize hI : (fun (m : Nat) (fr : Fr) (hh : AHeap) => _) = I
  by_cases hkl : k < ts.length
  · have hx : ts[k]? = some ts[k] := List.getElem?_eq_getElem hkl
    have hrf := p.refs _ (List.mem_of_getElem? hx)
    have hsn : ts.take (k + 1) = ts.take k ++ [ts[k]] := by rw [List.take_add_one, hx]; rfl
    generalize ts[k] = t at *
    have d0 : decide ((k : Int) < (ts.length : Int)) = true := decide_eq_true (by omega)
    have hc : t.cells = [.int .u64 (t.ref : Int), .int .i64 t.site, .int .i64 t.cls, .sl t.id 0 t.vals.length 1] := rfl
    have wk : IntKind.i64.wrap ((k : Int) + 1) = ((k + 1 : Nat) : Int) := by rw [wrapI (by omega) (by omega)]; omega
    have w1 : IntKind.u64.wrap ((t.ref : Int) - 1) = ((t.ref - 1 : Nat) : Int) := by rw [wr_u64, Int.emod_eq_of_lt (by omega) (by omega)]; omega
    have w2 : IntKind.i64.wrap ((t.ref - 1 : Nat) : Int) = ((t.ref - 1 : Nat) : Int) := wrapI (by omega) (by omega)
    try simp -dsimp -implicitDefEqProofs only [↓later_1, ↓later_2, ↓later_3, obind_some, ↓Split_true, ↓Split_false, ↓run_pCond, ↓run_pCond_unkb, ↓run_pGuardT, ↓run_pGuardF, ↓run_pGuard_unkb, ↓run_pGuardST, ↓run_pGuardSF, ↓pGuard_tup, ↓pGuardS_tup, ↓run_pPick, ↓run_pIdx, ↓run_pExtract0, ↓run_pExtractS, ↓pJoin_eq, nth_zero, nth_cons, exitQ_normal, exitQ_exit, exitQ_ret, frOf_cons, ↓reduceIte, Nat.reduceEqDiff, loopPost_exit, loopPost_ret, pLen_str, pLen_isl, pLen_gsl, pLen_sl, pLen_nils, pLen_eml, pLen_array, pLen_slAV, pConv_int, pConv_str, pBox_true, pBox_false, pAlloc_eq, cells_agg, fits_agg, pNil_ptr, pNil_iptr, pNil_fn, pFieldAddr_ptr, pFieldAddr_iptr, pField_agg, pCells_zero, pCells_succ, pCells_some, Nat.reduceAdd, Nat.reduceLeDiff, Nat.le_refl, pLoad_iptr, pLoad_push, Nat.zero_add, Nat.add_zero, List.drop_zero, List.drop_succ_cons, List.length_cons, List.length_nil, List.take_succ_cons, List.take_zero, true_and, and_true, binA_int_eql, binA_int_neq, binA_int_lss, binA_int_leq, binA_int_gtr, binA_int_geq, binA_int_add, binA_int_sub, binA_int_mul, binA_int_and, binA_int_or, binA_int_xor, binA_str_eql, binA_str_neq, binA_bool_eql, binA_bool_neq, binA_ptr_eql_nil, binA_ptr_neq_nil, binA_iptr_eql_nil, binA_iptr_neq_nil, binA_nil_eql_nil, binA_nil_neq_nil, unA_not, unA_not_unkb, unA_neg, Bool.not_true, Bool.not_false, false_implies, true_implies, eq_self, d0, ths_at hx, hc]
    rw [pStore_push (by rfl) (by rfl)]
    have kA := Keeps.push hh (.row 106 [.int .u64 (t.ref : Int), .int .i64 t.site, .int .i64 t.cls, .sl t.id 0 t.vals.length 1])
    have hq : (16 : Int) = 0 ↔ False := by simp
    have e3 : ((t.ref - 1 : Nat) : Int).tdiv 16 = (((t.ref - 1) / 16 : Nat) : Int) := rfl
    have w3 : IntKind.i64.wrap (((t.ref - 1) / 16 : Nat) : Int) = (((t.ref - 1) / 16 : Nat) : Int) := wrapI (by omega) (by omega)
    have hcn : cntM ((ts.take (k + 1)).map Rt.rf) th = cntM ((ts.take k).map Rt.rf) th + if ((((t.ref - 1) / 16 : Nat) : Int) == th) = true then 1 else 0 := by
      unfold cntM
      rw [hsn, List.map_append, List.map_append, List.countP_append]
      simp [Rt.rf, List.countP_cons]
    have hle : cntM ((ts.take k).map Rt.rf) th ≤ k := by
      unfold cntM
      refine Nat.le_trans List.countP_le_length ?_
      simp; omega
    cases hb : ((((t.ref - 1) / 16 : Nat) : Int) == th) with
    | true =>
      rw [hb, if_pos rfl] at hcn
      have wn : IntKind.i64.wrap ((cntM ((ts.take k).map Rt.rf) th : Int) + 1) = (cntM ((ts.take (k + 1)).map Rt.rf) th : Nat) := by rw [hcn, wrapI (by omega) (by omega)]; omega
      try simp -dsimp -implicitDefEqProofs only [↓later_1, ↓later_2, ↓later_3, obind_some, ↓Split_true, ↓Split_false, ↓run_pCond, ↓run_pCond_unkb, ↓run_pGuardT, ↓run_pGuardF, ↓run_pGuard_unkb, ↓run_pGuardST, ↓run_pGuardSF, ↓pGuard_tup, ↓pGuardS_tup, ↓run_pPick, ↓run_pIdx, ↓run_pExtract0, ↓run_pExtractS, ↓pJoin_eq, nth_zero, nth_cons, exitQ_normal, exitQ_exit, exitQ_ret, frOf_cons, ↓reduceIte, Nat.reduceEqDiff, loopPost_exit, loopPost_ret, pLen_str, pLen_isl, pLen_gsl, pLen_sl, pLen_nils, pLen_eml, pLen_array, pLen_slAV, pConv_int, pConv_str, pBox_true, pBox_false, pAlloc_eq, cells_agg, fits_agg, pNil_ptr, pNil_iptr, pNil_fn, pFieldAddr_ptr, pFieldAddr_iptr, pField_agg, pCells_zero, pCells_succ, pCells_some, Nat.reduceAdd, Nat.reduceLeDiff, Nat.le_refl, pLoad_iptr, pLoad_push, Nat.zero_add, Nat.add_zero, List.drop_zero, List.drop_succ_cons, List.length_cons, List.length_nil, List.take_succ_cons, List.take_zero, true_and, and_true, binA_int_eql, binA_int_neq, binA_int_lss, binA_int_leq, binA_int_gtr, binA_int_geq, binA_int_add, binA_int_sub, binA_int_mul, binA_int_and, binA_int_or, binA_int_xor, binA_str_eql, binA_str_neq, binA_bool_eql, binA_bool_neq, binA_ptr_eql_nil, binA_ptr_neq_nil, binA_iptr_eql_nil, binA_iptr_neq_nil, binA_nil_eql_nil, binA_nil_neq_nil, unA_not, unA_not_unkb, unA_neg, Bool.not_true, Bool.not_false, false_implies, true_implies, eq_self, w1, w2, binA_int_quo, hq, if_false, e3, w3, hb, wn, wk]
      rw [loopPost_normal, ← hI]
      exact ⟨_, by omega, k + 1, by omega, rfl, kp.trans kA (fun _ _ h => h), rfl⟩
    | false =>
      rw [hb, if_neg Bool.false_ne_true, Nat.add_zero] at hcn
      try simp -dsimp -implicitDefEqProofs only [↓later_1, ↓later_2, ↓later_3, obind_some, ↓Split_true, ↓Split_false, ↓run_pCond, ↓run_pCond_unkb, ↓run_pGuardT, ↓run_pGuardF, ↓run_pGuard_unkb, ↓run_pGuardST, ↓run_pGuardSF, ↓pGuard_tup, ↓pGuardS_tup, ↓run_pPick, ↓run_pIdx, ↓run_pExtract0, ↓run_pExtractS, ↓pJoin_eq, nth_zero, nth_cons, exitQ_normal, exitQ_exit, exitQ_ret, frOf_cons, ↓reduceIte, Nat.reduceEqDiff, loopPost_exit, loopPost_ret, pLen_str, pLen_isl, pLen_gsl, pLen_sl, pLen_nils, pLen_eml, pLen_array, pLen_slAV, pConv_int, pConv_str, pBox_true, pBox_false, pAlloc_eq, cells_agg, fits_agg, pNil_ptr, pNil_iptr, pNil_fn, pFieldAddr_ptr, pFieldAddr_iptr, pField_agg, pCells_zero, pCells_succ, pCells_some, Nat.reduceAdd, Nat.reduceLeDiff, Nat.le_refl, pLoad_iptr, pLoad_push, Nat.zero_add, Nat.add_zero, List.drop_zero, List.drop_succ_cons, List.length_cons, List.length_nil, List.take_succ_cons, List.take_zero, true_and, and_true, binA_int_eql, binA_int_neq, binA_int_lss, binA_int_leq, binA_int_gtr, binA_int_geq, binA_int_add, binA_int_sub, binA_int_mul, binA_int_and, binA_int_or, binA_int_xor, binA_str_eql, binA_str_neq, binA_bool_eql, binA_bool_neq, binA_ptr_eql_nil, binA_ptr_neq_nil, binA_iptr_eql_nil, binA_iptr_neq_nil, binA_nil_eql_nil, binA_nil_neq_nil, unA_not, unA_not_unkb, unA_neg, Bool.not_true, Bool.not_false, false_implies, true_implies, eq_self, w1, w2, binA_int_quo, hq, if_false, e3, w3, hb, wk]
      rw [loopPost_normal, ← hI]
      exact ⟨_, by omega, k + 1, by omega, rfl, kp.trans kA (fun _ _ h => h), by rw [hcn]; rfl⟩
  · have hke : k = ts.length := by omega
    subst hke
    rw [List.take_length] at *
    have d0 : decide ((ts.length : Int) < (ts.length : Int)) = false := decide_eq_false (by omega)
    try simp -dsimp -implicitDefEqProofs only [↓later_1, ↓later_2, ↓later_3, obind_some, ↓Split_true, ↓Split_false, ↓run_pCond, ↓run_pCond_unkb, ↓run_pGuardT, ↓run_pGuardF, ↓run_pGuard_unkb, ↓run_pGuardST, ↓run_pGuardSF, ↓pGuard_tup, ↓pGuardS_tup, ↓run_pPick, ↓run_pIdx, ↓run_pExtract0, ↓run_pExtractS, ↓pJoin_eq, nth_zero, nth_cons, exitQ_normal, exitQ_exit, exitQ_ret, frOf_cons, ↓reduceIte, Nat.reduceEqDiff, loopPost_exit, loopPost_ret, pLen_str, pLen_isl, pLen_gsl, pLen_sl, pLen_nils, pLen_eml, pLen_array, pLen_slAV, pConv_int, pConv_str, pBox_true, pBox_false, pAlloc_eq, cells_agg, fits_agg, pNil_ptr, pNil_iptr, pNil_fn, pFieldAddr_ptr, pFieldAddr_iptr, pField_agg, pCells_zero, pCells_succ, pCells_some, Nat.reduceAdd, Nat.reduceLeDiff, Nat.le_refl, pLoad_iptr, pLoad_push, Nat.zero_add, Nat.add_zero, List.drop_zero, List.drop_succ_cons, List.length_cons, List.length_nil, List.take_succ_cons, List.take_zero, true_and, and_true, binA_int_eql, binA_int_neq, binA_int_lss, binA_int_leq, binA_int_gtr, binA_int_geq, binA_int_add, binA_int_sub, binA_int_mul, binA_int_and, binA_int_or, binA_int_xor, binA_str_eql, binA_str_neq, binA_bool_eql, binA_bool_neq, binA_ptr_eql_nil, binA_ptr_neq_nil, binA_iptr_eql_nil, binA_iptr_neq_nil, binA_nil_eql_nil, binA_nil_neq_nil, unA_not, unA_not_unkb, unA_neg, Bool.not_true, Bool.not_false, false_implies, true_implies, eq_self, d0]
    first | exact ⟨rfl, kp⟩ | exact kp

def fndI (ts : List Rt) (r : Nat) : Int := match fnd (ts.map Rt.rf) r with | some i => (i : Int) | none => -1
theorem fnd_take {M : List Rf} {r k : Nat} {x : Rf} (h : fnd (M.take k) r = none) (hx : M[k]? = some x) (e : x.ref = r) : fnd M r = some k := by
  unfold fnd at h ⊢
  rw [List.findIdx?_eq_none_iff] at h
  obtain ⟨hk, he⟩ := List.getElem?_eq_some_iff.1 hx
  refine List.findIdx?_eq_some_iff_getElem.2 ⟨hk, by rw [he]; simpa using e, fun j hj => ?_⟩
  have := h M[j] (List.mem_iff_getElem?.2 ⟨j, by rw [List.getElem?_take, if_pos hj, List.getElem?_eq_getElem (by omega)]⟩)
  simpa using this
theorem fnd_snoc {M : List Rf} {r k : Nat} {x : Rf} (h : fnd (M.take k) r = none) (hx : M[k]? = some x) (e : x.ref ≠ r) : fnd (M.take (k + 1)) r = none := by
  unfold fnd at h ⊢
  rw [List.findIdx?_eq_none_iff] at h ⊢
  intro y hy
  rw [List.take_add_one, hx] at hy
  rcases List.mem_append.1 hy with hy | hy
  · exact h y hy
  · simp at hy; subst hy; simpa using e

theorem ref_Find_does {h : AHeap} {F : Nat → Prop} {j : Nat} {ts : List Rt} {GL : AV} (p : RfAt h F j ts GL) (r : Nat) :
    CallsA Try.prog 50 [.ptr j 0, .int .u64 (r : Int)] h (fun v h2 => v = .int .i64 (fndI ts r) ∧ Keeps h h2 (fun _ => False)) := by
  apply padlockref17_Heap_Find_wp
  obtain ⟨g, hg⟩ := p.row
  have hlen := p.len
  have r1 : ∀ K, pLoad none (.ptr j 1) h K = K (thsAV ts g) := fun K => by rw [pLoad_ptr hg, pCells_none]; rfl
  try simp -dsimp -implicitDefEqProofs only [↓later_1, ↓later_2, ↓later_3, obind_some, ↓Split_true, ↓Split_false, ↓run_pCond, ↓run_pCond_unkb, ↓run_pGuardT, ↓run_pGuardF, ↓run_pGuard_unkb, ↓run_pGuardST, ↓run_pGuardSF, ↓pGuard_tup, ↓pGuardS_tup, ↓run_pPick, ↓run_pIdx, ↓run_pExtract0, ↓run_pExtractS, ↓pJoin_eq, nth_zero, nth_cons, exitQ_normal, exitQ_exit, exitQ_ret, frOf_cons, ↓reduceIte, Nat.reduceEqDiff, loopPost_exit, loopPost_ret, pLen_str, pLen_isl, pLen_gsl, pLen_sl, pLen_nils, pLen_eml, pLen_array, pLen_slAV, pConv_int, pConv_str, pBox_true, pBox_false, pAlloc_eq, cells_agg, fits_agg, pNil_ptr, pNil_iptr, pNil_fn, pFieldAddr_ptr, pFieldAddr_iptr, pField_agg, pCells_zero, pCells_succ, pCells_some, Nat.reduceAdd, Nat.reduceLeDiff, Nat.le_refl, pLoad_iptr, pLoad_push, Nat.zero_add, Nat.add_zero, List.drop_zero, List.drop_succ_cons, List.length_cons, List.length_nil, List.take_succ_cons, List.take_zero, true_and, and_true, binA_int_eql, binA_int_neq, binA_int_lss, binA_int_leq, binA_int_gtr, binA_int_geq, binA_int_add, binA_int_sub, binA_int_mul, binA_int_and, binA_int_or, binA_int_xor, binA_str_eql, binA_str_neq, binA_bool_eql, binA_bool_neq, binA_ptr_eql_nil, binA_ptr_neq_nil, binA_iptr_eql_nil, binA_iptr_neq_nil, binA_nil_eql_nil, binA_nil_neq_nil, unA_not, unA_not_unkb, unA_neg, Bool.not_true, Bool.not_false, false_implies, true_implies, eq_self, r1, ths_len]
  refine WP_loop mixed_ (by kernel_rfl) (fun m fr hh => ∃ (k : Nat), k ≤ ts.length ∧ m = ts.length - k ∧ Keeps h hh (fun _ => False) ∧ fnd ((ts.map Rt.rf).take k) r = none ∧
    fr = frOf [(1, .int .u64 (r : Int)), (10, thsAV ts g), (11, .int .i64 ts.length), (12, .int .i64 k)]) ts.length ⟨0, by omega, by omega, .refl _ _, rfl, rfl⟩ ?_
  rintro m fr hh ⟨k, hk, rfl, kp, hnone, rfl⟩
  apply padlockref17_Heap_Find_loop2
  generalize hI : (fun (m : Nat) (fr : Fr) (hh : AHeap) => _) = I
  by_cases hkl : k < ts.length
  · have hx : ts[k]? = some ts[k] := List.getElem?_eq_getElem hkl
    generalize ts[k] = t at *
    have hx2 : (ts.map Rt.rf)[k]? = some t.rf := by rw [List.getElem?_map, hx]; rfl
    have d0 : decide ((k : Int) < (ts.length : Int)) = true := decide_eq_true (by omega)
    have hc : t.cells = [.int .u64 (t.ref : Int), .int .i64 t.site, .int .i64 t.cls, .sl t.id 0 t.vals.length 1] := rfl
    have wk : IntKind.i64.wrap ((k : Int) + 1) = ((k + 1 : Nat) : Int) := by rw [wrapI (by omega) (by omega)]; omega
    try simp -dsimp -implicitDefEqProofs only [↓later_1, ↓later_2, ↓later_3, obind_some, ↓Split_true, ↓Split_false, ↓run_pCond, ↓run_pCond_unkb, ↓run_pGuardT, ↓run_pGuardF, ↓run_pGuard_unkb, ↓run_pGuardST, ↓run_pGuardSF, ↓pGuard_tup, ↓pGuardS_tup, ↓run_pPick, ↓run_pIdx, ↓run_pExtract0, ↓run_pExtractS, ↓pJoin_eq, nth_zero, nth_cons, exitQ_normal, exitQ_exit, exitQ_ret, frOf_cons, ↓reduceIte, Nat.reduceEqDiff, loopPost_exit, loopPost_ret, pLen_str, pLen_isl, pLen_gsl, pLen_sl, pLen_nils, pLen_eml, pLen_array, pLen_slAV, pConv_int, pConv_str, pBox_true, pBox_false, pAlloc_eq, cells_agg, fits_agg, pNil_ptr, pNil_iptr, pNil_fn, pFieldAddr_ptr, pFieldAddr_iptr, pField_agg, pCells_zero, pCells_succ, pCells_some, Nat.reduceAdd, Nat.reduceLeDiff, Nat.le_refl, pLoad_iptr, pLoad_push, Nat.zero_add, Nat.add_zero, List.drop_zero, List.drop_succ_cons, List.length_cons, List.length_nil, List.take_succ_cons, List.take_zero, true_and, and_true, binA_int_eql, binA_int_neq, binA_int_lss, binA_int_leq, binA_int_gtr, binA_int_geq, binA_int_add, binA_int_sub, binA_int_mul, binA_int_and, binA_int_or, binA_int_xor, binA_str_eql, binA_str_neq, binA_bool_eql, binA_bool_neq, binA_ptr_eql_nil, binA_ptr_neq_nil, binA_iptr_eql_nil, binA_iptr_neq_nil, binA_nil_eql_nil, binA_nil_neq_nil, unA_not, unA_not_unkb, unA_neg, Bool.not_true, Bool.not_false, false_implies, true_implies, eq_self, d0, ths_at hx, hc]
    rw [pStore_push (by rfl) (by rfl)]
    have kA := Keeps.push hh (.row 106 [.int .u64 (t.ref : Int), .int .i64 t.site, .int .i64 t.cls, .sl t.id 0 t.vals.length 1])
    by_cases e : t.ref = r
    · have hb : ((t.ref : Int) == (r : Int)) = true := by simp [e]
      have hf : fndI ts r = k := by unfold fndI; rw [fnd_take hnone hx2 e]
      try simp -dsimp -implicitDefEqProofs only [↓later_1, ↓later_2, ↓later_3, obind_some, ↓Split_true, ↓Split_false, ↓run_pCond, ↓run_pCond_unkb, ↓run_pGuardT, ↓run_pGuardF, ↓run_pGuard_unkb, ↓run_pGuardST, ↓run_pGuardSF, ↓pGuard_tup, ↓pGuardS_tup, ↓run_pPick, ↓run_pIdx, ↓run_pExtract0, ↓run_pExtractS, ↓pJoin_eq, nth_zero, nth_cons, exitQ_normal, exitQ_exit, exitQ_ret, frOf_cons, ↓reduceIte, Nat.reduceEqDiff, loopPost_exit, loopPost_ret, pLen_str, pLen_isl, pLen_gsl, pLen_sl, pLen_nils, pLen_eml, pLen_array, pLen_slAV, pConv_int, pConv_str, pBox_true, pBox_false, pAlloc_eq, cells_agg, fits_agg, pNil_ptr, pNil_iptr, pNil_fn, pFieldAddr_ptr, pFieldAddr_iptr, pField_agg, pCells_zero, pCells_succ, pCells_some, Nat.reduceAdd, Nat.reduceLeDiff, Nat.le_refl, pLoad_iptr, pLoad_push, Nat.zero_add, Nat.add_zero, List.drop_zero, List.drop_succ_cons, List.length_cons, List.length_nil, List.take_succ_cons, List.take_zero, true_and, and_true, binA_int_eql, binA_int_neq, binA_int_lss, binA_int_leq, binA_int_gtr, binA_int_geq, binA_int_add, binA_int_sub, binA_int_mul, binA_int_and, binA_int_or, binA_int_xor, binA_str_eql, binA_str_neq, binA_bool_eql, binA_bool_neq, binA_ptr_eql_nil, binA_ptr_neq_nil, binA_iptr_eql_nil, binA_iptr_neq_nil, binA_nil_eql_nil, binA_nil_neq_nil, unA_not, unA_not_unkb, unA_neg, Bool.not_true, Bool.not_false, false_implies, true_implies, eq_self, hb]
      rw [hf]
      exact ⟨rfl, kp.trans kA (fun _ _ h => h)⟩
    · have hb : ((t.ref : Int) == (r : Int)) = false := by simp; omega
      try simp -dsimp -implicitDefEqProofs only [↓later_1, ↓later_2, ↓later_3, obind_some, ↓Split_true, ↓Split_false, ↓run_pCond, ↓run_pCond_unkb, ↓run_pGuardT, ↓run_pGuardF, ↓run_pGuard_unkb, ↓run_pGuardST, ↓run_pGuardSF, ↓pGuard_tup, ↓pGuardS_tup, ↓run_pPick, ↓run_pIdx, ↓run_pExtract0, ↓run_pExtractS, ↓pJoin_eq, nth_zero, nth_cons, exitQ_normal, exitQ_exit, exitQ_ret, frOf_cons, ↓reduceIte, Nat.reduceEqDiff, loopPost_exit, loopPost_ret, pLen_str, pLen_isl, pLen_gsl, pLen_sl, pLen_nils, pLen_eml, pLen_array, pLen_slAV, pConv_int, pConv_str, pBox_true, pBox_false, pAlloc_eq, cells_agg, fits_agg, pNil_ptr, pNil_iptr, pNil_fn, pFieldAddr_ptr, pFieldAddr_iptr, pField_agg, pCells_zero, pCells_succ, pCells_some, Nat.reduceAdd, Nat.reduceLeDiff, Nat.le_refl, pLoad_iptr, pLoad_push, Nat.zero_add, Nat.add_zero, List.drop_zero, List.drop_succ_cons, List.length_cons, List.length_nil, List.take_succ_cons, List.take_zero, true_and, and_true, binA_int_eql, binA_int_neq, binA_int_lss, binA_int_leq, binA_int_gtr, binA_int_geq, binA_int_add, binA_int_sub, binA_int_mul, binA_int_and, binA_int_or, binA_int_xor, binA_str_eql, binA_str_neq, binA_bool_eql, binA_bool_neq, binA_ptr_eql_nil, binA_ptr_neq_nil, binA_iptr_eql_nil, binA_iptr_neq_nil, binA_nil_eql_nil, binA_nil_neq_nil, unA_not, unA_not_unkb, unA_neg, Bool.not_true, Bool.not_false, false_implies, true_implies, eq_self, hb, wk]
      rw [loopPost_normal, ← hI]
      exact ⟨_, by omega, k + 1, by omega, rfl, kp.trans kA (fun _ _ h => h), fnd_snoc hnone hx2 e, rfl⟩
  · have hke : k = ts.length := by omega
    subst hke
    have d0 : decide ((ts.length : Int) < (ts.length : Int)) = false := decide_eq_false (by omega)
    have hf : fndI ts r = -1 := by
      unfold fndI
      rw [List.take_of_length_le (by simp)] at hnone
      rw [hnone]
    try simp -dsimp -implicitDefEqProofs only [↓later_1, ↓later_2, ↓later_3, obind_some, ↓Split_true, ↓Split_false, ↓run_pCond, ↓run_pCond_unkb, ↓run_pGuardT, ↓run_pGuardF, ↓run_pGuard_unkb, ↓run_pGuardST, ↓run_pGuardSF, ↓pGuard_tup, ↓pGuardS_tup, ↓run_pPick, ↓run_pIdx, ↓run_pExtract0, ↓run_pExtractS, ↓pJoin_eq, nth_zero, nth_cons, exitQ_normal, exitQ_exit, exitQ_ret, frOf_cons, ↓reduceIte, Nat.reduceEqDiff, loopPost_exit, loopPost_ret, pLen_str, pLen_isl, pLen_gsl, pLen_sl, pLen_nils, pLen_eml, pLen_array, pLen_slAV, pConv_int, pConv_str, pBox_true, pBox_false, pAlloc_eq, cells_agg, fits_agg, pNil_ptr, pNil_iptr, pNil_fn, pFieldAddr_ptr, pFieldAddr_iptr, pField_agg, pCells_zero, pCells_succ, pCells_some, Nat.reduceAdd, Nat.reduceLeDiff, Nat.le_refl, pLoad_iptr, pLoad_push, Nat.zero_add, Nat.add_zero, List.drop_zero, List.drop_succ_cons, List.length_cons, List.length_nil, List.take_succ_cons, List.take_zero, true_and, and_true, binA_int_eql, binA_int_neq, binA_int_lss, binA_int_leq, binA_int_gtr, binA_int_geq, binA_int_add, binA_int_sub, binA_int_mul, binA_int_and, binA_int_or, binA_int_xor, binA_str_eql, binA_str_neq, binA_bool_eql, binA_bool_neq, binA_ptr_eql_nil, binA_ptr_neq_nil, binA_iptr_eql_nil, binA_iptr_neq_nil, binA_nil_eql_nil, binA_nil_neq_nil, unA_not, unA_not_unkb, unA_neg, Bool.not_true, Bool.not_false, false_implies, true_implies, eq_self, d0]
    rw [hf]
    exact ⟨rfl, kp⟩

end Go.Proofs.Ytppldbldpphlmaa
