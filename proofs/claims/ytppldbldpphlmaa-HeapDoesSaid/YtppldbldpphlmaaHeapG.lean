/- heap: the document's heap in memory: cells, reading, writing, names. -/
import Derived.Test.YtppldbldpphlmaaHeapF
set_option linter.unusedVariables false
set_option linter.unusedSimpArgs false
set_option maxRecDepth 8000
namespace Go.Proofs.Ytppldbldpphlmaa
open Go.Abs

theorem fnd_some {ts : List Rt} {r i : Nat} (h : fnd (ts.map Rt.rf) r = some i) : ∃ t, ts[i]? = some t ∧ t.ref = r ∧ lk (ts.map Rt.rf) r = some t.rf.t := by
  obtain ⟨h1, h2, h3⟩ := List.findIdx?_eq_some_iff_getElem.1 h
  have hl : i < ts.length := by simpa using h1
  refine ⟨ts[i], List.getElem?_eq_getElem hl, by simpa [Rt.rf] using h2, ?_⟩
  unfold lk
  have : (ts.map Rt.rf).find? (fun t => t.ref == r) = some (ts.map Rt.rf)[i] := List.find?_eq_some_iff_getElem.2 ⟨h2, i, h1, rfl, fun j hj => by simpa using h3 j hj⟩
  rw [this]
  simp
theorem fnd_none {ts : List Rt} {r : Nat} (h : fnd (ts.map Rt.rf) r = none) : lk (ts.map Rt.rf) r = none := by
  unfold fnd at h
  rw [List.findIdx?_eq_none_iff] at h
  unfold lk
  rw [List.find?_eq_none.2 fun x hx => by simpa using h x hx]
  rfl

def cellE (o : Option Vw) (at_ : Int) : Int := match o with | none => 2 | some t => if at_ < 0 ∨ (t.vals.length : Int) ≤ at_ then 3 else 0
def cellI (ts : List Rt) (r : Nat) (at_ : Int) : Int := if cellE (lk (ts.map Rt.rf) r) at_ = 0 then fndI ts r else 0

theorem ref_Cell_does {h : AHeap} {F : Nat → Prop} {j : Nat} {ts : List Rt} {GL : AV} (p : RfAt h F j ts GL) (r : Nat) (at_ : Int) :
    CallsA Try.prog 64 [.ptr j 0, .int .u64 (r : Int), .int .i64 at_] h (fun v h2 => v = .tup [.int .i64 (cellE (lk (ts.map Rt.rf) r) at_), .int .i64 (cellI ts r at_)] ∧ Keeps h h2 (fun _ => False)) := by
  apply padlockref17_Heap_Cell_wp
  refine (ref_Find_does p r).mono ?_
  rintro _ h2 ⟨rfl, k2⟩
  obtain ⟨g, hg⟩ := (p.keeps k2 (fun _ _ h => h)).row
  have r1 : ∀ K, pLoad none (.ptr j 1) h2 K = K (thsAV ts g) := fun K => by rw [pLoad_ptr hg, pCells_none]; rfl
  cases hf : fnd (ts.map Rt.rf) r with
  | none =>
    have e1 : fndI ts r = -1 := by unfold fndI; rw [hf]
    have e2 : cellE (lk (ts.map Rt.rf) r) at_ = 2 := by rw [fnd_none hf]; rfl
    have e3 : cellI ts r at_ = 0 := by unfold cellI; rw [e2]; rfl
    have d1 : decide ((-1 : Int) < 0) = true := rfl
    rw [e1, e2, e3]
    try simp -dsimp -implicitDefEqProofs only [↓later_1, ↓later_2, ↓later_3, obind_some, ↓Split_true, ↓Split_false, ↓run_pCond, ↓run_pCond_unkb, ↓run_pGuardT, ↓run_pGuardF, ↓run_pGuard_unkb, ↓run_pGuardST, ↓run_pGuardSF, ↓pGuard_tup, ↓pGuardS_tup, ↓run_pPick, ↓run_pIdx, ↓run_pExtract0, ↓run_pExtractS, ↓pJoin_eq, nth_zero, nth_cons, exitQ_normal, exitQ_exit, exitQ_ret, frOf_cons, ↓reduceIte, Nat.reduceEqDiff, loopPost_exit, loopPost_ret, pLen_str, pLen_isl, pLen_gsl, pLen_sl, pLen_nils, pLen_eml, pLen_array, pLen_slAV, pConv_int, pConv_str, pBox_true, pBox_false, pAlloc_eq, cells_agg, fits_agg, pNil_ptr, pNil_iptr, pNil_fn, pFieldAddr_ptr, pFieldAddr_iptr, pField_agg, pCells_zero, pCells_succ, pCells_some, Nat.reduceAdd, Nat.reduceLeDiff, Nat.le_refl, pLoad_iptr, pLoad_push, Nat.zero_add, Nat.add_zero, List.drop_zero, List.drop_succ_cons, List.length_cons, List.length_nil, List.take_succ_cons, List.take_zero, true_and, and_true, binA_int_eql, binA_int_neq, binA_int_lss, binA_int_leq, binA_int_gtr, binA_int_geq, binA_int_add, binA_int_sub, binA_int_mul, binA_int_and, binA_int_or, binA_int_xor, binA_str_eql, binA_str_neq, binA_bool_eql, binA_bool_neq, binA_ptr_eql_nil, binA_ptr_neq_nil, binA_iptr_eql_nil, binA_iptr_neq_nil, binA_nil_eql_nil, binA_nil_neq_nil, unA_not, unA_not_unkb, unA_neg, Bool.not_true, Bool.not_false, false_implies, true_implies, eq_self, d1]
    first | exact ⟨rfl, k2⟩ | exact k2
  | some i =>
    obtain ⟨t, ht, hr, hl⟩ := fnd_some hf
    have e1 : fndI ts r = i := by unfold fndI; rw [hf]
    have d1 : decide ((i : Int) < 0) = false := decide_eq_false (by omega)
    have e2 : cellE (lk (ts.map Rt.rf) r) at_ = if at_ < 0 ∨ (t.vals.length : Int) ≤ at_ then 3 else 0 := by rw [hl]; rfl
    have hc : t.cells = [.int .u64 (t.ref : Int), .int .i64 t.site, .int .i64 t.cls, .sl t.id 0 t.vals.length 1] := rfl
    unfold cellI
    rw [e1, e2]
    by_cases c1 : at_ < 0
    · have d2 : decide (at_ < 0) = true := decide_eq_true c1
      rw [if_pos (Or.inl c1), if_neg (by omega)]
      try simp -dsimp -implicitDefEqProofs only [↓later_1, ↓later_2, ↓later_3, obind_some, ↓Split_true, ↓Split_false, ↓run_pCond, ↓run_pCond_unkb, ↓run_pGuardT, ↓run_pGuardF, ↓run_pGuard_unkb, ↓run_pGuardST, ↓run_pGuardSF, ↓pGuard_tup, ↓pGuardS_tup, ↓run_pPick, ↓run_pIdx, ↓run_pExtract0, ↓run_pExtractS, ↓pJoin_eq, nth_zero, nth_cons, exitQ_normal, exitQ_exit, exitQ_ret, frOf_cons, ↓reduceIte, Nat.reduceEqDiff, loopPost_exit, loopPost_ret, pLen_str, pLen_isl, pLen_gsl, pLen_sl, pLen_nils, pLen_eml, pLen_array, pLen_slAV, pConv_int, pConv_str, pBox_true, pBox_false, pAlloc_eq, cells_agg, fits_agg, pNil_ptr, pNil_iptr, pNil_fn, pFieldAddr_ptr, pFieldAddr_iptr, pField_agg, pCells_zero, pCells_succ, pCells_some, Nat.reduceAdd, Nat.reduceLeDiff, Nat.le_refl, pLoad_iptr, pLoad_push, Nat.zero_add, Nat.add_zero, List.drop_zero, List.drop_succ_cons, List.length_cons, List.length_nil, List.take_succ_cons, List.take_zero, true_and, and_true, binA_int_eql, binA_int_neq, binA_int_lss, binA_int_leq, binA_int_gtr, binA_int_geq, binA_int_add, binA_int_sub, binA_int_mul, binA_int_and, binA_int_or, binA_int_xor, binA_str_eql, binA_str_neq, binA_bool_eql, binA_bool_neq, binA_ptr_eql_nil, binA_ptr_neq_nil, binA_iptr_eql_nil, binA_iptr_neq_nil, binA_nil_eql_nil, binA_nil_neq_nil, unA_not, unA_not_unkb, unA_neg, Bool.not_true, Bool.not_false, false_implies, true_implies, eq_self, d1, d2]
      first | exact ⟨rfl, k2⟩ | exact k2
    · have d2 : decide (at_ < 0) = false := decide_eq_false c1
      by_cases c2 : (t.vals.length : Int) ≤ at_
      · have d3 : decide ((t.vals.length : Int) ≤ at_) = true := decide_eq_true c2
        rw [if_pos (Or.inr c2), if_neg (by omega)]
        try simp -dsimp -implicitDefEqProofs only [↓later_1, ↓later_2, ↓later_3, obind_some, ↓Split_true, ↓Split_false, ↓run_pCond, ↓run_pCond_unkb, ↓run_pGuardT, ↓run_pGuardF, ↓run_pGuard_unkb, ↓run_pGuardST, ↓run_pGuardSF, ↓pGuard_tup, ↓pGuardS_tup, ↓run_pPick, ↓run_pIdx, ↓run_pExtract0, ↓run_pExtractS, ↓pJoin_eq, nth_zero, nth_cons, exitQ_normal, exitQ_exit, exitQ_ret, frOf_cons, ↓reduceIte, Nat.reduceEqDiff, loopPost_exit, loopPost_ret, pLen_str, pLen_isl, pLen_gsl, pLen_sl, pLen_nils, pLen_eml, pLen_array, pLen_slAV, pConv_int, pConv_str, pBox_true, pBox_false, pAlloc_eq, cells_agg, fits_agg, pNil_ptr, pNil_iptr, pNil_fn, pFieldAddr_ptr, pFieldAddr_iptr, pField_agg, pCells_zero, pCells_succ, pCells_some, Nat.reduceAdd, Nat.reduceLeDiff, Nat.le_refl, pLoad_iptr, pLoad_push, Nat.zero_add, Nat.add_zero, List.drop_zero, List.drop_succ_cons, List.length_cons, List.length_nil, List.take_succ_cons, List.take_zero, true_and, and_true, binA_int_eql, binA_int_neq, binA_int_lss, binA_int_leq, binA_int_gtr, binA_int_geq, binA_int_add, binA_int_sub, binA_int_mul, binA_int_and, binA_int_or, binA_int_xor, binA_str_eql, binA_str_neq, binA_bool_eql, binA_bool_neq, binA_ptr_eql_nil, binA_ptr_neq_nil, binA_iptr_eql_nil, binA_iptr_neq_nil, binA_nil_eql_nil, binA_nil_neq_nil, unA_not, unA_not_unkb, unA_neg, Bool.not_true, Bool.not_false, false_implies, true_implies, eq_self, d1, d2, r1, ths_at ht, hc, d3]
        first | exact ⟨rfl, k2⟩ | exact k2
      · have d3 : decide ((t.vals.length : Int) ≤ at_) = false := decide_eq_false c2
        rw [if_neg (by omega), if_pos rfl]
        try simp -dsimp -implicitDefEqProofs only [↓later_1, ↓later_2, ↓later_3, obind_some, ↓Split_true, ↓Split_false, ↓run_pCond, ↓run_pCond_unkb, ↓run_pGuardT, ↓run_pGuardF, ↓run_pGuard_unkb, ↓run_pGuardST, ↓run_pGuardSF, ↓pGuard_tup, ↓pGuardS_tup, ↓run_pPick, ↓run_pIdx, ↓run_pExtract0, ↓run_pExtractS, ↓pJoin_eq, nth_zero, nth_cons, exitQ_normal, exitQ_exit, exitQ_ret, frOf_cons, ↓reduceIte, Nat.reduceEqDiff, loopPost_exit, loopPost_ret, pLen_str, pLen_isl, pLen_gsl, pLen_sl, pLen_nils, pLen_eml, pLen_array, pLen_slAV, pConv_int, pConv_str, pBox_true, pBox_false, pAlloc_eq, cells_agg, fits_agg, pNil_ptr, pNil_iptr, pNil_fn, pFieldAddr_ptr, pFieldAddr_iptr, pField_agg, pCells_zero, pCells_succ, pCells_some, Nat.reduceAdd, Nat.reduceLeDiff, Nat.le_refl, pLoad_iptr, pLoad_push, Nat.zero_add, Nat.add_zero, List.drop_zero, List.drop_succ_cons, List.length_cons, List.length_nil, List.take_succ_cons, List.take_zero, true_and, and_true, binA_int_eql, binA_int_neq, binA_int_lss, binA_int_leq, binA_int_gtr, binA_int_geq, binA_int_add, binA_int_sub, binA_int_mul, binA_int_and, binA_int_or, binA_int_xor, binA_str_eql, binA_str_neq, binA_bool_eql, binA_bool_neq, binA_ptr_eql_nil, binA_ptr_neq_nil, binA_iptr_eql_nil, binA_iptr_neq_nil, binA_nil_eql_nil, binA_nil_neq_nil, unA_not, unA_not_unkb, unA_neg, Bool.not_true, Bool.not_false, false_implies, true_implies, eq_self, d1, d2, r1, ths_at ht, hc, d3]
        first | exact ⟨rfl, k2⟩ | exact k2

theorem cellE_cases (o : Option Vw) (at_ : Int) : cellE o at_ = 2 ∨ cellE o at_ = 3 ∨ cellE o at_ = 0 := by
  unfold cellE
  cases o with
  | none => exact Or.inl rfl
  | some t => simp only; split <;> simp
/-- A cell that there is. -/
theorem cell_is {ts : List Rt} {r : Nat} {at_ : Int} (h : cellE (lk (ts.map Rt.rf) r) at_ = 0) : ∃ (i q : Nat) (t : Rt), fnd (ts.map Rt.rf) r = some i ∧ ts[i]? = some t ∧ t.ref = r ∧ lk (ts.map Rt.rf) r = some t.rf.t ∧ at_ = q ∧ q < t.vals.length ∧ cellI ts r at_ = i := by
  cases hf : fnd (ts.map Rt.rf) r with
  | none => rw [fnd_none hf] at h; simp [cellE] at h
  | some i =>
    obtain ⟨t, ht, hr, hl⟩ := fnd_some hf
    have hh := h
    rw [hl] at h
    simp only [cellE] at h
    split at h
    · omega
    · rename_i hn
      have hn' : ¬ (at_ < 0 ∨ (t.vals.length : Int) ≤ at_) := hn
      refine ⟨i, at_.toNat, t, rfl, ht, hr, hl, by omega, by omega, ?_⟩
      unfold cellI fndI
      rw [if_pos hh, hf]

theorem RfAt.turn {h : AHeap} {F : Nat → Prop} {j : Nat} {ts : List Rt} {GL : AV} (p : RfAt h F j ts GL) {i : Nat} {t : Rt} (ht : ts[i]? = some t) (vs : List Nat) (hv : vs.length = t.vals.length) :
    RfAt (h.put t.id (.row 28 (valCells vs))) F j (ts.set i { t with vals := vs }) GL := by
  obtain ⟨g, hg⟩ := p.row
  have htm := p.cells t (List.mem_of_getElem? ht)
  have hi : j ≠ t.id := by
    intro e; have := htm.2; rw [← e, hg] at this; cases this
  have hm : thsAV (ts.set i { t with vals := vs }) g = thsAV ts g := by
    have hm := map_set_same Rt.cells (u := { t with vals := vs }) ht (by simp [Rt.cells, hv])
    cases ts with
    | nil => simp at ht
    | cons a l => cases i <;> simpa [thsAV] using hm
  have back : ∀ (a : Nat) (u : Rt), (ts.set i { t with vals := vs })[a]? = some u → ∃ u0, ts[a]? = some u0 ∧ u.id = u0.id ∧ u.ref = u0.ref ∧ ((a = i ∧ u = { t with vals := vs }) ∨ (a ≠ i ∧ u = u0)) := by
    intro a u ha
    rw [List.getElem?_set] at ha
    split at ha
    · rename_i e; subst e
      split at ha
      · cases ha; exact ⟨t, ht, rfl, rfl, Or.inl ⟨rfl, rfl⟩⟩
      · cases ha
    · rename_i e; exact ⟨u, ha, rfl, rfl, Or.inr ⟨fun x => e x.symm, rfl⟩⟩
  refine ⟨p.own, p.lt, ⟨g, ?_⟩, fun u hu => ?_, fun a b u v ha hb hid => ?_, by simpa using p.len, fun u hu => ?_⟩
  · simp only [AHeap.put_objs, if_neg hi, hm]; exact hg
  · obtain ⟨a, ha⟩ := List.mem_iff_getElem?.1 hu
    obtain ⟨u0, h1, h2, _, h3⟩ := back a u ha
    have hu0 := p.cells u0 (List.mem_of_getElem? h1)
    rcases h3 with ⟨rfl, rfl⟩ | ⟨h3, rfl⟩
    · exact ⟨htm.1, by simp⟩
    · refine ⟨hu0.1, ?_⟩
      simp only [AHeap.put_objs]
      rw [if_neg]
      · exact hu0.2
      · intro e; exact h3 (p.dist a i u t h1 ht e)
  · obtain ⟨u0, h1, h2, _⟩ := back a u ha
    obtain ⟨v0, k1, k2, _⟩ := back b v hb
    exact p.dist a b u0 v0 h1 k1 (by rw [← h2, ← k2, hid])
  · obtain ⟨a, ha⟩ := List.mem_iff_getElem?.1 hu
    obtain ⟨u0, h1, h2, h4, h3⟩ := back a u ha
    rw [h4]; exact p.refs u0 (List.mem_of_getElem? h1)

def setM (ts : List Rt) (r : Nat) (at_ : Int) (v : Nat) : List Rt :=
  match fnd (ts.map Rt.rf) r with
  | none => ts
  | some i => match ts[i]? with
    | none => ts
    | some t => if at_ < 0 ∨ (t.vals.length : Int) ≤ at_ then ts else ts.set i { t with vals := t.vals.set at_.toNat v }
theorem setM_bad {ts : List Rt} {r : Nat} {at_ : Int} {v : Nat} (h : cellE (lk (ts.map Rt.rf) r) at_ ≠ 0) : setM ts r at_ v = ts := by
  unfold setM
  cases hf : fnd (ts.map Rt.rf) r with
  | none => rfl
  | some i =>
    obtain ⟨t, ht, hr, hl⟩ := fnd_some hf
    rw [hl] at h
    simp only [cellE] at h
    simp only [ht]
    split
    · rfl
    · rename_i hn; exact absurd (if_neg (show ¬ (at_ < 0 ∨ (t.rf.t.vals.length : Int) ≤ at_) from hn)) h

theorem ref_Set_does {h : AHeap} {F : Nat → Prop} {j : Nat} {ts : List Rt} {GL : AV} (p : RfAt h F j ts GL) (r : Nat) (at_ : Int) (v : Nat) :
    CallsA Try.prog 45 [.ptr j 0, .int .u64 (r : Int), .int .i64 at_, .int .u64 (v : Int)] h (fun w h2 => w = .int .i64 (cellE (lk (ts.map Rt.rf) r) at_) ∧ RfAt h2 F j (setM ts r at_ v) GL ∧ Keeps h h2 F) := by
  apply padlockref17_Heap_Set_wp
  refine (ref_Cell_does p r at_).mono ?_
  rintro _ h2 ⟨rfl, k2⟩
  have p2 := p.keeps k2 (fun _ _ h => h)
  obtain ⟨g, hg⟩ := p2.row
  have r1 : ∀ K, pLoad none (.ptr j 1) h2 K = K (thsAV ts g) := fun K => by rw [pLoad_ptr hg, pCells_none]; rfl
  by_cases hz : cellE (lk (ts.map Rt.rf) r) at_ = 0
  · obtain ⟨i, q, t, hf, ht, hr, hl, rfl, hq, hi⟩ := cell_is hz
    have htm := p2.cells t (List.mem_of_getElem? ht)
    have hc : t.cells = [.int .u64 (t.ref : Int), .int .i64 t.site, .int .i64 t.cls, .sl t.id 0 t.vals.length 1] := rfl
    have hs : setM ts r q v = ts.set i { t with vals := t.vals.set q v } := by
      unfold setM
      simp only [hf, ht]
      rw [if_neg (by omega), Int.toNat_natCast]
    have z : ((0 : Int) == 0) = true := rfl
    rw [hz, hi, hs]
    have hix : ∀ K, pIndexAddr (.slice 1) (.sl t.id 0 t.vals.length 1) (.int .i64 (q : Int)) K = K (.ptr t.id q) := fun K => by simp [pIndexAddr]; omega
    try simp -dsimp -implicitDefEqProofs only [↓later_1, ↓later_2, ↓later_3, obind_some, ↓Split_true, ↓Split_false, ↓run_pCond, ↓run_pCond_unkb, ↓run_pGuardT, ↓run_pGuardF, ↓run_pGuard_unkb, ↓run_pGuardST, ↓run_pGuardSF, ↓pGuard_tup, ↓pGuardS_tup, ↓run_pPick, ↓run_pIdx, ↓run_pExtract0, ↓run_pExtractS, ↓pJoin_eq, nth_zero, nth_cons, exitQ_normal, exitQ_exit, exitQ_ret, frOf_cons, ↓reduceIte, Nat.reduceEqDiff, loopPost_exit, loopPost_ret, pLen_str, pLen_isl, pLen_gsl, pLen_sl, pLen_nils, pLen_eml, pLen_array, pLen_slAV, pConv_int, pConv_str, pBox_true, pBox_false, pAlloc_eq, cells_agg, fits_agg, pNil_ptr, pNil_iptr, pNil_fn, pFieldAddr_ptr, pFieldAddr_iptr, pField_agg, pCells_zero, pCells_succ, pCells_some, Nat.reduceAdd, Nat.reduceLeDiff, Nat.le_refl, pLoad_iptr, pLoad_push, Nat.zero_add, Nat.add_zero, List.drop_zero, List.drop_succ_cons, List.length_cons, List.length_nil, List.take_succ_cons, List.take_zero, true_and, and_true, binA_int_eql, binA_int_neq, binA_int_lss, binA_int_leq, binA_int_gtr, binA_int_geq, binA_int_add, binA_int_sub, binA_int_mul, binA_int_and, binA_int_or, binA_int_xor, binA_str_eql, binA_str_neq, binA_bool_eql, binA_bool_neq, binA_ptr_eql_nil, binA_ptr_neq_nil, binA_iptr_eql_nil, binA_iptr_neq_nil, binA_nil_eql_nil, binA_nil_neq_nil, unA_not, unA_not_unkb, unA_neg, Bool.not_true, Bool.not_false, false_implies, true_implies, eq_self, z, r1, ths_at ht, hc, hix]
    rw [pStore_ptr htm.2 rfl (by simpa using hq), valCells_set]
    have pt := p2.turn ht (t.vals.set q v) (by simp)
    have kk : Keeps h (h2.put t.id (.row 28 (valCells (t.vals.set q v)))) F := (k2.mono (fun _ h => h.elim)).trans ((Keeps.put _ _ _).mono (fun x hx => by subst hx; exact htm.1)) (fun _ _ h => h)
    first | exact ⟨rfl, pt, kk⟩ | exact ⟨pt, kk⟩
  · have z : (cellE (lk (ts.map Rt.rf) r) at_ == 0) = false := by simp [hz]
    rw [setM_bad hz]
    try simp -dsimp -implicitDefEqProofs only [↓later_1, ↓later_2, ↓later_3, obind_some, ↓Split_true, ↓Split_false, ↓run_pCond, ↓run_pCond_unkb, ↓run_pGuardT, ↓run_pGuardF, ↓run_pGuard_unkb, ↓run_pGuardST, ↓run_pGuardSF, ↓pGuard_tup, ↓pGuardS_tup, ↓run_pPick, ↓run_pIdx, ↓run_pExtract0, ↓run_pExtractS, ↓pJoin_eq, nth_zero, nth_cons, exitQ_normal, exitQ_exit, exitQ_ret, frOf_cons, ↓reduceIte, Nat.reduceEqDiff, loopPost_exit, loopPost_ret, pLen_str, pLen_isl, pLen_gsl, pLen_sl, pLen_nils, pLen_eml, pLen_array, pLen_slAV, pConv_int, pConv_str, pBox_true, pBox_false, pAlloc_eq, cells_agg, fits_agg, pNil_ptr, pNil_iptr, pNil_fn, pFieldAddr_ptr, pFieldAddr_iptr, pField_agg, pCells_zero, pCells_succ, pCells_some, Nat.reduceAdd, Nat.reduceLeDiff, Nat.le_refl, pLoad_iptr, pLoad_push, Nat.zero_add, Nat.add_zero, List.drop_zero, List.drop_succ_cons, List.length_cons, List.length_nil, List.take_succ_cons, List.take_zero, true_and, and_true, binA_int_eql, binA_int_neq, binA_int_lss, binA_int_leq, binA_int_gtr, binA_int_geq, binA_int_add, binA_int_sub, binA_int_mul, binA_int_and, binA_int_or, binA_int_xor, binA_str_eql, binA_str_neq, binA_bool_eql, binA_bool_neq, binA_ptr_eql_nil, binA_ptr_neq_nil, binA_iptr_eql_nil, binA_iptr_neq_nil, binA_nil_eql_nil, binA_nil_neq_nil, unA_not, unA_not_unkb, unA_neg, Bool.not_true, Bool.not_false, false_implies, true_implies, eq_self, z]
    first | exact ⟨rfl, p2, k2.mono (fun _ h => h.elim)⟩ | exact ⟨p2, k2.mono (fun _ h => h.elim)⟩

def getL (o : Option Vw) (at_ : Int) : AV := match o with
  | none => .tup [.int .u64 0, .int .i64 2]
  | some t => if at_ < 0 ∨ (t.vals.length : Int) ≤ at_ then .tup [.int .u64 0, .int .i64 3] else .tup [.int .u64 ((t.vals.getD at_.toNat 0 : Nat) : Int), .int .i64 0]
theorem getL_bad {o : Option Vw} {at_ : Int} (h : cellE o at_ ≠ 0) : getL o at_ = .tup [.int .u64 0, .int .i64 (cellE o at_)] := by
  unfold cellE getL at *
  cases o with
  | none => rfl
  | some t =>
    simp only at h ⊢
    split
    · rfl
    · rename_i hn; exact absurd (if_neg hn) h
theorem ref_Get_does {h : AHeap} {F : Nat → Prop} {j : Nat} {ts : List Rt} {GL : AV} (p : RfAt h F j ts GL) (r : Nat) (at_ : Int) :
    CallsA Try.prog 46 [.ptr j 0, .int .u64 (r : Int), .int .i64 at_] h (fun w h2 => w = getL (lk (ts.map Rt.rf) r) at_ ∧ Keeps h h2 (fun _ => False)) := by
  apply padlockref17_Heap_Get_wp
  refine (ref_Cell_does p r at_).mono ?_
  rintro _ h2 ⟨rfl, k2⟩
  have p2 := p.keeps k2 (fun _ _ h => h)
  obtain ⟨g, hg⟩ := p2.row
  have r1 : ∀ K, pLoad none (.ptr j 1) h2 K = K (thsAV ts g) := fun K => by rw [pLoad_ptr hg, pCells_none]; rfl
  by_cases hz : cellE (lk (ts.map Rt.rf) r) at_ = 0
  · obtain ⟨i, q, t, hf, ht, hr, hl, rfl, hq, hi⟩ := cell_is hz
    have htm := p2.cells t (List.mem_of_getElem? ht)
    have hc : t.cells = [.int .u64 (t.ref : Int), .int .i64 t.site, .int .i64 t.cls, .sl t.id 0 t.vals.length 1] := rfl
    have z : ((0 : Int) != 0) = false := rfl
    have hgl : getL (lk (ts.map Rt.rf) r) q = .tup [.int .u64 ((t.vals.getD q 0 : Nat) : Int), .int .i64 0] := by
      rw [hl]
      simp only [getL]
      rw [if_neg (show ¬ ((q : Int) < 0 ∨ (t.rf.t.vals.length : Int) ≤ q) by have : t.rf.t.vals = t.vals := rfl; rw [this]; omega), Int.toNat_natCast]
      rfl
    rw [hz, hi, hgl]
    have hix : ∀ K, pIndexAddr (.slice 1) (.sl t.id 0 t.vals.length 1) (.int .i64 (q : Int)) K = K (.ptr t.id q) := fun K => by simp [pIndexAddr]; omega
    have hld : ∀ K, pLoad none (.ptr t.id q) h2 K = K (.int .u64 ((t.vals.getD q 0 : Nat) : Int)) := fun K => by rw [pLoad_ptr htm.2, pCells_none, valCells_get _ _ hq]
    try simp -dsimp -implicitDefEqProofs only [↓later_1, ↓later_2, ↓later_3, obind_some, ↓Split_true, ↓Split_false, ↓run_pCond, ↓run_pCond_unkb, ↓run_pGuardT, ↓run_pGuardF, ↓run_pGuard_unkb, ↓run_pGuardST, ↓run_pGuardSF, ↓pGuard_tup, ↓pGuardS_tup, ↓run_pPick, ↓run_pIdx, ↓run_pExtract0, ↓run_pExtractS, ↓pJoin_eq, nth_zero, nth_cons, exitQ_normal, exitQ_exit, exitQ_ret, frOf_cons, ↓reduceIte, Nat.reduceEqDiff, loopPost_exit, loopPost_ret, pLen_str, pLen_isl, pLen_gsl, pLen_sl, pLen_nils, pLen_eml, pLen_array, pLen_slAV, pConv_int, pConv_str, pBox_true, pBox_false, pAlloc_eq, cells_agg, fits_agg, pNil_ptr, pNil_iptr, pNil_fn, pFieldAddr_ptr, pFieldAddr_iptr, pField_agg, pCells_zero, pCells_succ, pCells_some, Nat.reduceAdd, Nat.reduceLeDiff, Nat.le_refl, pLoad_iptr, pLoad_push, Nat.zero_add, Nat.add_zero, List.drop_zero, List.drop_succ_cons, List.length_cons, List.length_nil, List.take_succ_cons, List.take_zero, true_and, and_true, binA_int_eql, binA_int_neq, binA_int_lss, binA_int_leq, binA_int_gtr, binA_int_geq, binA_int_add, binA_int_sub, binA_int_mul, binA_int_and, binA_int_or, binA_int_xor, binA_str_eql, binA_str_neq, binA_bool_eql, binA_bool_neq, binA_ptr_eql_nil, binA_ptr_neq_nil, binA_iptr_eql_nil, binA_iptr_neq_nil, binA_nil_eql_nil, binA_nil_neq_nil, unA_not, unA_not_unkb, unA_neg, Bool.not_true, Bool.not_false, false_implies, true_implies, eq_self, z, r1, ths_at ht, hc, hix, hld]
    first | exact ⟨rfl, k2⟩ | exact k2
  · have z : (cellE (lk (ts.map Rt.rf) r) at_ != 0) = true := by simp [hz]
    rw [getL_bad hz]
    try simp -dsimp -implicitDefEqProofs only [↓later_1, ↓later_2, ↓later_3, obind_some, ↓Split_true, ↓Split_false, ↓run_pCond, ↓run_pCond_unkb, ↓run_pGuardT, ↓run_pGuardF, ↓run_pGuard_unkb, ↓run_pGuardST, ↓run_pGuardSF, ↓pGuard_tup, ↓pGuardS_tup, ↓run_pPick, ↓run_pIdx, ↓run_pExtract0, ↓run_pExtractS, ↓pJoin_eq, nth_zero, nth_cons, exitQ_normal, exitQ_exit, exitQ_ret, frOf_cons, ↓reduceIte, Nat.reduceEqDiff, loopPost_exit, loopPost_ret, pLen_str, pLen_isl, pLen_gsl, pLen_sl, pLen_nils, pLen_eml, pLen_array, pLen_slAV, pConv_int, pConv_str, pBox_true, pBox_false, pAlloc_eq, cells_agg, fits_agg, pNil_ptr, pNil_iptr, pNil_fn, pFieldAddr_ptr, pFieldAddr_iptr, pField_agg, pCells_zero, pCells_succ, pCells_some, Nat.reduceAdd, Nat.reduceLeDiff, Nat.le_refl, pLoad_iptr, pLoad_push, Nat.zero_add, Nat.add_zero, List.drop_zero, List.drop_succ_cons, List.length_cons, List.length_nil, List.take_succ_cons, List.take_zero, true_and, and_true, binA_int_eql, binA_int_neq, binA_int_lss, binA_int_leq, binA_int_gtr, binA_int_geq, binA_int_add, binA_int_sub, binA_int_mul, binA_int_and, binA_int_or, binA_int_xor, binA_str_eql, binA_str_neq, binA_bool_eql, binA_bool_neq, binA_ptr_eql_nil, binA_ptr_neq_nil, binA_iptr_eql_nil, binA_iptr_neq_nil, binA_nil_eql_nil, binA_nil_neq_nil, unA_not, unA_not_unkb, unA_neg, Bool.not_true, Bool.not_false, false_implies, true_implies, eq_self, z]
    first | exact ⟨rfl, k2⟩ | exact k2

end Go.Proofs.Ytppldbldpphlmaa
