/- HeapOwn: two heaps, one of a thread's own doings alone. -/
import Derived.Test.YtpoeoekoafpdhaaHeapD
set_option linter.unusedVariables false
set_option linter.unusedSimpArgs false
set_option maxRecDepth 8000
namespace Go.Proofs.Ytpoeoekoafpdhaa
open Go.Abs

theorem makeRW_len {W V : St} {th c : Int} (hs : 0 ≤ th → th < 4 → (W th.toNat).length = (V th.toNat).length) : makeRW W th c = makeRW V th c := by
  unfold makeRW
  by_cases h0 : th < 0
  · simp [h0]
  · by_cases h4 : 4 ≤ th
    · simp [h4]
    · rw [hs (by omega) (by omega)]
theorem makeRW_inr {W : St} {th c : Int} {k : Nat} (h : makeRW W th c = .inr k) : 0 ≤ th ∧ th < 4 ∧ k = th.toNat ∧ (W k).length < 16 ∧ 0 ≤ c ∧ c ≤ 16 := by
  unfold makeRW at h
  split at h
  · cases h
  · rename_i h1
    split at h
    · cases h
    · rename_i h2
      cases h
      refine ⟨by omega, by omega, rfl, by omega, by omega, by omega⟩
theorem makeV_len {W V : St} {th c : Int} (hs : 0 ≤ th → th < 4 → (W th.toNat).length = (V th.toNat).length) : makeV W th c = makeV V th c := by
  unfold makeV
  rw [makeRW_len hs]
  cases hr : makeRW V th c with
  | inl e => rfl
  | inr k =>
    obtain ⟨h1, h2, rfl, -⟩ := makeRW_inr hr
    simp only [hs h1 h2]
/-- Lengths behind a making. -/
theorem makeW_len (W : St) (th s cl c : Int) (j : Nat) : (makeW W th s cl c j).length = (W j).length + (match makeRW W th c with | .inr k => if j = k then 1 else 0 | .inl _ => 0) := by
  unfold makeW
  cases makeRW W th c with
  | inl e => rfl
  | inr k =>
    simp only [setL]
    split
    · rename_i e; subst e; simp
    · simp
theorem makeW_other {W : St} {th s cl c : Int} {j : Int} (hj : 0 ≤ j) (hne : th ≠ j) : makeW W th s cl c j.toNat = W j.toNat := by
  unfold makeW
  cases hr : makeRW W th c with
  | inl e => rfl
  | inr k =>
    obtain ⟨h1, h2, rfl, -⟩ := makeRW_inr hr
    simp only [setL]
    rw [if_neg]
    omega

theorem own_loop (th : Int) (o : Option (List Law17_Call)) (hl : (slL o).length ≤ 200) (ia ib : Nat) (h : AHeap) (Fa Fb : Nat → Prop) (Ga Gb : AV) (pa : HpW h Fa ia st0 Ga) (pb : HpW h Fb ib st0 Gb) (hd : ∀ x, Fa x → ¬ Fb x) (Q : AExit → Fr → AHeap → Prop)
    (hQ : ∀ h2 Fa Fb Wa Wb, HpW h2 Fa ia Wa Ga → HpW h2 Fb ib Wb Gb → madeW Wa th = madeW Wb th → Q (.exit 0) (frOf [(1, .int .i64 th), (5, .ptr ia 0), (6, .ptr ib 0)]) h2) :
    WP Try.prog 72 (Code.loop c_padlocklaw17_HeapOwn_7) (frOf [(1, .int .i64 th), (5, .ptr ia 0), (6, .ptr ib 0), (20, slAV 7 Law17_Call.cells o), (21, .int .i64 ((slL o).length : Nat)), (22, .int .i64 0)]) h Q := by
  refine WP_loop mixed_ (by kernel_rfl) (fun m fr hh => ∃ (j : Nat) (Fa Fb : Nat → Prop) (Wa Wb : St), j ≤ (slL o).length ∧ m = (slL o).length - j ∧ fr = frOf [(1, .int .i64 th), (5, .ptr ia 0), (6, .ptr ib 0), (20, slAV 7 Law17_Call.cells o), (21, .int .i64 ((slL o).length : Nat)), (22, .int .i64 (j : Nat))] ∧
      HpW hh Fa ia Wa Ga ∧ HpW hh Fb ib Wb Gb ∧ (∀ x, Fa x → ¬ Fb x) ∧ (0 ≤ th → th < 4 → (Wa th.toNat).length = (Wb th.toNat).length)) (slL o).length ⟨0, Fa, Fb, st0, st0, by omega, by omega, rfl, pa, pb, hd, fun _ _ => rfl⟩ ?_
  rintro m fr hh ⟨j, Fa, Fb, Wa, Wb, hj, rfl, rfl, pa, pb, hd, hs⟩
  apply padlocklaw17_HeapOwn_loop7
  try simp only [Go.Abs.later]
  generalize hI : (fun (m : Nat) (fr : Fr) (hh : AHeap) => _) = I
  by_cases hjl : j < (slL o).length
  · have hdj : decide ((j : Int) < ((slL o).length : Int)) = true := by simp; omega
    obtain ⟨x, hx⟩ : ∃ x, (slL o)[j]? = some x := ⟨(slL o)[j], by simp [hjl]⟩
    simp only [binA_int_lss, hdj, obind_some, pCond_bool, if_true, pIndexAddr_slAV hx, pLoad_iptr, pCells_some, Law17_Call.cells, List.length_cons, List.length_nil, List.drop_zero, List.take_succ_cons, List.take_zero, pAlloc_eq]
    refine ⟨by omega, ?_⟩
    rw [pStore_push (by simp) (by simp)]
    generalize hloc : ([AV.int IntKind.i64 x.Kind, AV.int IntKind.i64 x.Thread, AV.int IntKind.i64 x.Site, AV.int IntKind.i64 x.Class, AV.int IntKind.i64 x.N, AV.int IntKind.u64 ((x.Ref : Nat) : Int), AV.int IntKind.u64 ((x.V : Nat) : Int)] : List AV) = loc
    have hl1 : loc[1]? = some (.int .i64 x.Thread) := by rw [← hloc]; rfl
    have hl2 : loc[2]? = some (.int .i64 x.Site) := by rw [← hloc]; rfl
    have hl3 : loc[3]? = some (.int .i64 x.Class) := by rw [← hloc]; rfl
    have hl4 : loc[4]? = some (.int .i64 x.N) := by rw [← hloc]; rfl
    simp only [pFieldAddr_ptr, Nat.zero_add, pLoad_push, pCells_none_some hl1, pCells_none_some hl2, pCells_none_some hl3, pCells_none_some hl4]
    have pa1 := pa.push (.row 37 loc)
    have pb1 := pb.push (.row 37 loc)
    refine (heap_Make_W pa1 x.Thread x.Site x.Class x.N).mono ?_
    rintro _ h3 ⟨rfl, Fa2, pa2, k2, hF2⟩
    have hloc3 : h3.objs hh.next = some (.row 37 loc) := by
      rw [k2.objs hh.next (by simp) (fun hx => by have := pa.lt _ hx; omega)]; simp
    have hn3 := k2.next
    simp only [AHeap.push_next] at hn3
    have pb2 := pb1.keeps k2 (fun y hy hy2 => hd y hy2 hy)
    have hd2 : ∀ y, Fa2 y → ¬ Fb y := fun y hy hy2 => by
      rcases hF2 y hy with h1 | h1
      · exact hd y h1 hy2
      · have := pb.lt _ hy2; simp at h1; omega
    have ex : ∃ a b, makeV Wa x.Thread x.N = .tup [.int .u64 a, .int .i64 b] := by
      unfold makeV; split <;> exact ⟨_, _, rfl⟩
    obtain ⟨ra, rb, hr⟩ := ex
    rw [hr]
    have hw : IntKind.i64.wrap ((j : Int) + 1) = ((j + 1 : Nat) : Int) := by rw [wrap_i64 (by omega)]; omega
    simp only [pExtract_tup, List.getElem?_cons_zero, List.getElem?_cons_succ, pFieldAddr_ptr, Nat.zero_add, pLoad_ptr hloc3, pCells_none_some hl1, pCells_none_some hl2, pCells_none_some hl3, pCells_none_some hl4, binA_int_neq, obind_some, pCond_bool, pIdx_same]
    by_cases ht : x.Thread = th
    · have e : (x.Thread != th) = false := by simp [ht]
      simp only [e, Bool.false_eq_true, if_false]
      refine (heap_Make_W pb2 x.Thread x.Site x.Class x.N).mono ?_
      rintro _ h4 ⟨rfl, Fb3, pb3, k3, hF3⟩
      rw [← makeV_len (W := Wa) (by rw [ht]; exact hs), hr]
      simp only [pExtract_tup, List.getElem?_cons_zero, List.getElem?_cons_succ, bne_self_eq_false, pJoin_eq, pGuard_bool, if_true, binA_int_neq, obind_some, nth_zero, nth_cons, pPick_false, pCond_bool, Bool.false_eq_true, if_false, binA_int_add, hw]
      rw [loopPost_normal, ← hI]
      refine ⟨_, ?_, j + 1, Fa2, Fb3, _, _, by omega, rfl, rfl, pa2.keeps k3 (fun y hy => hd2 y hy), pb3, fun y hy hy2 => ?_, fun h1 h2 => ?_⟩
      · omega
      · rcases hF3 y hy2 with h1 | h1
        · exact hd2 y hy h1
        · have := pa2.lt _ hy; omega
      · rw [makeW_len, makeW_len, hs h1 h2, ht, makeRW_len hs]
    · have e : (x.Thread != th) = true := by simp [ht]
      simp only [e, if_true, binA_int_add, obind_some, hw]
      rw [loopPost_normal, ← hI]
      refine ⟨_, ?_, j + 1, Fa2, Fb, _, _, by omega, rfl, rfl, pa2, pb2, hd2, fun h1 h2 => ?_⟩
      · omega
      · rw [makeW_other h1 ht]; exact hs h1 h2
  · have hdj : decide ((j : Int) < ((slL o).length : Int)) = false := by simp; omega
    simp only [binA_int_lss, hdj, obind_some, pCond_bool, Bool.false_eq_true, if_false]
    rw [loopPost_exit]
    refine hQ hh Fa Fb Wa Wb pa pb ?_
    unfold madeW
    split
    · rfl
    · exact hs (by omega) (by omega)

theorem HeapOwn_does (o : Option (List Law17_Call)) (th : Int) (h : AHeap) : CallsA Try.prog 4 [slAV 7 Law17_Call.cells o, .int .i64 th] h (fun v _ => v = .bool true) := by
  apply padlocklaw17_HeapOwn_wp
  try simp only [Go.Abs.later]
  refine (heap_alive_does h).mono ?_
  rintro _ h2 ⟨rfl, k2⟩
  simp only [unA_not, obind_some, Bool.not_true, pCond_bool, Bool.false_eq_true, if_false, pLen_slAV, binA_int_gtr]
  by_cases hl : (slL o).length ≤ 200
  · have hd : decide ((200 : Int) < ((slL o).length : Int)) = false := by simp; omega
    simp only [hd, Bool.false_eq_true, if_false]
    refine (heap_New_W 1 (by omega) h2).mono ?_
    rintro _ h3 ⟨ia, Fa, Ga, rfl, pa, hFa, k3⟩
    refine (heap_New_W 1 (by omega) h3).mono ?_
    rintro _ h4 ⟨ib, Fb, Gb, rfl, pb, hFb, k4⟩
    refine own_loop th o hl ia ib h4 Fa Fb Ga Gb (pa.keeps k4 (fun _ _ h => h)) pb (fun x hx hx2 => ?_) _ ?_
    · have := pa.lt x hx; have := hFb x hx2; omega
    · intro h5 Fa Fb Wa Wb pa pb hm
      simp
      refine (heap_Made_W pa th).mono ?_
      rintro _ h6 ⟨rfl, rfl⟩
      refine (heap_Made_W pb th).mono ?_
      rintro _ h7 ⟨rfl, rfl⟩
      simp [hm]
  · have hd : decide ((200 : Int) < ((slL o).length : Int)) = true := by simp; omega
    simp only [hd, if_true]

end Go.Proofs.Ytpoeoekoafpdhaa
