/- Own texts, merged: PtsLessDoes. -/
import Derived.Test.YtopfjochppdnfaaDoorM8
set_option linter.unusedVariables false
set_option linter.unusedSimpArgs false
section
/- With one thing less done nothing more is meant. -/
set_option maxRecDepth 8000
set_option maxHeartbeats 2000000
namespace Go.Proofs.YtopfjochppdnfaaDoor
open Go.Abs
theorem flat_put {m r : Nat} (hr : r < m) (X : AV) : ∀ (L : List (List AV)) (k : Nat), (∀ e ∈ L, e.length = m) → k < L.length → L.flatten.set (k * m + r) X = (L.mapIdx fun i e => if i = k then e.set r X else e).flatten
  | [], k, _, h => by simp at h
  | e :: L, 0, hl, _ => by
    have he := hl e (by simp)
    rw [List.mapIdx_cons]
    have : (L.mapIdx fun i e => if i + 1 = 0 then e.set r X else e) = L := by
      apply List.ext_getElem?
      intro i
      rw [List.getElem?_mapIdx]
      cases L[i]? <;> simp
    rw [this]
    simp only [List.flatten_cons, if_true, Nat.zero_mul, Nat.zero_add]
    rw [List.set_append_left _ _ (by omega)]
  | e :: L, k + 1, hl, hk => by
    have he := hl e (by simp)
    have ih := flat_put hr X L k (fun e he => hl e (by simp [he])) (by simpa using hk)
    rw [List.mapIdx_cons]
    have e2 : (fun (i : Nat) (e : List AV) => if i + 1 = k + 1 then e.set r X else e) = fun i e => if i = k then e.set r X else e := by
      funext i e; simp
    rw [e2]
    simp only [List.flatten_cons]
    rw [← ih]
    have e3 : (if 0 = k + 1 then e.set r X else e) = e := by simp
    rw [e3, List.set_append_right _ _ (by rw [he, Nat.add_mul]; omega)]
    congr 2
    rw [he, Nat.add_mul]; omega
theorem FzE_mapIdx {id n sz m : Nat} {es : List (List AV)} : ∀ (L : List (List AV)) (f g : Nat → List AV → List AV), (∀ i e, e ∈ L → FzM id n sz es (f i e) (g i e)) → FzE id n sz es m (L.mapIdx f) (L.mapIdx g)
  | [], f, g, _ => FzE.nil m
  | e :: L, f, g, h => by
    rw [List.mapIdx_cons, List.mapIdx_cons]
    exact FzE.cons (h 0 e (by simp)) (FzE_mapIdx L (fun i => f (i + 1)) (fun i => g (i + 1)) (fun i e he => h (i + 1) e (by simp [he])))
theorem flat_lens {α : Type} (enc : α → List AV) (m : Nat) (h : ∀ x, (enc x).length = m) (l : List α) : (l.map enc).flatten.length = l.length * m := by
  induction l with
  | nil => simp
  | cons a l ih => simp only [List.map_cons, List.flatten_cons, List.length_append, ih, h, List.length_cons]; rw [Nat.add_mul]; omega
theorem ap_copy {α : Type} (enc : α → List AV) (T : SlT) (o : Option (List α)) (hne : slL o ≠ []) (hb : bounded T (slL o).length) (h : AHeap) (K : AV → AHeap → Prop) : pAppend false T .eml (slAV T.sz enc o) h K = K (.sl h.next 0 (slL o).length T.sz) (h.push (.row T.e ((slL o).map enc).flatten)) := by
  simp only [pAppend, srcElems_slAV]
  cases hT : slL o with
  | nil => exact absurd hT hne
  | cons x l =>
    have : bounded T ((x :: l).map enc).length := by rw [hT] at hb; simpa using hb
    simp only [List.map_cons] at this ⊢
    simp only [newSl, Bool.false_eq_true, if_false]
    rw [eq_true this, true_and]
    simp
theorem iAndNot_sub (a b : Nat) (h : ∀ i, a.testBit i = true → b.testBit i = true) : iAndNot .u64 (a : Int) (b : Int) = 0 := by
  unfold iAndNot
  have e : (BitVec.ofInt IntKind.u64.bits (a : Int) &&& ~~~ BitVec.ofInt IntKind.u64.bits (b : Int)) = 0#_ := by
    apply BitVec.eq_of_getLsbD_eq
    intro i hi
    rw [bv_nat, bv_nat]
    simp only [BitVec.getLsbD_and, BitVec.getLsbD_not, BitVec.getLsbD_ofNat, BitVec.getLsbD_zero]
    cases ha : a.testBit i with
    | false => simp
    | true => simp [h i ha]
  rw [e]
  rfl
def Sb (l m : List Nat) : Prop := l.length = m.length ∧ ∀ (i a b : Nat), l[i]? = some a → m[i]? = some b → ∀ k, a.testBit k = true → b.testBit k = true
theorem Sb.refl (l : List Nat) : Sb l l := ⟨rfl, fun i a b ha hb k h => by rw [ha] at hb; cases hb; exact h⟩
theorem Sb.append {l m l' m' : List Nat} (h : Sb l m) (h' : Sb l' m') : Sb (l ++ l') (m ++ m') := by
  refine ⟨by simp [h.1, h'.1], fun i a b ha hb => ?_⟩
  by_cases hi : i < l.length
  · rw [List.getElem?_append_left hi] at ha
    rw [List.getElem?_append_left (by have := h.1; omega)] at hb
    exact h.2 i a b ha hb
  · rw [List.getElem?_append_right (by omega)] at ha
    rw [List.getElem?_append_right (by have := h.1; omega), ← h.1] at hb
    exact h'.2 _ a b ha hb
theorem Sb.row {f g : Nat → Nat} (h : ∀ n i, (f n).testBit i = true → (g n).testBit i = true) (n : Nat) : Sb (rowL f n) (rowL g n) := by
  refine ⟨by simp [rowL_len], fun i a b ha hb => ?_⟩
  simp only [rowL, List.getElem?_map] at ha hb
  cases hr : (List.range n)[i]? with
  | none => rw [hr] at ha; cases ha
  | some y =>
    rw [hr] at ha hb
    simp only [Option.map_some, Option.some.injEq] at ha hb
    subst ha; subst hb
    exact h y
theorem Sb.parts {σ τ : Sg} {c : Cd} (h : Le σ τ) (m : Nat → Rw) : ∀ n, Sb ((List.range n).flatMap fun k => partL (σ (m k)) (lenR c (m k))) ((List.range n).flatMap fun k => partL (τ (m k)) (lenR c (m k)))
  | 0 => Sb.refl []
  | n + 1 => by
    simp only [List.range_succ, List.flatMap_append]
    refine (Sb.parts h m n).append ?_
    have := (Sb.refl [lenR c (m n)]).append (Sb.row (h (m n)) (lenR c (m n)))
    simpa [partL] using this
theorem flat_sub {σ τ : Sg} (c : Cd) (h : Le σ τ) : Sb (flatN c σ) (flatN c τ) :=
  (((Sb.refl _).append (Sb.row (h .g) _)).append (Sb.parts h (fun t => .s t) _)).append (Sb.parts h (fun t => .f t) _)
theorem flat_less (c : Cd) (t a : Nat) (σ : Sg) : flatN (lessC c t a) σ = flatN c σ := by
  have e : (slL (lessC c t a).Threads).length = (slL c.Threads).length := by simp [lessC]
  unfold flatN
  simp only [lessC_len, e]
  rfl
theorem less_tail {c : Cd} (hc : c.ok) (sm : Small c) (hok : okC c = true) {σ : Sg} {A : Rw → AV} {i1 i2 k j sid did thr : Nat} {b : Bd} {x : In} {H : AHeap} (S : SetsAt H c σ A) (a1 : Cl c σ) (a2 : Lw c σ) (a3 : Bd2 c σ) (a4 : Rg c σ)
    (hb : (slL c.Threads)[k]? = some b) (hx : (slL b.Code)[j]? = some x) (hop : x.Op = 1 ∨ x.Op = 5 ∨ x.Op = 6)
    (ho : H.objs sid = some (.row 29 (setsC c A i1 i2))) (hd : H.objs did = some (.row 44 (c.cells.set 2 (.sl thr 0 (slL c.Threads).length 3)))) (ht : H.objs thr = some (.row 51 ((slL c.Threads).map Api_Body.cells).flatten))
    (l1 : sid < H.next) (l2 : did < H.next) (l3 : thr < H.next) :
    padlocklaw11_PtsLessR_wp_p1 (fun v h2 => v = .bool true) (frOf [(1, .int .i64 k), (2, .int .i64 j), (3, .iptr c.cells)]) (.ptr sid 0) (.ptr did 0) H := by
  have wc := wf_of hok
  have hkl : k < (slL c.Threads).length := (List.getElem?_eq_some_iff.1 hb).1
  have hjl : j < (slL b.Code).length := (List.getElem?_eq_some_iff.1 hx).1
  have hcl := (wc.slo k b hb).2
  have hth := wc.thr
  have ned : did ≠ thr := by rintro rfl; rw [hd] at ht; simp at ht
  have ldd : ∀ {G : AHeap} (hG : G.objs did = some (.row 44 (c.cells.set 2 (.sl thr 0 (slL c.Threads).length 3)))) (K : AV → Prop), pLoad none (.ptr did 2) G K = K (.sl thr 0 (slL c.Threads).length 3) := fun hG K => by rw [pLoad_ptr hG]; simp [Api_Code.cells]
  have ixt : ∀ K : AV → Prop, pIndexAddr (.slice 3) (.sl thr 0 (slL c.Threads).length 3) (.int .i64 (k : Int)) K = K (.ptr thr (k * 3)) := fun K => by simp [pIndexAddr]; omega
  have ixc : ∀ K : AV → Prop, pIndexAddr (.slice 8) (.sl H.next 0 (slL b.Code).length 8) (.int .i64 (j : Int)) K = K (.ptr H.next (j * 8)) := fun K => by simp [pIndexAddr]; omega
  have b0 : ∀ (G : AHeap) (K : AV → AHeap → Prop), pBuildSl false { e := 58, sz := 8, by_ := 96 } [AV.int .i64 0, AV.int .i64 0, AV.int .i64 0, AV.int .i64 0, AV.int .i64 0, AV.int .i64 0, AV.nils, AV.nils] 0 [] G K = K .eml G := fun G K => rfl
  have hnc : slL b.Code ≠ [] := fun e => by rw [e] at hjl; simp at hjl
  have cp : ∀ (G : AHeap) (K : AV → AHeap → Prop), pAppend false { e := 58, sz := 8, by_ := 96 } .eml (slAV 8 Api_Instr.cells b.Code) G K = K (.sl G.next 0 (slL b.Code).length 8) (G.push (.row 58 ((slL b.Code).map Api_Instr.cells).flatten)) := fun G K => ap_copy Api_Instr.cells { e := 58, sz := 8, by_ := 96 } b.Code hnc (by simp [bounded, maxLen]; omega) G K
  have fB := flat_lens Api_Body.cells 3 (fun _ => rfl) (slL c.Threads)
  have fC := flat_lens Api_Instr.cells 8 (fun _ => rfl) (slL b.Code)
  unfold padlocklaw11_PtsLessR_wp_p1
  (repeat (first | simp -dsimp -implicitDefEqProofs (disch := omega) only [↓rP, rQ, rO, rL, ↓reduceIte, Nat.reduceEqDiff, Nat.reduceAdd, Nat.reduceLeDiff, pBuild, fillA, ↓tyr, ↓b0, ↓cp, ldd hd, pIndexAddr_slAV hb] | refine Cut.go ?_))
  obtain ⟨G1, hG1⟩ : ∃ G1, G1 = H.push (.row 58 ((slL b.Code).map Api_Instr.cells).flatten) := ⟨_, rfl⟩
  have d1 : G1.objs did = some (.row 44 (c.cells.set 2 (.sl thr 0 (slL c.Threads).length 3))) := by rw [hG1, push_old l2]; exact hd
  have t1 : G1.objs thr = some (.row 51 ((slL c.Threads).map Api_Body.cells).flatten) := by rw [hG1, push_old l3]; exact ht
  have s1 : G1.objs sid = some (.row 29 (setsC c A i1 i2)) := by rw [hG1, push_old l1]; exact ho
  have c1 : G1.objs H.next = some (.row 58 ((slL b.Code).map Api_Instr.cells).flatten) := by rw [hG1]; exact push_new _ _
  have S1 : SetsAt G1 c σ A := by rw [hG1]; exact S.keep (Keeps.one _ _) (fun _ _ _ h => h)
  have n1 : G1.next = H.next + 1 := by rw [hG1]; rfl
  rw [← hG1]
  (repeat (first | simp -dsimp -implicitDefEqProofs (disch := omega) only [↓rP, rQ, rO, rL, ↓reduceIte, Nat.reduceEqDiff, Nat.reduceAdd, Nat.reduceLeDiff, pBuild, fillA, ↓tyr, ldd d1, ixt] | refine Cut.go ?_))
  obtain ⟨RT, hRT⟩ : ∃ RT, RT = ((slL c.Threads).map Api_Body.cells).flatten.set (k * 3 + 1) (.sl H.next 0 (slL b.Code).length 8) := ⟨_, rfl⟩
  rw [pStore_ptr t1 rfl (by rw [fB]; omega), ← hRT]
  have lRT : RT.length = (slL c.Threads).length * 3 := by rw [hRT, List.length_set, fB]
  have gRT : RT[k * 3 + 1]? = some (.sl H.next 0 (slL b.Code).length 8) := by rw [hRT, List.getElem?_set_self (by rw [fB]; omega)]
  have nch : H.next ≠ thr := by omega
  obtain ⟨G2, hG2⟩ : ∃ G2, G2 = G1.put thr (.row 51 RT) := ⟨_, rfl⟩
  have d2 : G2.objs did = some (.row 44 (c.cells.set 2 (.sl thr 0 (slL c.Threads).length 3))) := by rw [hG2, put_old ned]; exact d1
  have t2 : G2.objs thr = some (.row 51 RT) := by rw [hG2]; exact put_new _ _ _
  have s2 : G2.objs sid = some (.row 29 (setsC c A i1 i2)) := by rw [hG2, put_old (by rintro rfl; rw [s1] at t1; simp at t1)]; exact s1
  have c2 : G2.objs H.next = some (.row 58 ((slL b.Code).map Api_Instr.cells).flatten) := by rw [hG2, put_old nch]; exact c1
  have S2 : SetsAt G2 c σ A := by
    rw [hG2]
    refine S1.keep (S := fun i => i = thr) ⟨Nat.le_refl _, fun i _ hi => put_old hi _⟩ (fun r id e h => ?_)
    subst h
    rcases S1.row r with ⟨e2, _⟩ | ⟨id2, e2, _, ho2⟩
    · rw [e] at e2; cases e2
    · rw [e] at e2; cases e2
      rw [t1] at ho2; simp at ho2
  have n2 : G2.next = H.next + 1 := by rw [hG2]; exact n1
  rw [← hG2]
  have lt2 : ∀ K : AV → Prop, pLoad none (.ptr thr (k * 3 + 1)) G2 K = K (.sl H.next 0 (slL b.Code).length 8) := fun K => by rw [pLoad_ptr t2]; simp [pCells, gRT]
  (repeat (first | simp -dsimp -implicitDefEqProofs (disch := omega) only [↓rP, rQ, rO, rL, ↓reduceIte, Nat.reduceEqDiff, Nat.reduceAdd, Nat.reduceLeDiff, pBuild, fillA, ↓tyr, ldd d2, ixt, lt2, bsl_one, ixc] | refine Cut.go ?_))
  obtain ⟨RC, hRC⟩ : ∃ RC, RC = ((slL b.Code).map Api_Instr.cells).flatten.set (j * 8 + 6) (.isl 3 [[.int .i64 1, .int .i64 0, .int .u64 0]]) := ⟨_, rfl⟩
  rw [pStore_ptr c2 rfl (by rw [fC]; omega), ← hRC]
  have lRC : RC.length = (slL b.Code).length * 8 := by rw [hRC, List.length_set, fC]
  obtain ⟨G3, hG3⟩ : ∃ G3, G3 = G2.put H.next (.row 58 RC) := ⟨_, rfl⟩
  have d3 : G3.objs did = some (.row 44 (c.cells.set 2 (.sl thr 0 (slL c.Threads).length 3))) := by rw [hG3, put_old (by omega)]; exact d2
  have t3 : G3.objs thr = some (.row 51 RT) := by rw [hG3, put_old (Ne.symm nch)]; exact t2
  have s3 : G3.objs sid = some (.row 29 (setsC c A i1 i2)) := by rw [hG3, put_old (by omega)]; exact s2
  have c3 : G3.objs H.next = some (.row 58 RC) := by rw [hG3]; exact put_new _ _ _
  have S3 : SetsAt G3 c σ A := by
    rw [hG3]
    refine S2.keep (S := fun i => i = H.next) ⟨Nat.le_refl _, fun i _ hi => put_old hi _⟩ (fun r id e h => ?_)
    have := S.old e
    omega
  have n3 : G3.next = H.next + 1 := by rw [hG3]; exact n2
  rw [← hG3]
  have l5 : ∀ K : AV → Prop, pLoad (some 5) (.ptr did 0) G3 K = K (.agg (c.cells.set 2 (.sl thr 0 (slL c.Threads).length 3))) := fun K => by rw [pLoad_ptr d3]; simp [Api_Code.cells]
  (repeat (first | simp -dsimp -implicitDefEqProofs (disch := omega) only [↓rP, rQ, rO, rL, ↓reduceIte, Nat.reduceEqDiff, Nat.reduceAdd, Nat.reduceLeDiff, pBuild, fillA, ↓tyr, ↓l5] | refine Cut.go ?_))
  -- both rows are read-only from here on
  obtain ⟨L3, hL3⟩ : ∃ L3, L3 = ((slL c.Threads).map Api_Body.cells).mapIdx fun i e => if i = k then e.set 1 (.sl H.next 0 (slL b.Code).length 8) else e := ⟨_, rfl⟩
  have eT : chunk 3 (slL c.Threads).length RT = L3 := by
    have h1 : RT = L3.flatten := by rw [hRT, hL3]; exact flat_put (m := 3) (r := 1) (by omega) _ _ k (fun e he => by obtain ⟨y, _, rfl⟩ := List.mem_map.1 he; rfl) (by simpa using hkl)
    have h2 : L3.length = (slL c.Threads).length := by rw [hL3]; simp
    rw [h1, ← h2]
    refine chunk_flat 3 L3 (fun e he => ?_)
    rw [hL3] at he
    obtain ⟨i, hi, rfl⟩ := List.mem_mapIdx.1 he
    split
    · rw [List.length_set]; simp [Api_Body.cells]
    · simp [Api_Body.cells]
  refine CallsA.freezeAny (bs := [.agg [slAV 1 (fun o => [slAV 3 Api_Local.cells o]) c.Records, slAV 3 Api_Local.cells c.Globals, .isl 3 (chunk 3 (slL c.Threads).length RT), slAV 3 Api_Site.cells c.Sites, slAV 3 Api_Section.cells c.Sections]]) t3 (by rw [lRT]; omega) (by omega) (FzL.cons (FzV.agg (FzL.cons (FzV.same _) (FzL.cons (FzV.same _) (FzL.cons FzV.here (FzL.same _))))) FzL.nil) ?_
  rw [eT]
  have c4 : (G3.kill thr).objs H.next = some (.row 58 RC) := by rw [kill_old nch]; exact c3
  obtain ⟨L4, hL4⟩ : ∃ L4, L4 = ((slL c.Threads).map Api_Body.cells).mapIdx fun i e => if i = k then e.set 1 (.isl 8 (chunk 8 (slL b.Code).length RC)) else e := ⟨_, rfl⟩
  refine CallsA.freezeAny (bs := [.agg [slAV 1 (fun o => [slAV 3 Api_Local.cells o]) c.Records, slAV 3 Api_Local.cells c.Globals, .isl 3 L4, slAV 3 Api_Site.cells c.Sites, slAV 3 Api_Section.cells c.Sections]]) (n := (slL b.Code).length) (sz := 8) c4 (by rw [lRC]; omega) (by omega) (FzL.cons (FzV.agg (FzL.cons (FzV.same _) (FzL.cons (FzV.same _) (FzL.cons (FzV.isl ?_) (FzL.same _))))) FzL.nil) ?_
  · rw [hL3, hL4]
    refine FzE_mapIdx _ _ _ (fun i e he => ?_)
    obtain ⟨y, _, rfl⟩ := List.mem_map.1 he
    by_cases e : i = k
    · simp only [e, if_true, Api_Body.cells, List.set_cons_succ, List.set_cons_zero]
      exact FzM.cons (FzV.same _) (FzM.cons FzV.here (FzM.same _))
    · simp only [if_neg e]
      exact FzM.same _
  have eC : chunk 8 (slL b.Code).length RC = (slL (lessB b j).Code).map Api_Instr.cells := by
    obtain ⟨L5, hL5⟩ : ∃ L5, L5 = ((slL b.Code).map Api_Instr.cells).mapIdx fun i e => if i = j then e.set 6 (.isl 3 [[.int .i64 1, .int .i64 0, .int .u64 0]]) else e := ⟨_, rfl⟩
    have h1 : RC = L5.flatten := by rw [hRC, hL5]; exact flat_put (m := 8) (r := 6) (by omega) _ _ j (fun e he => by obtain ⟨y, _, rfl⟩ := List.mem_map.1 he; rfl) (by simpa using hjl)
    have h2 : L5.length = (slL b.Code).length := by rw [hL5]; simp
    have h3 := chunk_flat 8 L5 (fun e he => by
      rw [hL5] at he
      obtain ⟨i, hi, rfl⟩ := List.mem_mapIdx.1 he
      split
      · rw [List.length_set]; simp [Api_Instr.cells]
      · simp [Api_Instr.cells])
    rw [h1, ← h2, h3, hL5]
    apply List.ext_getElem?
    intro i
    simp only [List.getElem?_mapIdx, List.getElem?_map, lessB, slL_some]
    cases (slL b.Code)[i]? with
    | none => rfl
    | some y =>
      simp only [Option.map_some]
      split <;> rfl
  have eL : L4 = (slL (lessC c k j).Threads).map Api_Body.cells := by
    rw [hL4]
    apply List.ext_getElem?
    intro i
    simp only [List.getElem?_mapIdx, List.getElem?_map, lessC, slL_some]
    cases hi : (slL c.Threads)[i]? with
    | none => rfl
    | some y =>
      simp only [Option.map_some]
      by_cases e : i = k
      · subst e
        rw [hb] at hi; cases hi
        simp only [if_true, eC]
        rfl
      · simp only [if_neg e]
  rw [eL]
  have okd : (lessC c k j).ok := by
    refine ⟨hc.1, hc.2.1, ⟨by simp [lessC, maxLen]; omega, fun b' hb' => ?_⟩, hc.2.2.2.1, hc.2.2.2.2⟩
    simp only [lessC, slL_some] at hb'
    obtain ⟨i, hi, rfl⟩ := List.mem_mapIdx.1 hb'
    have hob := hc.2.2.1.2 _ (List.getElem_mem hi)
    split
    · refine ⟨hob.1, ⟨by have := hob.2.1.1; simp [lessB, maxLen] at this ⊢; omega, fun x' hx' => ?_⟩, hob.2.2⟩
      simp only [lessB, slL_some] at hx'
      obtain ⟨i2, hi2, rfl⟩ := List.mem_mapIdx.1 hx'
      have hox := hob.2.1.2 _ (List.getElem_mem hi2)
      split
      · exact ⟨hox.1, hox.2.1, hox.2.2.1, hox.2.2.2.1, hox.2.2.2.2.1, hox.2.2.2.2.2.1, ⟨by simp [lessI, maxLen], by simp [lessI, Api_Item.ok, okI, okN]⟩, hox.2.2.2.2.2.2.2⟩
      · exact hox
    · exact hob
  have smd : Small (lessC c k j) := by
    refine ⟨sm.recs, sm.globs, by simp [lessC]; omega, sm.sites, sm.secs, sm.fields, ?_, ?_, ?_, ?_⟩
    all_goals
      intro b' hb'
      simp only [lessC, slL_some] at hb'
      obtain ⟨i, hi, rfl⟩ := List.mem_mapIdx.1 hb'
      have hm := List.getElem_mem hi
    · split
      · exact (sm.slots _ hm : (slL (slL c.Threads)[i].Slots).length ≤ 300)
      · exact sm.slots _ hm
    · split
      · simp only [lessB, slL_some, List.length_mapIdx]; exact sm.code _ hm
      · exact sm.code _ hm
    · intro x' hx'
      split at hx'
      · simp only [lessB, slL_some] at hx'
        obtain ⟨i2, hi2, rfl⟩ := List.mem_mapIdx.1 hx'
        split
        · simp [lessI]
        · exact sm.items _ hm _ (List.getElem_mem hi2)
      · exact sm.items _ hm _ hx'
    · intro x' hx'
      split at hx'
      · simp only [lessB, slL_some] at hx'
        obtain ⟨i2, hi2, rfl⟩ := List.mem_mapIdx.1 hx'
        split
        · exact (sm.index _ hm _ (List.getElem_mem hi2) : (slL ((slL (slL c.Threads)[i].Code)[i2]).Index).length ≤ 200)
        · exact sm.index _ hm _ (List.getElem_mem hi2)
      · exact sm.index _ hm _ hx'
  have hokd := less_ok hok hb hx hop
  obtain ⟨F, hF⟩ : ∃ F, F = (G3.kill thr).kill H.next := ⟨_, rfl⟩
  have SF1 : SetsAt (G3.kill thr) c σ A := by
    refine S3.keep (S := fun i => i = thr) ⟨Nat.le_refl _, fun i _ hi => kill_old hi⟩ (fun r id e h => ?_)
    subst h
    rcases S3.row r with ⟨e2, _⟩ | ⟨id2, e2, _, ho2⟩
    · rw [e] at e2; cases e2
    · rw [e] at e2; cases e2
      rw [t3] at ho2
      simp at ho2
  have SF : SetsAt F c σ A := by
    rw [hF]
    refine SF1.keep (S := fun i => i = H.next) ⟨Nat.le_refl _, fun i _ hi => kill_old hi⟩ (fun r id e h => ?_)
    have := S.old e; omega
  have sF : F.objs sid = some (.row 29 (setsC c A i1 i2)) := by
    rw [hF, kill_old (by omega), kill_old (by rintro rfl; rw [s3] at t3; simp at t3)]; exact s3
  have lF : sid < F.next := by rw [hF]; show sid < G3.next; omega
  rw [← hF]
  refine (Solve_does (lessC c k j) okd smd F).mono ?_
  rintro v K (⟨e1, _⟩ | ⟨e1, τ, B, j1, j2, rfl, T1, -, b1, b2, b3, b4, kK⟩)
  · rw [hokd] at e1; cases e1
  have hle : Le τ σ := b2 σ (less_cl hb hx hop a1)
  have hsub := flat_sub c hle
  rw [← flat_less c k j τ] at hsub
  have rs := wc.rs
  have rsd := (wf_of hokd).rs
  have sK : K.objs sid = some (.row 29 (setsC c A i1 i2)) := by rw [kK.objs _ lF (fun h => h)]; exact sF
  have lK : sid < K.next := Nat.lt_of_lt_of_le lF kK.next
  have SK := SF.keep kK (fun _ _ _ h => h)
  (repeat (first | simp -dsimp -implicitDefEqProofs (disch := omega) only [↓rP, rQ, rO, rL, ↓reduceIte, Nat.reduceEqDiff, Nat.reduceAdd, Nat.reduceLeDiff, pBuild, fillA, ↓tyr] | refine Cut.go ?_))
  rw [pStore_push (by rfl) (by rfl)]
  obtain ⟨K2, hK2⟩ : ∃ K2, K2 = K.push (.row 29 (setsC (lessC c k j) B j1 j2)) := ⟨_, rfl⟩
  have sK2 : K2.objs sid = some (.row 29 (setsC c A i1 i2)) := by rw [hK2, push_old lK]; exact sK
  have tK2 : K2.objs K.next = some (.row 29 (setsC (lessC c k j) B j1 j2)) := by rw [hK2]; exact push_new _ _
  have SK2 : SetsAt K2 c σ A := by rw [hK2]; exact SK.keep (Keeps.one _ _) (fun _ _ _ h => h)
  have TK2 : SetsAt K2 (lessC c k j) τ B := by rw [hK2]; exact T1.keep (Keeps.one _ _) (fun _ _ _ h => h)
  have nK2 : K2.next = K.next + 1 := by rw [hK2]; rfl
  rw [← hK2]
  have q1 : ∀ C : AV → Prop, pLoad (some 3) (.ptr sid 0) K2 C = C (.agg (setsC c A i1 i2)) := fun C => by rw [pLoad_ptr sK2]; exact setsC_all c A i1 i2 C
  have q2 : ∀ C : AV → Prop, pLoad (some 3) (.ptr K.next 0) K2 C = C (.agg (setsC (lessC c k j) B j1 j2)) := fun C => by rw [pLoad_ptr tK2]; exact setsC_all (lessC c k j) B j1 j2 C
  (repeat (first | simp -dsimp -implicitDefEqProofs (disch := omega) only [↓rP, rQ, rO, rL, ↓reduceIte, Nat.reduceEqDiff, Nat.reduceAdd, Nat.reduceLeDiff, pBuild, fillA, ↓tyr, ↓q1, ↓q2] | refine Cut.go ?_))
  refine (Flat_does SK2 rs i1 i2).mono ?_
  rintro _ K3 ⟨f1, rfl, f2, f3, f4, kp3⟩
  have tK3 : K3.objs K.next = some (.row 29 (setsC (lessC c k j) B j1 j2)) := by rw [kp3.objs _ (by omega) (fun h => h)]; exact tK2
  have q3 : ∀ C : AV → Prop, pLoad (some 3) (.ptr K.next 0) K3 C = C (.agg (setsC (lessC c k j) B j1 j2)) := fun C => by rw [pLoad_ptr tK3]; exact setsC_all (lessC c k j) B j1 j2 C
  (repeat (first | simp -dsimp -implicitDefEqProofs (disch := omega) only [↓rP, rQ, rO, rL, ↓reduceIte, Nat.reduceEqDiff, Nat.reduceAdd, Nat.reduceLeDiff, pBuild, fillA, ↓tyr, ↓q3] | refine Cut.go ?_))
  refine (Flat_does (TK2.keep kp3 (fun _ _ _ h => h)) rsd j1 j2).mono ?_
  rintro _ K4 ⟨g1, rfl, g2, g3, g4, kp4⟩
  have f5 : K4.objs f1 = some (.row 23 (nsU (flatN c σ))) := by rw [kp4.objs _ f3 (fun h => h)]; exact f4
  have fl := flat_len rs σ
  have fx : ∀ y ∈ flatN c σ, True := fun _ _ => trivial
  clear f4
  generalize flatN c σ = X at *
  generalize flatN (lessC c k j) τ = Y at *
  have dn : ((X.length : Int) != (Y.length : Int)) = false := by rw [hsub.1]; simp
  (repeat (first | simp -dsimp -implicitDefEqProofs (disch := omega) only [↓rP, rQ, rO, rL, ↓reduceIte, Nat.reduceEqDiff, Nat.reduceAdd, Nat.reduceLeDiff, pBuild, fillA, ↓tyr, dn] | refine Cut.go ?_))
  obtain ⟨I, hI⟩ : ∃ I : Nat → Fr → AHeap → Prop, I = (fun n fr hh => ∃ i : Nat, n = X.length - i ∧ i ≤ X.length ∧ hh = K4 ∧ fr = frOf [(11, .sl f1 0 X.length 1), (12, .sl g1 0 Y.length 1), (113, .int .i64 X.length), (114, .int .i64 i)]) := ⟨_, rfl⟩
  refine WP_loop mixed_ (by kernel_rfl) I X.length (by rw [hI]; exact ⟨0, rfl, Nat.zero_le _, rfl, rfl⟩) ?_
  intro n fr hh hi
  rw [hI] at hi
  obtain ⟨i, rfl, hil, rfl, rfl⟩ := hi
  apply padlocklaw11_PtsLessR_loop18
  (repeat (first | simp -dsimp -implicitDefEqProofs (disch := omega) only [↓rP, rQ, rO, rL, ↓reduceIte, Nat.reduceEqDiff, Nat.reduceAdd, Nat.reduceLeDiff, pBuild, fillA, ↓tyr] | refine Cut.go ?_))
  refine Split_lt (fun hlt => ?_) (fun hlt => ?_)
  · obtain ⟨u, hu⟩ : ∃ u, X[i]? = some u := ⟨_, List.getElem?_eq_getElem (by omega)⟩
    obtain ⟨v, hv⟩ : ∃ v, Y[i]? = some v := ⟨_, List.getElem?_eq_getElem (by have := hsub.1; omega)⟩
    have hz := iAndNot_sub v u (hsub.2 i v u hv hu)
    have an : binA CmpK.other BinOp.andNot (.int .u64 (v : Int)) (.int .u64 (u : Int)) = some (.int .u64 0) := by
      rw [← hz]; rfl
    have dz : ((0 : Int) != 0) = false := rfl
    (repeat (first | simp -dsimp -implicitDefEqProofs (disch := omega) only [↓rP, rQ, rO, rL, ↓reduceIte, Nat.reduceEqDiff, Nat.reduceAdd, Nat.reduceLeDiff, pBuild, fillA, ↓tyr, ix_sl (show i < X.length by omega), ix_sl (show i < Y.length by have := hsub.1; omega), ld_nsU f5 hu, ld_nsU g4 hv, an, dz, wkS i (by omega)] | refine Cut.go ?_))
    rw [loopPost_normal, hI]
    exact ⟨_, by omega, i + 1, rfl, by omega, rfl, rfl⟩
  · (repeat (first | simp -dsimp -implicitDefEqProofs (disch := omega) only [↓rP, rQ, rO, rL, ↓reduceIte, Nat.reduceEqDiff, Nat.reduceAdd, Nat.reduceLeDiff, pBuild, fillA, ↓tyr] | refine Cut.go ?_))
theorem PtsLess_does (c : Cd) (t a : Int) (hc : c.ok) (h : AHeap) : CallsA Tryd.prog 10 [.agg c.cells, .int .i64 t, .int .i64 a] h (fun v h2 => v = .bool true) := by
  have lc : ∀ (H : AHeap) (K : AV → Prop), pLoad (some 5) (.iptr c.cells) H K = K (.agg c.cells) := fun H K => by rw [pLoad_iptr]; exact Api_Code.call c K
  apply padlocklaw11_PtsLessR_wp
  (repeat (first | simp -dsimp -implicitDefEqProofs (disch := omega) only [↓rP, rQ, rO, rL, ↓reduceIte, Nat.reduceEqDiff, Nat.reduceAdd, Nat.reduceLeDiff, pBuild, fillA, ↓tyr, ↓lc] | refine Cut.go ?_))
  refine CallsA.go (alive11_does _) ?_
  (repeat (first | simp -dsimp -implicitDefEqProofs (disch := omega) only [↓rP, rQ, rO, rL, ↓reduceIte, Nat.reduceEqDiff, Nat.reduceAdd, Nat.reduceLeDiff, pBuild, fillA, ↓tyr, ↓lc] | refine Cut.go ?_))
  refine CallsA.go (ref_Great_does c hc _) ?_
  rcases hg : greatB c with _ | _
  rotate_left
  · (repeat (first | simp -dsimp -implicitDefEqProofs (disch := omega) only [↓rP, rQ, rO, rL, ↓reduceIte, Nat.reduceEqDiff, Nat.reduceAdd, Nat.reduceLeDiff, pBuild, fillA, ↓tyr] | refine Cut.go ?_))
  have sm := small_of hg
  (repeat (first | simp -dsimp -implicitDefEqProofs (disch := omega) only [↓rP, rQ, rO, rL, ↓reduceIte, Nat.reduceEqDiff, Nat.reduceAdd, Nat.reduceLeDiff, pBuild, fillA, ↓tyr, ↓lc] | refine Cut.go ?_))
  refine CallsA.go (ref_Good_c c hc sm _) ?_
  cases hok : okC c with
  | false => (repeat (first | simp -dsimp -implicitDefEqProofs (disch := omega) only [↓rP, rQ, rO, rL, ↓reduceIte, Nat.reduceEqDiff, Nat.reduceAdd, Nat.reduceLeDiff, pBuild, fillA, ↓tyr] | refine Cut.go ?_))
  | true =>
    have wc := wf_of hok
    have rs := wc.rs
    (repeat (first | simp -dsimp -implicitDefEqProofs (disch := omega) only [↓rP, rQ, rO, rL, ↓reduceIte, Nat.reduceEqDiff, Nat.reduceAdd, Nat.reduceLeDiff, pBuild, fillA, ↓tyr] | refine Cut.go ?_))
    refine Split_lt (fun h1 => ?_) (fun h1 => ?_)
    · (repeat (first | simp -dsimp -implicitDefEqProofs (disch := omega) only [↓rP, rQ, rO, rL, ↓reduceIte, Nat.reduceEqDiff, Nat.reduceAdd, Nat.reduceLeDiff, pBuild, fillA, ↓tyr] | refine Cut.go ?_))
    (repeat (first | simp -dsimp -implicitDefEqProofs (disch := omega) only [↓rP, rQ, rO, rL, ↓reduceIte, Nat.reduceEqDiff, Nat.reduceAdd, Nat.reduceLeDiff, pBuild, fillA, ↓tyr] | refine Cut.go ?_))
    refine Split_le (fun h2 => ?_) (fun h2 => ?_)
    · (repeat (first | simp -dsimp -implicitDefEqProofs (disch := omega) only [↓rP, rQ, rO, rL, ↓reduceIte, Nat.reduceEqDiff, Nat.reduceAdd, Nat.reduceLeDiff, pBuild, fillA, ↓tyr] | refine Cut.go ?_))
    (repeat (first | simp -dsimp -implicitDefEqProofs (disch := omega) only [↓rP, rQ, rO, rL, ↓reduceIte, Nat.reduceEqDiff, Nat.reduceAdd, Nat.reduceLeDiff, pBuild, fillA, ↓tyr] | refine Cut.go ?_))
    refine Split_lt (fun h3 => ?_) (fun h3 => ?_)
    · (repeat (first | simp -dsimp -implicitDefEqProofs (disch := omega) only [↓rP, rQ, rO, rL, ↓reduceIte, Nat.reduceEqDiff, Nat.reduceAdd, Nat.reduceLeDiff, pBuild, fillA, ↓tyr] | refine Cut.go ?_))
    obtain ⟨k, rfl⟩ : ∃ k : Nat, t = k := ⟨t.toNat, by omega⟩
    obtain ⟨b, hb⟩ : ∃ b, (slL c.Threads)[k]? = some b := ⟨_, List.getElem?_eq_getElem (by omega)⟩
    (repeat (first | simp -dsimp -implicitDefEqProofs (disch := omega) only [↓rP, rQ, rO, rL, ↓reduceIte, Nat.reduceEqDiff, Nat.reduceAdd, Nat.reduceLeDiff, pBuild, fillA, ↓tyr, pIndexAddr_slAV hb] | refine Cut.go ?_))
    refine Split_le (fun h4 => ?_) (fun h4 => ?_)
    · (repeat (first | simp -dsimp -implicitDefEqProofs (disch := omega) only [↓rP, rQ, rO, rL, ↓reduceIte, Nat.reduceEqDiff, Nat.reduceAdd, Nat.reduceLeDiff, pBuild, fillA, ↓tyr] | refine Cut.go ?_))
    obtain ⟨j, rfl⟩ : ∃ j : Nat, a = j := ⟨a.toNat, by omega⟩
    obtain ⟨x, hx⟩ : ∃ x, (slL b.Code)[j]? = some x := ⟨_, List.getElem?_eq_getElem (by omega)⟩
    by_cases hop : x.Op = 1 ∨ x.Op = 5 ∨ x.Op = 6
    rotate_left
    · have n1 : (x.Op != 1) = true := by rw [bneI, decide_eq_false (by omega)]; rfl
      have n5 : (x.Op != 5) = true := by rw [bneI, decide_eq_false (by omega)]; rfl
      have n6 : (x.Op != 6) = true := by rw [bneI, decide_eq_false (by omega)]; rfl
      (repeat (first | simp -dsimp -implicitDefEqProofs (disch := omega) only [↓rP, rQ, rO, rL, ↓reduceIte, Nat.reduceEqDiff, Nat.reduceAdd, Nat.reduceLeDiff, pBuild, fillA, ↓tyr, pIndexAddr_slAV hb, pIndexAddr_slAV hx, n1, n5, n6] | refine Cut.go ?_))
    have hth := wc.thr
    have hne : slL c.Threads ≠ [] := fun e => by rw [e] at hb; simp at hb
    have b0 : ∀ (G : AHeap) (K : AV → AHeap → Prop), pBuildSl false { e := 51, sz := 3, by_ := 56 } [AV.nils, AV.nils, AV.int .i64 0] 0 [] G K = K .eml G := fun G K => rfl
    have cp : ∀ (G : AHeap) (K : AV → AHeap → Prop), pAppend false { e := 51, sz := 3, by_ := 56 } .eml (slAV 3 Api_Body.cells c.Threads) G K = K (.sl G.next 0 (slL c.Threads).length 3) (G.push (.row 51 ((slL c.Threads).map Api_Body.cells).flatten)) := fun G K => ap_copy Api_Body.cells { e := 51, sz := 3, by_ := 56 } c.Threads hne (by simp [bounded, maxLen]; omega) G K
    -- the facts of the instruction's kind
    have hk : ∃ p1 p5 p6 : Bool, (x.Op != 1) = p1 ∧ (x.Op != 5) = p5 ∧ (x.Op != 6) = p6 ∧ ((p1 = false) ∨ (p1 = true ∧ p5 = false) ∨ (p1 = true ∧ p5 = true ∧ p6 = false)) := by
      refine ⟨_, _, _, rfl, rfl, rfl, ?_⟩
      rcases hop with e | e | e <;> simp [e]
    obtain ⟨p1, p5, p6, n1, n5, n6, hp⟩ := hk
    rcases hp with rfl | ⟨rfl, rfl⟩ | ⟨rfl, rfl, rfl⟩
    all_goals
      (repeat (first | simp -dsimp -implicitDefEqProofs (disch := omega) only [↓rP, rQ, rO, rL, ↓reduceIte, Nat.reduceEqDiff, Nat.reduceAdd, Nat.reduceLeDiff, pBuild, fillA, ↓tyr, pIndexAddr_slAV hb, pIndexAddr_slAV hx, n1, n5, n6, ↓lc] | refine Cut.go ?_))
      refine (Solve_does c hc sm _).mono ?_
      rintro v H0 (⟨e1, _⟩ | ⟨e1, σ, A, i1, i2, rfl, S1, -, a1, a2, a3, a4, k1⟩)
      · rw [hok] at e1; cases e1
      (repeat (first | simp -dsimp -implicitDefEqProofs (disch := omega) only [↓rP, rQ, rO, rL, ↓reduceIte, Nat.reduceEqDiff, Nat.reduceAdd, Nat.reduceLeDiff, pBuild, fillA, ↓tyr] | refine Cut.go ?_))
      rw [pStore_push (by rfl) (by rfl)]
      obtain ⟨H1, hH1⟩ : ∃ H1, H1 = H0.push (.row 29 (setsC c A i1 i2)) := ⟨_, rfl⟩
      have o1 : H1.objs H0.next = some (.row 29 (setsC c A i1 i2)) := by rw [hH1]; exact push_new _ _
      have nH1 : H1.next = H0.next + 1 := by rw [hH1]; rfl
      have S2 : SetsAt H1 c σ A := by rw [hH1]; exact S1.keep (Keeps.one _ _) (fun _ _ _ h => h)
      rw [← hH1]
      (repeat (first | simp -dsimp -implicitDefEqProofs (disch := omega) only [↓rP, rQ, rO, rL, ↓reduceIte, Nat.reduceEqDiff, Nat.reduceAdd, Nat.reduceLeDiff, pBuild, fillA, ↓tyr, ↓lc, ↓b0, ↓cp] | refine Cut.go ?_))
      have e2 : (H1.push (.row 44 c.cells)).next = H1.next + 1 := rfl
      rw [e2]
      obtain ⟨H3, hH3⟩ : ∃ H3, H3 = (H1.push (.row 44 c.cells)).push (.row 51 ((slL c.Threads).map Api_Body.cells).flatten) := ⟨_, rfl⟩
      have d3 : H3.objs H1.next = some (.row 44 c.cells) := by rw [hH3, push_old (by simp), push_new]
      have t3 : H3.objs (H1.next + 1) = some (.row 51 ((slL c.Threads).map Api_Body.cells).flatten) := by rw [hH3]; exact push_new _ _
      have s3 : H3.objs H0.next = some (.row 29 (setsC c A i1 i2)) := by rw [hH3, push_old (by simp; omega), push_old (by omega)]; exact o1
      have n3 : H3.next = H1.next + 2 := by rw [hH3]; rfl
      have S3 : SetsAt H3 c σ A := by rw [hH3]; exact (S2.keep (Keeps.one _ _) (fun _ _ _ h => h)).keep (Keeps.one _ _) (fun _ _ _ h => h)
      rw [← hH3, pStore_ptr d3 rfl (by simp [Api_Code.cells])]
      (repeat (first | simp -dsimp -implicitDefEqProofs (disch := omega) only [↓rP, rQ, rO, rL, ↓reduceIte, Nat.reduceEqDiff, Nat.reduceAdd, Nat.reduceLeDiff, pBuild, fillA, ↓tyr] | refine Cut.go ?_))
      have S4 : SetsAt (H3.put H1.next (.row 44 (c.cells.set 2 (.sl (H1.next + 1) 0 (slL c.Threads).length 3)))) c σ A := by
        refine S3.keep (S := fun i => i = H1.next) ⟨Nat.le_refl _, fun i _ hi => put_old hi _⟩ (fun r id e h => ?_)
        have := S2.old e
        omega
      exact less_tail (sid := H0.next) (did := H1.next) (thr := H1.next + 1) hc sm hok S4 a1 a2 a3 a4 hb hx hop (by rw [put_old (by omega)]; exact s3) (put_new _ _ _) (by rw [put_old (by omega)]; exact t3) (by simp; omega) (by simp; omega) (by simp; omega)
end Go.Proofs.YtopfjochppdnfaaDoor
end

