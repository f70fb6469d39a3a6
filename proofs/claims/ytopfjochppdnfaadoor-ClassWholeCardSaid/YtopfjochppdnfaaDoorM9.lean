/- Own texts, merged: ClassWholeDoes. -/
import Derived.Test.YtopfjochppdnfaaDoorM8
set_option linter.unusedVariables false
set_option linter.unusedSimpArgs false
section
/- All sites that something may mean are of one class. -/
set_option maxRecDepth 8000
set_option maxHeartbeats 1000000
namespace Go.Proofs.YtopfjochppdnfaaDoor
open Go.Abs
/-! Sets that a value holds -/
theorem mem_setsV {c : Cd} {σ : Sg} {N : Rw → Bool} {x : Nat} (h : x ∈ setsOf (setsV c σ N)) : ∃ r n, x = σ r n := by
  have key : ∀ (r : Rw), x ∈ slL (rowO c σ N r) → ∃ r n, x = σ r n := fun r h => by
    unfold rowO at h
    split at h
    · cases h
    · simp only [slL_some, List.mem_map] at h
      obtain ⟨n, _, rfl⟩ := h
      exact ⟨r, n, rfl⟩
  have key2 : ∀ (n : Nat) (f : Nat → Rw), (∃ o ∈ slL (rowsO n fun k => rowO c σ N (f k)), x ∈ slL o) → ∃ r n, x = σ r n := fun n f ⟨o, h1, h2⟩ => by
    unfold rowsO at h1
    split at h1
    · cases h1
    · simp only [slL_some, List.mem_map] at h1
      obtain ⟨k, _, rfl⟩ := h1
      exact key _ h2
  simp only [setsOf, setsIn, rowsOf, List.mem_flatMap, List.mem_cons, List.mem_append] at h
  obtain ⟨o, (rfl | h1 | h1), h2⟩ := h
  · exact key _ h2
  · exact key2 _ _ ⟨o, h1, h2⟩
  · exact key2 _ _ ⟨o, h1, h2⟩
theorem len_rows {c : Cd} (sm : Small c) {σ : Sg} {N : Rw → Bool} {o : Option (List Nat)} (h : o ∈ rowsOf (setsV c σ N)) : (slL o).length ≤ 100000 := by
  have key : ∀ (r : Rw), (slL (rowO c σ N r)).length ≤ 100000 := fun r => by
    unfold rowO
    split
    · simp
    · have := lenR_le sm r; simp; omega
  have key2 : ∀ (n : Nat) (f : Nat → Rw), o ∈ slL (rowsO n fun k => rowO c σ N (f k)) → (slL o).length ≤ 100000 := fun n f h1 => by
    unfold rowsO at h1
    split at h1
    · cases h1
    · simp only [slL_some, List.mem_map] at h1
      obtain ⟨k, _, rfl⟩ := h1
      exact key _
  simp only [rowsOf, List.mem_cons, List.mem_append] at h
  rcases h with rfl | h1 | h1
  · exact key _
  · exact key2 _ _ h1
  · exact key2 _ _ h1
theorem rowsO_len (n : Nat) (f : Nat → Option (List Nat)) : (slL (rowsO n f)).length = n := by
  unfold rowsO
  split
  · rename_i e; simp [e]
  · simp
/-! Classes -/
theorem cls_pos (f : List Nat) (k : Nat) : 1 ≤ clsOf f k := by unfold clsOf; omega
theorem cls_max (f : List Nat) (k : Nat) : clsOf f k ≤ leadsB f k + 1 ∧ max (leadsB f k) (clsOf f k) = leadsB f (k + 1) := by
  unfold clsOf
  by_cases e : root f k = k
  · rw [leadsB_succ, if_pos e, e]; omega
  · have h1 : root f k < k := Nat.lt_of_le_of_ne (root_le k) e
    have h2 := leadsB_mono f (show root f k + 1 ≤ k by omega)
    rw [leadsB_succ, if_pos (root_root k)] at h2
    rw [leadsB_succ, if_neg e]; omega
theorem cls_at {n : Nat} {f : List Nat} {S : List Nat} (hf : Says f (prsOf S)) {x : Nat} (hx : x ∈ S) (hb : ∀ k ∈ bitsOf x, k < n) (h64 : n ≤ 64) {k : Nat} (hk : k < n) (hxk : x.testBit k = true) : ((List.range n).map (clsOf f)).getD (firstB x) 0 = clsOf f k := by
  have hm : k ∈ bitsOf x := mem_bits.2 ⟨by omega, hxk⟩
  have hfb := hb _ (firstB_mem hm)
  have e : root f (firstB x) = root f k := (hf.2 _ _).2 (Conn.one (Or.inl (by
    simp only [prsOf, List.mem_flatten, List.mem_map]
    exact ⟨_, ⟨x, hx, rfl⟩, List.mem_map.2 ⟨k, hm, rfl⟩⟩)))
  rw [List.getD_eq_getElem?_getD, List.getElem?_map, List.getElem?_range hfb]
  simpa using clsOf_eq.2 e
/-! The walk -/
theorem whole_11 {f : List Nat} {n id : Nat} {h : AHeap} (hn : n ≤ 1000) (ho : h.objs id = some (.row 3 (nsAV ((List.range n).map (clsOf f))))) (A3 : AV) (Q : AExit → Fr → AHeap → Prop) (hQ : Q (.exit 0) (frOf [(3, A3), (4, .sl id 0 n 1)]) h) :
    WP Tryd.prog 94 (.loop c_padlocklaw12_ClassWhole_11) (frOf [(3, A3), (4, .sl id 0 n 1), (5, .int .i64 0), (35, .sl id 0 n 1), (36, .int .i64 n), (37, .int .i64 0)]) h Q := by
  obtain ⟨I, hI⟩ : ∃ I : Nat → Fr → AHeap → Prop, I = (fun m fr hh => ∃ k : Nat, m = n - k ∧ k ≤ n ∧ hh = h ∧ fr = frOf [(3, A3), (4, .sl id 0 n 1), (5, .int .i64 (leadsB f k : Nat)), (35, .sl id 0 n 1), (36, .int .i64 n), (37, .int .i64 k)]) := ⟨_, rfl⟩
  refine WP_loop mixed_ (by kernel_rfl) I n (by rw [hI]; exact ⟨0, rfl, Nat.zero_le _, rfl, rfl⟩) ?_
  intro m fr hh hi
  rw [hI] at hi
  obtain ⟨k, rfl, hk, rfl, rfl⟩ := hi
  apply padlocklaw12_ClassWhole_loop11
  (repeat simp -dsimp -implicitDefEqProofs (disch := omega) only [↓rP, rQ, rO, rL, ↓reduceIte, Nat.reduceEqDiff, Nat.reduceAdd, Nat.reduceLeDiff, pBuild, fillA, ↓tyr])
  refine Split_lt (fun hkl => ?_) (fun hkl => ?_)
  · have hkn : k < n := by omega
    have hg : ((List.range n).map (clsOf f))[k]? = some (clsOf f k) := by rw [List.getElem?_map, List.getElem?_range hkn]; rfl
    obtain ⟨hm, he⟩ := cls_max f k
    have hp := cls_pos f k
    have hl : leadsB f k ≤ 1000 := by
      have : leadsB f k ≤ (List.range k).length := List.countP_le_length
      simp at this; omega
    have d1 : decide (((clsOf f k : Nat) : Int) < 1) = false := by simp; omega
    have d2 : decide ((((leadsB f k + 1 : Nat) : Int)) < ((clsOf f k : Nat) : Int)) = false := by simp; omega
    have d2' : decide (((clsOf f k : Nat) : Int) > ((leadsB f k + 1 : Nat) : Int)) = false := by simp; omega
    have hM : max ((leadsB f k : Nat) : Int) ((clsOf f k : Nat) : Int) = ((leadsB f (k + 1) : Nat) : Int) := by omega
    (repeat simp -dsimp -implicitDefEqProofs (disch := omega) only [↓rP, rQ, rO, rL, ↓reduceIte, Nat.reduceEqDiff, Nat.reduceAdd, Nat.reduceLeDiff, pBuild, fillA, ↓tyr, ix_ns hkn, ld_ns ho hg, d1, wk1 (leadsB f k) (by omega), d2, d2'])
    rw [maxA_two, hM]
    (repeat simp -dsimp -implicitDefEqProofs (disch := omega) only [↓rP, rQ, rO, rL, ↓reduceIte, Nat.reduceEqDiff, Nat.reduceAdd, Nat.reduceLeDiff, pBuild, fillA, ↓tyr, wk1 k (by omega)])
    rw [loopPost_normal, hI]
    exact ⟨_, by omega, k + 1, rfl, by omega, rfl, rfl⟩
  · (repeat simp -dsimp -implicitDefEqProofs (disch := omega) only [↓rP, rQ, rO, rL, ↓reduceIte, Nat.reduceEqDiff, Nat.reduceAdd, Nat.reduceLeDiff, pBuild, fillA, ↓tyr])
    exact hQ
theorem whole_24 {x n id : Nat} {out : List Nat} {h : AHeap} (hx : x < 18446744073709551616) (hn : out.length = n) (hl : n ≤ 1000) (ho : h.objs id = some (.row 3 (nsAV out))) (hq : ∀ k v, out[k]? = some v → x.testBit k = true → out.getD (firstB x) 0 = v) (A61 A62 A63 A67 A68 A69 : AV) (Q : AExit → Fr → AHeap → Prop)
    (hQ : Q (.exit 6) (frOf [(4, .sl id 0 n 1), (61, A61), (62, A62), (63, A63), (67, A67), (68, A68), (69, A69)]) h) :
    WP Tryd.prog 94 (.loop c_padlocklaw12_ClassWhole_24) (frOf [(4, .sl id 0 n 1), (11, .int .u64 x), (61, A61), (62, A62), (63, A63), (67, A67), (68, A68), (69, A69), (74, .int .i64 n), (75, .int .i64 0)]) h Q := by
  obtain ⟨I, hI⟩ : ∃ I : Nat → Fr → AHeap → Prop, I = (fun m fr hh => ∃ k : Nat, m = n - k ∧ k ≤ n ∧ hh = h ∧ fr = frOf [(4, .sl id 0 n 1), (11, .int .u64 x), (61, A61), (62, A62), (63, A63), (67, A67), (68, A68), (69, A69), (74, .int .i64 n), (75, .int .i64 k)]) := ⟨_, rfl⟩
  refine WP_loop mixed_ (by kernel_rfl) I n (by rw [hI]; exact ⟨0, rfl, Nat.zero_le _, rfl, rfl⟩) ?_
  intro m fr hh hi
  rw [hI] at hi
  obtain ⟨k, rfl, hk, rfl, rfl⟩ := hi
  apply padlocklaw12_ClassWhole_loop24
  (repeat simp -dsimp -implicitDefEqProofs (disch := omega) only [↓rP, rQ, rO, rL, ↓reduceIte, Nat.reduceEqDiff, Nat.reduceAdd, Nat.reduceLeDiff, pBuild, fillA, ↓tyr])
  refine Split_lt (fun hkl => ?_) (fun hkl => ?_)
  · have hkn : k < n := by omega
    obtain ⟨v, hg⟩ : ∃ v, out[k]? = some v := ⟨_, List.getElem?_eq_getElem (by omega)⟩
    (repeat simp -dsimp -implicitDefEqProofs (disch := omega) only [↓rP, rQ, rO, rL, ↓reduceIte, Nat.reduceEqDiff, Nat.reduceAdd, Nat.reduceLeDiff, pBuild, fillA, ↓tyr])
    refine CallsA.go (has_does x hx k (by omega) _) ?_
    rcases hb : x.testBit k with _ | _
    · (repeat simp -dsimp -implicitDefEqProofs (disch := omega) only [↓rP, rQ, rO, rL, ↓reduceIte, Nat.reduceEqDiff, Nat.reduceAdd, Nat.reduceLeDiff, pBuild, fillA, ↓tyr, wk1 k (by omega)])
      rw [loopPost_normal, hI]
      exact ⟨_, by omega, k + 1, rfl, by omega, rfl, rfl⟩
    · have e := hq k v hg hb
      have d : (((v : Nat) : Int) != ((v : Nat) : Int)) = false := by simp
      (repeat simp -dsimp -implicitDefEqProofs (disch := omega) only [↓rP, rQ, rO, rL, ↓reduceIte, Nat.reduceEqDiff, Nat.reduceAdd, Nat.reduceLeDiff, pBuild, fillA, ↓tyr, ix_ns hkn, ld_ns ho hg])
      have od := of_does x hx (by omega) ho
      rw [hn, e] at od
      refine CallsA.go od ?_
      (repeat simp -dsimp -implicitDefEqProofs (disch := omega) only [↓rP, rQ, rO, rL, ↓reduceIte, Nat.reduceEqDiff, Nat.reduceAdd, Nat.reduceLeDiff, pBuild, fillA, ↓tyr, ix_ns hkn, ld_ns ho hg, d, wk1 k (by omega)])
      rw [loopPost_normal, hI]
      exact ⟨_, by omega, k + 1, rfl, by omega, rfl, rfl⟩
  · (repeat simp -dsimp -implicitDefEqProofs (disch := omega) only [↓rP, rQ, rO, rL, ↓reduceIte, Nat.reduceEqDiff, Nat.reduceAdd, Nat.reduceLeDiff, pBuild, fillA, ↓tyr])
    exact hQ
theorem whole_21 {n id : Nat} {out : List Nat} {h : AHeap} (hn : out.length = n) (hl : n ≤ 1000) (ho : h.objs id = some (.row 3 (nsAV out))) (o : Option (List Nat)) (hol : (slL o).length ≤ 100000) (hx : ∀ x ∈ slL o, x < 18446744073709551616 ∧ ∀ k v, out[k]? = some v → x.testBit k = true → out.getD (firstB x) 0 = v) (A61 A62 A63 : AV) (Q : AExit → Fr → AHeap → Prop)
    (hQ : Q (.exit 4) (frOf [(4, .sl id 0 n 1), (61, A61), (62, A62), (63, A63)]) h) :
    WP Tryd.prog 94 (.loop c_padlocklaw12_ClassWhole_21) (frOf [(4, .sl id 0 n 1), (61, A61), (62, A62), (63, A63), (67, slAV 1 encN o), (68, .int .i64 (slL o).length), (69, .int .i64 0)]) h Q := by
  obtain ⟨I, hI⟩ : ∃ I : Nat → Fr → AHeap → Prop, I = (fun m fr hh => ∃ j : Nat, m = (slL o).length - j ∧ j ≤ (slL o).length ∧ hh = h ∧ fr = frOf [(4, .sl id 0 n 1), (61, A61), (62, A62), (63, A63), (67, slAV 1 encN o), (68, .int .i64 (slL o).length), (69, .int .i64 j)]) := ⟨_, rfl⟩
  refine WP_loop mixed_ (by kernel_rfl) I (slL o).length (by rw [hI]; exact ⟨0, rfl, Nat.zero_le _, rfl, rfl⟩) ?_
  intro m fr hh hi
  rw [hI] at hi
  obtain ⟨j, rfl, hj, rfl, rfl⟩ := hi
  apply padlocklaw12_ClassWhole_loop21
  (repeat simp -dsimp -implicitDefEqProofs (disch := omega) only [↓rP, rQ, rO, rL, ↓reduceIte, Nat.reduceEqDiff, Nat.reduceAdd, Nat.reduceLeDiff, pBuild, fillA, ↓tyr])
  refine Split_lt (fun hjl => ?_) (fun hjl => ?_)
  · obtain ⟨x, hxj⟩ : ∃ x, (slL o)[j]? = some x := ⟨_, List.getElem?_eq_getElem (by omega)⟩
    obtain ⟨hx1, hx2⟩ := hx x (List.mem_of_getElem? hxj)
    have ld : ∀ (H : AHeap) (K : AV → Prop), pLoad none (.iptr (encN x)) H K = K (.int .u64 (x : Nat)) := fun H K => by rw [pLoad_iptr]; simp [pCells, encN]
    (repeat simp -dsimp -implicitDefEqProofs (disch := omega) only [↓rP, rQ, rO, rL, ↓reduceIte, Nat.reduceEqDiff, Nat.reduceAdd, Nat.reduceLeDiff, pBuild, fillA, ↓tyr, pIndexAddr_slAV hxj, ld])
    refine whole_24 hx1 hn hl ho hx2 _ _ _ _ _ _ _ ?_
    (repeat simp -dsimp -implicitDefEqProofs (disch := omega) only [↓rP, rQ, rO, rL, ↓reduceIte, Nat.reduceEqDiff, Nat.reduceAdd, Nat.reduceLeDiff, pBuild, fillA, ↓tyr, wk1 j (by omega)])
    rw [loopPost_normal, hI]
    exact ⟨_, by omega, j + 1, rfl, by omega, rfl, rfl⟩
  · (repeat simp -dsimp -implicitDefEqProofs (disch := omega) only [↓rP, rQ, rO, rL, ↓reduceIte, Nat.reduceEqDiff, Nat.reduceAdd, Nat.reduceLeDiff, pBuild, fillA, ↓tyr])
    exact hQ
theorem whole_18 {n id rid : Nat} {out : List Nat} {R : List (Option (List Nat))} {h : AHeap} (hn : out.length = n) (hl : n ≤ 1000) (ho : h.objs id = some (.row 3 (nsAV out))) (hr : h.objs rid = some (.row 27 (rowsAV R))) (hR : R.length ≤ 100000) (hol : ∀ o ∈ R, (slL o).length ≤ 100000) (hx : ∀ x ∈ setsIn R, x < 18446744073709551616 ∧ ∀ k v, out[k]? = some v → x.testBit k = true → out.getD (firstB x) 0 = v) (Q : AExit → Fr → AHeap → Prop)
    (hQ : Q (.exit 2) (frOf []) h) :
    WP Tryd.prog 94 (.loop c_padlocklaw12_ClassWhole_18) (frOf [(4, .sl id 0 n 1), (61, .sl rid 0 R.length 1), (62, .int .i64 R.length), (63, .int .i64 0)]) h Q := by
  obtain ⟨I, hI⟩ : ∃ I : Nat → Fr → AHeap → Prop, I = (fun m fr hh => ∃ j : Nat, m = R.length - j ∧ j ≤ R.length ∧ hh = h ∧ fr = frOf [(4, .sl id 0 n 1), (61, .sl rid 0 R.length 1), (62, .int .i64 R.length), (63, .int .i64 j)]) := ⟨_, rfl⟩
  refine WP_loop mixed_ (by kernel_rfl) I R.length (by rw [hI]; exact ⟨0, rfl, Nat.zero_le _, rfl, rfl⟩) ?_
  intro m fr hh hi
  rw [hI] at hi
  obtain ⟨i, rfl, hi, rfl, rfl⟩ := hi
  apply padlocklaw12_ClassWhole_loop18
  (repeat simp -dsimp -implicitDefEqProofs (disch := omega) only [↓rP, rQ, rO, rL, ↓reduceIte, Nat.reduceEqDiff, Nat.reduceAdd, Nat.reduceLeDiff, pBuild, fillA, ↓tyr])
  refine Split_lt (fun hil => ?_) (fun hil => ?_)
  · obtain ⟨o, hxo⟩ : ∃ o, R[i]? = some o := ⟨_, List.getElem?_eq_getElem (by omega)⟩
    have hmem : o ∈ R := List.mem_of_getElem? hxo
    have ld : ∀ (K : AV → Prop), pLoad none (.ptr rid i) hh K = K (slAV 1 encN o) := fun K => by
      rw [pLoad_ptr hr, pCells_none_some (v := slAV 1 encN o) (by simp [rowsAV, hxo])]
    (repeat simp -dsimp -implicitDefEqProofs (disch := omega) only [↓rP, rQ, rO, rL, ↓reduceIte, Nat.reduceEqDiff, Nat.reduceAdd, Nat.reduceLeDiff, pBuild, fillA, ↓tyr, ix_ns (show i < R.length by omega), ↓ld])
    refine whole_21 hn hl ho o (hol o hmem) (fun x hxx => hx x (List.mem_flatMap.2 ⟨o, hmem, hxx⟩)) _ _ _ _ ?_
    (repeat simp -dsimp -implicitDefEqProofs (disch := omega) only [↓rP, rQ, rO, rL, ↓reduceIte, Nat.reduceEqDiff, Nat.reduceAdd, Nat.reduceLeDiff, pBuild, fillA, ↓tyr, wk1 i (by omega)])
    rw [loopPost_normal, hI]
    exact ⟨_, by omega, i + 1, rfl, by omega, rfl, rfl⟩
  · (repeat simp -dsimp -implicitDefEqProofs (disch := omega) only [↓rP, rQ, rO, rL, ↓reduceIte, Nat.reduceEqDiff, Nat.reduceAdd, Nat.reduceLeDiff, pBuild, fillA, ↓tyr])
    exact hQ
theorem ClassWhole_does (c : Cd) (hc : c.ok) (h : AHeap) : CallsA Tryd.prog 11 [.agg c.cells] h (fun v h2 => v = .bool true) := by
  have lc : ∀ (H : AHeap) (K : AV → Prop), pLoad (some 5) (.iptr c.cells) H K = K (.agg c.cells) := fun H K => by rw [pLoad_iptr]; exact Api_Code.call c K
  apply padlocklaw12_ClassWhole_wp
  (repeat simp -dsimp -implicitDefEqProofs (disch := omega) only [↓rP, rQ, rO, rL, ↓reduceIte, Nat.reduceEqDiff, Nat.reduceAdd, Nat.reduceLeDiff, pBuild, fillA, ↓tyr, ↓lc])
  refine CallsA.go (alive_does _) ?_
  (repeat simp -dsimp -implicitDefEqProofs (disch := omega) only [↓rP, rQ, rO, rL, ↓reduceIte, Nat.reduceEqDiff, Nat.reduceAdd, Nat.reduceLeDiff, pBuild, fillA, ↓tyr, ↓lc])
  refine CallsA.go (ref_Great_does c hc _) ?_
  cases hg : greatB c with
  | true => (repeat simp -dsimp -implicitDefEqProofs (disch := omega) only [↓rP, rQ, rO, rL, ↓reduceIte, Nat.reduceEqDiff, Nat.reduceAdd, Nat.reduceLeDiff, pBuild, fillA, ↓tyr])
  | false =>
    have sm := small_of hg
    (repeat simp -dsimp -implicitDefEqProofs (disch := omega) only [↓rP, rQ, rO, rL, ↓reduceIte, Nat.reduceEqDiff, Nat.reduceAdd, Nat.reduceLeDiff, pBuild, fillA, ↓tyr, ↓lc])
    refine CallsA.go (ref_Good_c c hc sm _) ?_
    cases hok : okC c with
    | false => (repeat simp -dsimp -implicitDefEqProofs (disch := omega) only [↓rP, rQ, rO, rL, ↓reduceIte, Nat.reduceEqDiff, Nat.reduceAdd, Nat.reduceLeDiff, pBuild, fillA, ↓tyr])
    | true =>
      have wc := wf_of hok
      (repeat simp -dsimp -implicitDefEqProofs (disch := omega) only [↓rP, rQ, rO, rL, ↓reduceIte, Nat.reduceEqDiff, Nat.reduceAdd, Nat.reduceLeDiff, pBuild, fillA, ↓tyr, ↓lc])
      refine (Solve_v c hc sm _).mono ?_
      rintro v H ⟨⟨s, rfl, hs⟩, rfl⟩
      rcases hs with ⟨e1, _⟩ | ⟨e1, σ, N, rfl, hN, a1, a2, a3, a4⟩
      · rw [hok] at e1; cases e1
      obtain ⟨s, es⟩ : ∃ s, s = setsV c σ N := ⟨_, rfl⟩
      have hsit := wc.sit
      have hthr := wc.thr
      have hxs : ∀ x ∈ setsOf s, x < 18446744073709551616 ∧ ∀ k ∈ bitsOf x, k < (slL c.Sites).length := fun x hx => by
        rw [es] at hx
        obtain ⟨r, n, rfl⟩ := mem_setsV hx
        exact ⟨Nat.lt_of_lt_of_le (a3.lt r n) (Nat.le_trans (Nat.pow_le_pow_right (by decide) hsit) (by decide)), fun k hk => a3 r n k (mem_bits.1 hk).2⟩
      have hls : (slL s.Slots).length = (slL c.Threads).length := by rw [es]; exact rowsO_len _ _
      have hlf : (slL s.Fields).length = (slL c.Sites).length := by rw [es]; exact rowsO_len _ _
      have hll : ∀ o ∈ rowsOf s, (slL o).length ≤ 100000 := fun o ho => len_rows sm (es ▸ ho)
      rw [← es]
      clear es hN
      (repeat simp -dsimp -implicitDefEqProofs (disch := omega) only [↓rP, rQ, rO, rL, ↓reduceIte, Nat.reduceEqDiff, Nat.reduceAdd, Nat.reduceLeDiff, pBuild, fillA, ↓tyr])
      have eN : (((slL c.Sites).length : Nat) : Int).toNat = (slL c.Sites).length := Int.toNat_natCast _
      refine (split_does _ s (by omega) (by omega) (by omega) hll (by rw [eN]; exact hxs) _).mono ?_
      rintro _ G ⟨id, out, rfl, ho, hid, hlt, kp, f, hf, hfl, hout⟩
      rw [eN] at hfl hout
      have hol : out.length = (slL c.Sites).length := by rw [hout]; simp
      have oS : G.objs H.next = some (.row 29 s.cells) := by rw [kp.objs _ (Nat.lt_succ_self _) (by simp)]; exact push_new _ _
      have nS : H.next < G.next := Nat.lt_of_lt_of_le (Nat.lt_succ_self _) kp.next
      obtain ⟨n, en⟩ : ∃ n, n = (slL c.Sites).length := ⟨_, rfl⟩
      rw [hol, ← en]
      rw [← en] at hfl hout hol hxs hsit hlf
      have dn : (((n : Nat) : Int) != ((n : Nat) : Int)) = false := by simp
      (repeat simp -dsimp -implicitDefEqProofs (disch := omega) only [↓rP, rQ, rO, rL, ↓reduceIte, Nat.reduceEqDiff, Nat.reduceAdd, Nat.reduceLeDiff, pBuild, fillA, ↓tyr, ← en, dn])
      rw [hout] at ho
      refine whole_11 (by omega) ho _ _ ?_
      have l0 : ∀ {F : AHeap} (hF : F.objs H.next = some (.row 29 s.cells)) (K : AV → Prop), pLoad none (.ptr H.next 0) F K = K (slAV 1 (fun o => [slAV 1 encN o]) s.Slots) := fun hF K => by rw [pLoad_ptr hF]; exact Api_Sets.c0 s K
      have l1 : ∀ {F : AHeap} (hF : F.objs H.next = some (.row 29 s.cells)) (K : AV → Prop), pLoad none (.ptr H.next 1) F K = K (slAV 1 encN s.Globals) := fun hF K => by rw [pLoad_ptr hF]; exact Api_Sets.c1 s K
      have l2 : ∀ {F : AHeap} (hF : F.objs H.next = some (.row 29 s.cells)) (K : AV → Prop), pLoad none (.ptr H.next 2) F K = K (slAV 1 (fun o => [slAV 1 encN o]) s.Fields) := fun hF K => by rw [pLoad_ptr hF]; exact Api_Sets.c2 s K
      (repeat simp -dsimp -implicitDefEqProofs (disch := omega) only [↓rP, rQ, rO, rL, ↓reduceIte, Nat.reduceEqDiff, Nat.reduceAdd, Nat.reduceLeDiff, pBuild, fillA, ↓tyr, l0 oS, l1 oS, l2 oS])
      rw [bsl1 (slAV_leafy _)]
      have e0 : [slAV 1 encN s.Globals] = rowsAV [s.Globals] := rfl
      rw [e0]
      obtain ⟨G1, hG1⟩ : ∃ G1, G1 = G.push (.row 27 (rowsAV [s.Globals])) := ⟨_, rfl⟩
      have o1 : G1.objs H.next = some (.row 29 s.cells) := by rw [hG1, push_old nS]; exact oS
      have r1 : G1.objs G.next = some (.row 27 (rowsAV [s.Globals])) := by rw [hG1]; exact push_new _ _
      have n1 : G1.next = G.next + 1 := by rw [hG1]; rfl
      have i1 : G1.objs id = some (.row 3 (nsAV ((List.range n).map (clsOf f)))) := by rw [hG1, push_old hlt]; exact ho
      rw [← hG1]
      (repeat simp -dsimp -implicitDefEqProofs (disch := omega) only [↓rP, rQ, rO, rL, ↓reduceIte, Nat.reduceEqDiff, Nat.reduceAdd, Nat.reduceLeDiff, pBuild, fillA, ↓tyr, l0 o1, l2 o1])
      refine Eq.mpr (app_rows (l := [s.Globals]) r1 (by simp; omega) _) ?_
      obtain ⟨G2, hG2⟩ : ∃ G2, G2 = (G1.kill G.next).push (.row 27 (rowsAV ([s.Globals] ++ slL s.Slots))) := ⟨_, rfl⟩
      have o2 : G2.objs H.next = some (.row 29 s.cells) := by rw [hG2, push_old (by simp; omega), kill_old (by omega)]; exact o1
      have r2 : G2.objs G1.next = some (.row 27 (rowsAV ([s.Globals] ++ slL s.Slots))) := by rw [hG2]; exact push_new _ _
      have n2 : G2.next = G1.next + 1 := by rw [hG2]; rfl
      have i2 : G2.objs id = some (.row 3 (nsAV ((List.range n).map (clsOf f)))) := by rw [hG2, push_old (by simp; omega), kill_old (by omega)]; exact i1
      rw [← hG2]
      (repeat simp -dsimp -implicitDefEqProofs (disch := omega) only [↓rP, rQ, rO, rL, ↓reduceIte, Nat.reduceEqDiff, Nat.reduceAdd, Nat.reduceLeDiff, pBuild, fillA, ↓tyr, l0 o2, l2 o2])
      refine Eq.mpr (app_rows r2 (by simp; omega) _) ?_
      obtain ⟨G3, hG3⟩ : ∃ G3, G3 = (G2.kill G1.next).push (.row 27 (rowsAV ([s.Globals] ++ slL s.Slots ++ slL s.Fields))) := ⟨_, rfl⟩
      have eR : [s.Globals] ++ slL s.Slots ++ slL s.Fields = rowsOf s := by simp [rowsOf]
      have r3 : G3.objs G2.next = some (.row 27 (rowsAV (rowsOf s))) := by rw [hG3, eR]; exact push_new _ _
      have i3 : G3.objs id = some (.row 3 (nsAV ((List.range n).map (clsOf f)))) := by rw [hG3, push_old (by simp; omega), kill_old (by omega)]; exact i2
      have hRl : (rowsOf s).length ≤ 100000 := by simp [rowsOf]; omega
      rw [← hG3, eR]
      (repeat simp -dsimp -implicitDefEqProofs (disch := omega) only [↓rP, rQ, rO, rL, ↓reduceIte, Nat.reduceEqDiff, Nat.reduceAdd, Nat.reduceLeDiff, pBuild, fillA, ↓tyr])
      refine whole_18 (R := rowsOf s) (by simp) (by omega) i3 r3 hRl hll (fun x hx => ?_) _ ?_
      · obtain ⟨hx1, hx2⟩ := hxs x hx
        refine ⟨hx1, fun k v hk hb => ?_⟩
        have hkn : k < n := by
          have := (List.getElem?_eq_some_iff.1 hk).1
          simpa using this
        rw [List.getElem?_map, List.getElem?_range hkn] at hk
        rw [cls_at hf hx hx2 (by omega) hkn hb]
        simpa using hk
      · (repeat simp -dsimp -implicitDefEqProofs (disch := omega) only [↓rP, rQ, rO, rL, ↓reduceIte, Nat.reduceEqDiff, Nat.reduceAdd, Nat.reduceLeDiff, pBuild, fillA, ↓tyr])
end Go.Proofs.YtopfjochppdnfaaDoor
end

