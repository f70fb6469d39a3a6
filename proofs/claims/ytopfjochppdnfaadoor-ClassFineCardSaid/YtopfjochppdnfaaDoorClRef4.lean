/- The document's Split, whole. -/
import Derived.Test.YtopfjochppdnfaaDoorClRef3
set_option linter.unusedVariables false
set_option linter.unusedSimpArgs false
set_option maxRecDepth 100000
set_option maxHeartbeats 1000000
namespace Go.Proofs.YtopfjochppdnfaaDoor
open Go.Abs

theorem bslI {e : TypeId} {by_ : Nat} {z v : AV} (hv : v.leafy = true) (h : AHeap) (K : AV → AHeap → Prop) : pBuildSl true { e := e, sz := 1, by_ := by_ } [z] 1 [(0, v)] h K = K (.isl 1 [[v]]) h := by
  have hc : v.cells = [v] := by cases v <;> simp_all [AV.cells, AV.leafy]
  have hf : v.fits = true := by cases v <;> simp_all [AV.fits, AV.leafy]
  simp [pBuildSl, fillE, hc, hf]

/-- So many noughts, as they grow. -/
def Noughts (h hh : AHeap) (k : Nat) (v : AV) : Prop := (k = 0 ∧ v = .nils) ∨ (0 < k ∧ ∃ id, v = .sl id 0 k 1 ∧ hh.objs id = some (.row 3 (nsAV (List.replicate k 0))) ∧ h.next ≤ id ∧ id < hh.next)
theorem app_nought {h hh : AHeap} {k : Nat} (hk : k ≤ 1000) {v : AV} (hv : Noughts h hh k v) (kp : Keeps h hh (fun _ => False)) (K : AV → AHeap → Prop) (hK : ∀ v2 h2, Noughts h h2 (k + 1) v2 → Keeps h h2 (fun _ => False) → K v2 h2) : pAppend false { e := 3, sz := 1, by_ := 8 } v (.isl 1 [[.int .i64 0]]) hh K := by
  rcases hv with ⟨rfl, rfl⟩ | ⟨h0, id, rfl, ho, h1, h2⟩
  · have := hK (.sl hh.next 0 1 1) (hh.push (.row 3 [.int .i64 0])) (Or.inr ⟨by omega, _, rfl, push_new _ _, kp.next, by simp⟩) (kp.pushS _)
    simp [pAppend, srcElems, newSl, bounded, maxLen]
    exact this
  · have := hK (.sl hh.next 0 (k + 1) 1) ((hh.kill id).push (.row 3 (nsAV (List.replicate (k + 1) 0)))) (Or.inr ⟨by omega, _, rfl, push_new _ _, kp.next, by simp⟩) ((kp.killNew h1).pushS _)
    have e : (nsAV (List.replicate k 0)).take (k * 1) ++ [AV.int .i64 0] = nsAV (List.replicate (k + 1) 0) := by
      rw [Nat.mul_one]
      have : (nsAV (List.replicate k 0)).take k = nsAV (List.replicate k 0) := List.take_of_length_le (by simp [nsAV])
      rw [this, List.replicate_succ']
      simp [nsAV]
    simp only [pAppend, srcElems, ho]
    refine ⟨trivial, trivial, by simp [nsAV], by simp [bounded, maxLen]; omega, ?_⟩
    simp only [List.flatten_cons, List.flatten_nil, List.append_nil, List.length_cons, List.length_nil]
    rw [e]; exact this

theorem ref_split_does (n : Int) (s : St) (hn : n ≤ 1000) (fw : Few n.toNat s) (h : AHeap) :
    CallsA Tryd.prog 15 [.int .i64 n, .agg s.cells] h (fun v h2 => ∃ out, IsCls n.toNat (setsOf s) out ∧ Keeps h h2 (fun _ => False) ∧ ((n.toNat = 0 ∧ v = .nils) ∨ (0 < n.toNat ∧ ∃ id, v = .sl id 0 out.length 1 ∧ h2.objs id = some (.row 3 (nsAV out)) ∧ h.next ≤ id ∧ id < h2.next))) := by
  obtain ⟨m, hm⟩ : ∃ m, m = n.toNat := ⟨_, rfl⟩
  rw [← hm] at fw ⊢
  obtain ⟨f, hs, hfl⟩ := says_get fw.bits
  apply padlockref12_Split_wp
  (repeat (first | simp -dsimp -implicitDefEqProofs (disch := omega) only [↓gp0, ↓gp1, ↓gp2, gq0, gq1, gq2, gq3, gq4, gq5, gq6, gq7, gq8, gq9, go0, go1, gl0, gl1, gl2, gl3, ↓reduceIte, Nat.reduceEqDiff, Nat.reduceAdd, Nat.reduceLeDiff, pBuild, fillA, ↓Api_Sets.r] | refine Cut.go ?_))
  -- as many noughts as sites
  obtain ⟨I, hI⟩ : ∃ I : Nat → Fr → AHeap → Prop, I = (fun r fr hh => ∃ (k : Nat) (v : AV), r = m - k ∧ k ≤ m ∧ Noughts h hh k v ∧ Keeps h hh (fun _ => False) ∧ fr = frOf [(0, .int .i64 n), (3, .iptr s.cells), (5, v), (6, .int .i64 0), (7, .int .i64 k)]) := ⟨_, rfl⟩
  refine WP_loop mixed_ (by kernel_rfl) I m (by rw [hI]; exact ⟨0, .nils, rfl, Nat.zero_le _, Or.inl ⟨rfl, rfl⟩, Keeps.refl _ _, rfl⟩) ?_
  intro r fr hh hi
  rw [hI] at hi
  obtain ⟨k, v, rfl, hk, hno, kp, rfl⟩ := hi
  apply padlockref12_Split_loop4
  (repeat (first | simp -dsimp -implicitDefEqProofs (disch := omega) only [↓gp0, ↓gp1, ↓gp2, gq0, gq1, gq2, gq3, gq4, gq5, gq6, gq7, gq8, gq9, go0, go1, gl0, gl1, gl2, gl3, ↓reduceIte, Nat.reduceEqDiff, Nat.reduceAdd, Nat.reduceLeDiff, pBuild, fillA, ↓Api_Sets.r] | refine Cut.go ?_))
  refine Split_lt (fun hkn => ?_) (fun hkn => ?_)
  · (repeat (first | simp -dsimp -implicitDefEqProofs (disch := omega) only [↓gp0, ↓gp1, ↓gp2, gq0, gq1, gq2, gq3, gq4, gq5, gq6, gq7, gq8, gq9, go0, go1, gl0, gl1, gl2, gl3, ↓reduceIte, Nat.reduceEqDiff, Nat.reduceAdd, Nat.reduceLeDiff, pBuild, fillA, ↓Api_Sets.r] | refine Cut.go ?_))
    rw [bslI (by rfl)]
    (repeat (first | simp -dsimp -implicitDefEqProofs (disch := omega) only [↓gp0, ↓gp1, ↓gp2, gq0, gq1, gq2, gq3, gq4, gq5, gq6, gq7, gq8, gq9, go0, go1, gl0, gl1, gl2, gl3, ↓reduceIte, Nat.reduceEqDiff, Nat.reduceAdd, Nat.reduceLeDiff, pBuild, fillA, ↓Api_Sets.r] | refine Cut.go ?_))
    refine app_nought (by omega) hno kp _ (fun v2 h2 q1 q2 => ?_)
    (repeat (first | simp -dsimp -implicitDefEqProofs (disch := omega) only [↓gp0, ↓gp1, ↓gp2, gq0, gq1, gq2, gq3, gq4, gq5, gq6, gq7, gq8, gq9, go0, go1, gl0, gl1, gl2, gl3, ↓reduceIte, Nat.reduceEqDiff, Nat.reduceAdd, Nat.reduceLeDiff, pBuild, fillA, ↓Api_Sets.r, wk1 k (by omega)] | refine Cut.go ?_))
    rw [loopPost_normal, hI]
    exact ⟨m - (k + 1), by omega, k + 1, v2, rfl, by omega, q1, q2, rfl⟩
  have hkm : k = m := by omega
  subst hkm
  (repeat (first | simp -dsimp -implicitDefEqProofs (disch := omega) only [↓gp0, ↓gp1, ↓gp2, gq0, gq1, gq2, gq3, gq4, gq5, gq6, gq7, gq8, gq9, go0, go1, gl0, gl1, gl2, gl3, ↓reduceIte, Nat.reduceEqDiff, Nat.reduceAdd, Nat.reduceLeDiff, pBuild, fillA, ↓Api_Sets.r] | refine Cut.go ?_))
  clear hI I
  rcases hno with ⟨hk0, rfl⟩ | ⟨hk0, id, rfl, ho, h1, h2⟩
  · -- none
    have hz : k = 0 := hk0
    obtain ⟨I, hI⟩ : ∃ I : Nat → Fr → AHeap → Prop, I = (fun r fr h3 => h3 = hh ∧ fr = frOf [(0, .int .i64 n), (3, .iptr s.cells), (5, .nils), (6, .int .i64 0), (8, .int .i64 0)]) := ⟨_, rfl⟩
    refine WP_loop mixed_ (by kernel_rfl) I 0 (by rw [hI]; exact ⟨rfl, rfl⟩) ?_
    intro r fr h3 hi
    rw [hI] at hi
    obtain ⟨rfl, rfl⟩ := hi
    apply padlockref12_Split_loop8
    (repeat (first | simp -dsimp -implicitDefEqProofs (disch := omega) only [↓gp0, ↓gp1, ↓gp2, gq0, gq1, gq2, gq3, gq4, gq5, gq6, gq7, gq8, gq9, go0, go1, gl0, gl1, gl2, gl3, ↓reduceIte, Nat.reduceEqDiff, Nat.reduceAdd, Nat.reduceLeDiff, pBuild, fillA, ↓Api_Sets.r] | refine Cut.go ?_))
    refine ⟨[], ⟨f, hs, hfl, by rw [hz]; rfl⟩, kp, Or.inl hz⟩
  -- site by site
  have hnk : n = (k : Int) := by omega
  subst hnk
  have hm1000 : k ≤ 1000 := by omega
  have hrep : nsAV (List.replicate k 0) = nsAV ((List.range k).map fun j => if root f j < 0 then clsOf f j else 0) := by
    congr 1
    apply List.ext_getElem?
    intro i
    rw [List.getElem?_replicate, List.getElem?_map]
    by_cases hi : i < k
    · rw [if_pos hi, List.getElem?_range hi]; simp
    · rw [if_neg hi, List.getElem?_eq_none (by simpa using hi)]; rfl
  obtain ⟨I, hI⟩ : ∃ I : Nat → Fr → AHeap → Prop, I = (fun r fr h3 => ∃ (i : Nat), r = k - i ∧ i ≤ k ∧ h3.objs id = some (.row 3 (nsAV ((List.range k).map fun j => if root f j < i then clsOf f j else 0))) ∧ Keeps hh h3 (fun i => i = id) ∧ fr = frOf [(0, .int .i64 k), (3, .iptr s.cells), (5, .sl id 0 k 1), (6, .int .i64 (leadsB f i : Nat)), (8, .int .i64 i)]) := ⟨_, rfl⟩
  refine WP_loop mixed_ (by kernel_rfl) I k (by rw [hI]; exact ⟨0, rfl, Nat.zero_le _, by rw [ho, hrep], Keeps.refl _ _, rfl⟩) ?_
  intro r fr h3 hi
  rw [hI] at hi
  obtain ⟨i, rfl, hik, ho3, kp3, rfl⟩ := hi
  apply padlockref12_Split_loop8
  (repeat (first | simp -dsimp -implicitDefEqProofs (disch := omega) only [↓gp0, ↓gp1, ↓gp2, gq0, gq1, gq2, gq3, gq4, gq5, gq6, gq7, gq8, gq9, go0, go1, gl0, gl1, gl2, gl3, ↓reduceIte, Nat.reduceEqDiff, Nat.reduceAdd, Nat.reduceLeDiff, pBuild, fillA, ↓Api_Sets.r] | refine Cut.go ?_))
  refine Split_lt (fun hil => ?_) (fun hil => ?_)
  · have hi2 : i < k := by omega
    have hri : root f i ≤ i := root_le i
    have hle : leadsB f i ≤ 1000 := by
      have h1 := leadsB_mono f (Nat.le_of_lt hi2)
      have h2 : leadsB f k ≤ (List.range k).length := List.countP_le_length
      simp at h2; omega
    have hget := map_range_get (m := k) (fun j => if root f j < i then clsOf f j else 0) hi2
    (repeat (first | simp -dsimp -implicitDefEqProofs (disch := omega) only [↓gp0, ↓gp1, ↓gp2, gq0, gq1, gq2, gq3, gq4, gq5, gq6, gq7, gq8, gq9, go0, go1, gl0, gl1, gl2, gl3, ↓reduceIte, Nat.reduceEqDiff, Nat.reduceAdd, Nat.reduceLeDiff, pBuild, fillA, ↓Api_Sets.r, ix_ns hi2, ld_ns ho3 hget] | refine Cut.go ?_))
    by_cases hlt : root f i < i
    · have hc : (((if root f i < i then clsOf f i else 0 : Nat) : Int) != 0) = true := by rw [if_pos hlt]; simp [clsOf]; omega
      (repeat (first | simp -dsimp -implicitDefEqProofs (disch := omega) only [↓gp0, ↓gp1, ↓gp2, gq0, gq1, gq2, gq3, gq4, gq5, gq6, gq7, gq8, gq9, go0, go1, gl0, gl1, gl2, gl3, ↓reduceIte, Nat.reduceEqDiff, Nat.reduceAdd, Nat.reduceLeDiff, pBuild, fillA, ↓Api_Sets.r, hc, wk1 i (by omega)] | refine Cut.go ?_))
      rw [loopPost_normal, hI]
      refine ⟨k - (i + 1), by omega, i + 1, rfl, by omega, ?_, kp3, ?_⟩
      · rw [ho3]
        congr 3
        apply List.map_congr_left
        intro j _
        by_cases h1 : root f j < i
        · rw [if_pos h1, if_pos (by omega)]
        · rw [if_neg h1]
          by_cases h2 : root f j = i
          · have := root_root (f := f) j; rw [h2] at this; omega
          · rw [if_neg (by omega)]
      · rw [leadsB_succ, if_neg (by omega)]; rfl
    · have hroot : root f i = i := by omega
      have hc : (((if root f i < i then clsOf f i else 0 : Nat) : Int) != 0) = false := by rw [if_neg hlt]; rfl
      have hset : ((List.range k).map fun j => if root f j < i then clsOf f j else 0).set i (leadsB f i + 1) = (List.range k).map (mkO f i fun j => decide (j = i)) := by
        rw [map_range_set]
        congr 1
        funext j
        unfold mkO
        by_cases e : j = i
        · subst e; rw [if_pos rfl, if_neg hlt]; simp
        · rw [if_neg e]; simp [e]
      (repeat (first | simp -dsimp -implicitDefEqProofs (disch := omega) only [↓gp0, ↓gp1, ↓gp2, gq0, gq1, gq2, gq3, gq4, gq5, gq6, gq7, gq8, gq9, go0, go1, gl0, gl1, gl2, gl3, ↓reduceIte, Nat.reduceEqDiff, Nat.reduceAdd, Nat.reduceLeDiff, pBuild, fillA, ↓Api_Sets.r, hc, wk1 (leadsB f i) (by omega), ix_ns hi2, st_ns ho3 (show i < ((List.range k).map fun j => if root f j < i then clsOf f j else 0).length by simpa using hi2)] | refine Cut.go ?_))
      refine ref_rounds fw hm1000 hs hi2 hroot (by rw [put_new, hset]) _ _ ?_
      intro h4 q1 q2
      (repeat (first | simp -dsimp -implicitDefEqProofs (disch := omega) only [↓gp0, ↓gp1, ↓gp2, gq0, gq1, gq2, gq3, gq4, gq5, gq6, gq7, gq8, gq9, go0, go1, gl0, gl1, gl2, gl3, ↓reduceIte, Nat.reduceEqDiff, Nat.reduceAdd, Nat.reduceLeDiff, pBuild, fillA, ↓Api_Sets.r, wk1 i (by omega)] | refine Cut.go ?_))
      rw [loopPost_normal, hI]
      refine ⟨k - (i + 1), by omega, i + 1, rfl, by omega, q1, (kp3.putS rfl _).trans q2 (fun _ _ e => e), ?_⟩
      rw [leadsB_succ, if_pos hroot]
  · (repeat (first | simp -dsimp -implicitDefEqProofs (disch := omega) only [↓gp0, ↓gp1, ↓gp2, gq0, gq1, gq2, gq3, gq4, gq5, gq6, gq7, gq8, gq9, go0, go1, gl0, gl1, gl2, gl3, ↓reduceIte, Nat.reduceEqDiff, Nat.reduceAdd, Nat.reduceLeDiff, pBuild, fillA, ↓Api_Sets.r] | refine Cut.go ?_))
    have e : i = k := by omega
    subst e
    refine ⟨_, ⟨f, hs, hfl, rfl⟩, ?_, Or.inr ⟨hk0, id, by simp, ?_, h1, Nat.lt_of_lt_of_le h2 kp3.next⟩⟩
    · refine ⟨Nat.le_trans kp.next kp3.next, fun j hj _ => ?_⟩
      rw [kp3.objs j (by have := kp.next; omega) (by omega), kp.objs j hj (by simp)]
    · rw [ho3]
      congr 3
      apply List.map_congr_left
      intro j hj
      have := root_le (f := f) j
      have := List.mem_range.1 hj
      rw [if_pos (by omega)]
end Go.Proofs.YtopfjochppdnfaaDoor
