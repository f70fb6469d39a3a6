/- The classes are the document's. -/
import Derived.Test.YtopfjochppdnfaaDoorClRows
set_option linter.unusedVariables false
set_option linter.unusedSimpArgs false
set_option maxRecDepth 100000
set_option maxHeartbeats 1000000
namespace Go.Proofs.YtopfjochppdnfaaDoor
open Go.Abs

/-! ### The sample at work -/
def sampleS : St := ⟨none, some [5, 0], none⟩
theorem sample_out {out : List Nat} (h : IsCls 3 [5, 0] out) : out = [1, 2, 1] := by
  have r0 : root [0, 1, 2] 0 = 0 := root_stop (by decide)
  have r2 : root [0, 1, 2] 2 = 2 := root_stop (by decide)
  have p : prsOf [5, 0] = [] ++ [(0, 0)] ++ [(0, 2)] := by decide
  have s0 := Says.start 3
  have e3 : List.range 3 = [0, 1, 2] := by decide
  rw [e3] at s0
  have s1 := s0.link (i := 0) (j := 0) (by decide) (by decide)
  rw [r0] at s1
  have s2 := s1.link (i := 0) (j := 2) (by decide) (by decide)
  have e1 : ([0, 1, 2] : List Nat).set (max 0 0) (min 0 0) = [0, 1, 2] := by decide
  rw [e1, r0, r2] at s2
  have e2 : ([0, 1, 2] : List Nat).set (max 0 2) (min 0 2) = [0, 1, 0] := by decide
  rw [e2, ← p] at s2
  have q0 : root [0, 1, 0] 0 = 0 := root_stop (by decide)
  have q1 : root [0, 1, 0] 1 = 1 := root_stop (by decide)
  have q2 : root [0, 1, 0] 2 = 0 := by rw [root_step (by decide)]; exact q0
  rw [isCls_of s2 h]
  have l0 : leadsB [0, 1, 0] 0 = 0 := rfl
  have l1 : leadsB [0, 1, 0] 1 = 1 := by rw [show (1 : Nat) = 0 + 1 from rfl, leadsB_succ, if_pos q0, l0]
  rw [e3]
  simp [clsOf, q0, q1, q2, l0, l1]

theorem alive_k (h : AHeap) : CallsA Tryd.prog 12 [] h (fun v h2 => v = .bool true ∧ Keeps h h2 (fun _ => False)) := by
  apply padlocklaw12_alive_wp
  have b2 : ∀ (H : AHeap) (K : AV → AHeap → Prop), pBuildSl true { e := 23, sz := 1, by_ := 8 } [AV.int .u64 0] 2 [(0, .int .u64 5), (1, .int .u64 0)] H K = K (slAV 1 encN (some [5, 0])) H := fun H K => by
    simp [pBuildSl, fillE, AV.fits, AV.cells, slAV, encN, List.replicate]
  (repeat (first | simp -dsimp -implicitDefEqProofs (disch := omega) only [↓gp0, ↓gp1, ↓gp2, gq0, gq1, gq2, gq3, gq4, gq5, gq6, gq7, gq8, gq9, go0, go1, gl0, gl1, gl2, gl3, ↓reduceIte, Nat.reduceEqDiff, Nat.reduceAdd, Nat.reduceLeDiff, pBuild, fillA, ↓Api_Sets.r, b2] | refine Cut.go ?_))
  have hb : bitsOf 5 = [0, 2] := by decide
  refine (split_does 3 sampleS (by decide) (by simp [sampleS]) (by simp [sampleS]) (fun o ho => by simp [rowsOf, sampleS] at ho; rw [ho]; simp) (fun x hx => by
    have : x = 5 ∨ x = 0 := by simpa [setsOf, setsIn, rowsOf, sampleS] using hx
    rcases this with rfl | rfl
    · refine ⟨by decide, fun k hk => ?_⟩
      rw [hb] at hk; simp at hk; simp; omega
    · exact ⟨by decide, fun k hk => by rw [bits_zero] at hk; cases hk⟩) h).mono ?_
  rintro _ h2 ⟨id, out, rfl, ho, h1, hlt, kp, hc⟩
  have hout : out = [1, 2, 1] := sample_out (by simpa [setsOf, setsIn, rowsOf, sampleS] using hc)
  subst hout
  have g0 : ([1, 2, 1] : List Nat)[0]? = some 1 := rfl
  have g1 : ([1, 2, 1] : List Nat)[1]? = some 2 := rfl
  have g2 : ([1, 2, 1] : List Nat)[2]? = some 1 := rfl
  have x0 := fun K => ix_ns (fid := id) (n := 3) (k := 0) (by decide) K
  have x1 := fun K => ix_ns (fid := id) (n := 3) (k := 1) (by decide) K
  have x2 := fun K => ix_ns (fid := id) (n := 3) (k := 2) (by decide) K
  have f4 : firstB 4 = 2 := by decide
  (repeat (first | simp -dsimp -implicitDefEqProofs (disch := omega) only [↓gp0, ↓gp1, ↓gp2, gq0, gq1, gq2, gq3, gq4, gq5, gq6, gq7, gq8, gq9, go0, go1, gl0, gl1, gl2, gl3, ↓reduceIte, Nat.reduceEqDiff, Nat.reduceAdd, Nat.reduceLeDiff, pBuild, fillA, ↓Api_Sets.r] | refine Cut.go ?_))
  refine Eq.mpr (x0 _) ?_
  (repeat (first | simp -dsimp -implicitDefEqProofs (disch := omega) only [↓gp0, ↓gp1, ↓gp2, gq0, gq1, gq2, gq3, gq4, gq5, gq6, gq7, gq8, gq9, go0, go1, gl0, gl1, gl2, gl3, ↓reduceIte, Nat.reduceEqDiff, Nat.reduceAdd, Nat.reduceLeDiff, pBuild, fillA, ↓Api_Sets.r, ld_ns ho g0] | refine Cut.go ?_))
  refine Eq.mpr (x1 _) ?_
  (repeat (first | simp -dsimp -implicitDefEqProofs (disch := omega) only [↓gp0, ↓gp1, ↓gp2, gq0, gq1, gq2, gq3, gq4, gq5, gq6, gq7, gq8, gq9, go0, go1, gl0, gl1, gl2, gl3, ↓reduceIte, Nat.reduceEqDiff, Nat.reduceAdd, Nat.reduceLeDiff, pBuild, fillA, ↓Api_Sets.r, ld_ns ho g1] | refine Cut.go ?_))
  refine Eq.mpr (x2 _) ?_
  (repeat (first | simp -dsimp -implicitDefEqProofs (disch := omega) only [↓gp0, ↓gp1, ↓gp2, gq0, gq1, gq2, gq3, gq4, gq5, gq6, gq7, gq8, gq9, go0, go1, gl0, gl1, gl2, gl3, ↓reduceIte, Nat.reduceEqDiff, Nat.reduceAdd, Nat.reduceLeDiff, pBuild, fillA, ↓Api_Sets.r, ld_ns ho g2] | refine Cut.go ?_))
  refine CallsA.go (of_does 4 (by decide) (out := [1, 2, 1]) (by decide) ho) ?_
  rw [f4]
  (repeat (first | simp -dsimp -implicitDefEqProofs (disch := omega) only [↓gp0, ↓gp1, ↓gp2, gq0, gq1, gq2, gq3, gq4, gq5, gq6, gq7, gq8, gq9, go0, go1, gl0, gl1, gl2, gl3, ↓reduceIte, Nat.reduceEqDiff, Nat.reduceAdd, Nat.reduceLeDiff, pBuild, fillA, ↓Api_Sets.r] | refine Cut.go ?_))
  refine CallsA.go (of_does 0 (by decide) (out := [1, 2, 1]) (by decide) ho) ?_
  rw [firstB_zero]
  (repeat (first | simp -dsimp -implicitDefEqProofs (disch := omega) only [↓gp0, ↓gp1, ↓gp2, gq0, gq1, gq2, gq3, gq4, gq5, gq6, gq7, gq8, gq9, go0, go1, gl0, gl1, gl2, gl3, ↓reduceIte, Nat.reduceEqDiff, Nat.reduceAdd, Nat.reduceLeDiff, pBuild, fillA, ↓Api_Sets.r] | refine Cut.go ?_))
  exact ⟨rfl, kp⟩
theorem alive_does (h : AHeap) : CallsA Tryd.prog 12 [] h (fun v h2 => v = .bool true ∧ h2 = h) := CallsA.forget (by simp [idsIn]) (alive_k h)

/-- What the laws let in may be walked. -/
theorem few_of {l : Rws} {m : Nat} (hm : m ≤ 12) (hl : l.length ≤ 1000) (h : ∀ o ∈ l, (slL o).length ≤ 8 ∧ ∀ x ∈ slL o, x < 2 ^ m) : Few m (setsS l) := by
  have hpl : ∀ p, (pickAt p 0 l).length ≤ 1000 := fun p => Nat.le_trans (pickAt_len p _ 0) hl
  have hset : ∀ x ∈ setsOf (setsS l), x < 2 ^ m := fun x hx => by
    rw [mem_setsOf] at hx
    obtain ⟨o, h1, h2⟩ := List.mem_flatMap.1 hx
    exact (h o h1).2 x h2
  refine ⟨?_, ?_, fun o ho => ?_, fun x hx => ?_, fun x hx k hk => ?_⟩
  · have := hpl isOdd; simp only [setsS, toO_L]; omega
  · have := hpl isEv; simp only [setsS, toO_L]; omega
  · by_cases hne : slL o = []
    · rw [hne]; simp
    · have := (h o ((mem_rows l o hne).1 ho)).1; omega
  · have h1 := hset x hx
    have h2 : (2 : Nat) ^ m ≤ 2 ^ 12 := Nat.pow_le_pow_right (by decide) hm
    simp at h2; omega
  · have h1 := hset x hx
    have h2 := (mem_bits.1 hk).2
    apply Classical.byContradiction
    intro hn
    have : x < 2 ^ k := Nat.lt_of_lt_of_le h1 (Nat.pow_le_pow_right (by decide) (by omega))
    rw [Nat.testBit_lt_two_pow this] at h2; cases h2

/-- The program's Split of sets that stand for others. -/
theorem split_sub {m : Nat} (hm : m ≤ 12) {s : St} (fw : Few m s) {cs : List AV} (hs : Sub cs s.cells) (h : AHeap) : CallsA Tryd.prog 13 [.int .i64 m, .agg cs] h (fun v h2 => ∃ id out, v = .sl id 0 out.length 1 ∧ h2.objs id = some (.row 3 (nsAV out)) ∧ h.next ≤ id ∧ id < h2.next ∧ Keeps h h2 (fun _ => False) ∧ IsCls m (setsOf s) out ∧ out.length = m) := by
  refine CallsA.args (Sub.same (Sub.cons (agg_sub hs) Sub.nil)) ((split_does m s (by omega) fw.slots fw.fields fw.rows (fun x hx => ⟨fw.sets x hx, by simpa using fw.bits x hx⟩) h).mono ?_)
  rintro v h2 ⟨id, out, q1, q2, q3, q4, q5, q6⟩
  refine ⟨id, out, q1, q2, q3, q4, q5, by simpa using q6, ?_⟩
  obtain ⟨f, -, -, rfl⟩ := q6
  simp

theorem ref_sub {m : Nat} (hm : m ≤ 12) {s : St} (fw : Few m s) {cs : List AV} (hs : Sub cs s.cells) (h : AHeap) : CallsA Tryd.prog 15 [.int .i64 m, .agg cs] h (fun v h2 => ∃ out, IsCls m (setsOf s) out ∧ out.length = m ∧ Keeps h h2 (fun _ => False) ∧ ((m = 0 ∧ v = .nils) ∨ (0 < m ∧ ∃ id, v = .sl id 0 out.length 1 ∧ h2.objs id = some (.row 3 (nsAV out)) ∧ h.next ≤ id ∧ id < h2.next))) := by
  refine CallsA.args (Sub.same (Sub.cons (agg_sub hs) Sub.nil)) ((ref_split_does m s (by omega) (by simpa using fw) h).mono ?_)
  rintro v h2 ⟨out, q1, q2, q3⟩
  refine ⟨out, by simpa using q1, ?_, q2, by simpa using q3⟩
  obtain ⟨f, -, -, rfl⟩ := q1
  simp

theorem isCls_same {m : Nat} {s : St} (fw : Few m s) {a b : List Nat} (ha : IsCls m (setsOf s) a) (hb : IsCls m (setsOf s) b) : a = b := by
  obtain ⟨f, hf, -⟩ := says_get fw.bits
  rw [isCls_of hf ha, isCls_of hf hb]

theorem firstB_eq {x k : Nat} (hx : x < 18446744073709551616) (hlow : ∀ j, j < k → x.testBit j = false) (hk : k = 64 ∨ (k < 64 ∧ x.testBit k = true)) : firstB x = k := by
  by_cases h0 : x = 0
  · subst h0
    rcases hk with rfl | ⟨-, h⟩
    · exact firstB_zero
    · simp at h
  · obtain ⟨h1, h2, h3⟩ := firstB_low h0 hx
    rcases Nat.lt_trichotomy (firstB x) k with h | h | h
    · rw [hlow _ h] at h2; cases h2
    · exact h
    · rcases hk with rfl | ⟨-, hk⟩
      · omega
      · rw [h3 _ h] at hk; cases hk
end Go.Proofs.YtopfjochppdnfaaDoor
