/- The classes are the document's: the law. -/
import Derived.Test.YtopfjochppdnfaaDoorClIs
set_option linter.unusedVariables false
set_option linter.unusedSimpArgs false
set_option maxRecDepth 100000
set_option maxHeartbeats 1000000
namespace Go.Proofs.YtopfjochppdnfaaDoor
open Go.Abs

/-- The first bit, found step by step; the class of the set. -/
theorem ClassIs_find (set : Nat) (hset : set < 18446744073709551616) {id : Nat} {out : List Nat} (hl : out.length ≤ 12) (v44 : AV) {h : AHeap} (ho : h.objs id = some (.row 3 (nsAV out)))
    (hv : (out.length = 0 ∧ v44 = .nils) ∨ (0 < out.length ∧ ∃ id2, v44 = .sl id2 0 out.length 1 ∧ h.objs id2 = some (.row 3 (nsAV out)))) (Q : AExit → Fr → AHeap → Prop)
    (hex : Q (.exit 6) (frOf [(2, .int .u64 (set : Nat)), (11, .sl id 0 out.length 1), (12, v44), (14, .int .i64 (firstB set : Nat))]) h) :
    WP Tryd.prog 120 (.loop c_padlocklaw12_ClassIs_25) (frOf [(2, .int .u64 (set : Nat)), (11, .sl id 0 out.length 1), (12, v44), (14, .int .i64 0)]) h Q := by
  obtain ⟨I, hI⟩ : ∃ I : Nat → Fr → AHeap → Prop, I = (fun r fr hh => ∃ (k : Nat), r = 64 - k ∧ k ≤ 64 ∧ hh = h ∧ (∀ j, j < k → set.testBit j = false) ∧ fr = frOf [(2, .int .u64 (set : Nat)), (11, .sl id 0 out.length 1), (12, v44), (14, .int .i64 k)]) := ⟨_, rfl⟩
  refine WP_loop mixed_ (by kernel_rfl) I 64 (by rw [hI]; exact ⟨0, rfl, by omega, rfl, by omega, rfl⟩) ?_
  intro r fr hh hi
  rw [hI] at hi
  obtain ⟨k, rfl, hk, rfl, hlow, rfl⟩ := hi
  apply padlocklaw12_ClassIs_loop25
  (repeat (first | simp -dsimp -implicitDefEqProofs (disch := omega) only [↓gp0, ↓gp1, ↓gp2, gq0, gq1, gq2, gq3, gq4, gq5, gq6, gq7, gq8, gq9, go0, go1, gl0, gl1, gl2, gl3, ↓reduceIte, Nat.reduceEqDiff, Nat.reduceAdd, Nat.reduceLeDiff, pBuild, fillA, ↓Api_Sets.r] | refine Cut.go ?_))
  refine Split_lt (fun hkl => ?_) (fun hkl => ?_)
  · (repeat (first | simp -dsimp -implicitDefEqProofs (disch := omega) only [↓gp0, ↓gp1, ↓gp2, gq0, gq1, gq2, gq3, gq4, gq5, gq6, gq7, gq8, gq9, go0, go1, gl0, gl1, gl2, gl3, ↓reduceIte, Nat.reduceEqDiff, Nat.reduceAdd, Nat.reduceLeDiff, pBuild, fillA, ↓Api_Sets.r] | refine Cut.go ?_))
    refine CallsA.go (has_does set hset k (by omega) _) ?_
    rcases hb : set.testBit k with _ | _
    · (repeat (first | simp -dsimp -implicitDefEqProofs (disch := omega) only [↓gp0, ↓gp1, ↓gp2, gq0, gq1, gq2, gq3, gq4, gq5, gq6, gq7, gq8, gq9, go0, go1, gl0, gl1, gl2, gl3, ↓reduceIte, Nat.reduceEqDiff, Nat.reduceAdd, Nat.reduceLeDiff, pBuild, fillA, ↓Api_Sets.r, wk1 k (by omega)] | refine Cut.go ?_))
      rw [loopPost_normal, hI]
      refine ⟨64 - (k + 1), by omega, k + 1, rfl, by omega, rfl, fun j hj => ?_, rfl⟩
      by_cases e : j = k
      · subst e; exact hb
      · exact hlow j (by omega)
    · (repeat (first | simp -dsimp -implicitDefEqProofs (disch := omega) only [↓gp0, ↓gp1, ↓gp2, gq0, gq1, gq2, gq3, gq4, gq5, gq6, gq7, gq8, gq9, go0, go1, gl0, gl1, gl2, gl3, ↓reduceIte, Nat.reduceEqDiff, Nat.reduceAdd, Nat.reduceLeDiff, pBuild, fillA, ↓Api_Sets.r] | refine Cut.go ?_))
      rw [firstB_eq hset hlow (Or.inr ⟨by omega, hb⟩)] at hex
      exact hex
  · (repeat (first | simp -dsimp -implicitDefEqProofs (disch := omega) only [↓gp0, ↓gp1, ↓gp2, gq0, gq1, gq2, gq3, gq4, gq5, gq6, gq7, gq8, gq9, go0, go1, gl0, gl1, gl2, gl3, ↓reduceIte, Nat.reduceEqDiff, Nat.reduceAdd, Nat.reduceLeDiff, pBuild, fillA, ↓Api_Sets.r] | refine Cut.go ?_))
    have e : k = 64 := by omega
    subst e
    rw [firstB_eq hset hlow (Or.inl rfl)] at hex
    exact hex

theorem ClassIs_does (n : Int) (rows : Option Rws) (set : Nat) (hn : okI n) (hr : okSl (okSl okN) rows) (hset : okN set) (h : AHeap) : CallsA Tryd.prog 3 [.int .i64 n, slAV 1 (fun o => [slAV 1 encN o]) rows, .int .u64 (set : Nat)] h (fun v h2 => v = .bool true) := by
  apply padlocklaw12_ClassIs_wp
  (repeat (first | simp -dsimp -implicitDefEqProofs (disch := omega) only [↓gp0, ↓gp1, ↓gp2, gq0, gq1, gq2, gq3, gq4, gq5, gq6, gq7, gq8, gq9, go0, go1, gl0, gl1, gl2, gl3, ↓reduceIte, Nat.reduceEqDiff, Nat.reduceAdd, Nat.reduceLeDiff, pBuild, fillA, ↓Api_Sets.r] | refine Cut.go ?_))
  refine CallsA.go (alive_does _) ?_
  have hrl : (slL rows).length ≤ 9223372036854775807 := Nat.le_trans hr.1 (by decide)
  have out : ∀ (H : AHeap), (n < 0 ∨ 12 < n ∨ 6 < (slL rows).length) → (6 < (slL rows).length ∨ 12 < n ∨ n < 0) := fun _ h => by omega
  have neg : n < 0 → ∀ (H : AHeap) (K : AV → AHeap → Prop), (∀ id H2, K (.sl id 0 0 1) H2) → CallsA Tryd.prog 13 [.int .i64 n, .agg [.nils, .nils, .nils]] H K := fun hn0 H K hK => by
    refine (split_does n ⟨none, none, none⟩ (by omega) (by simp) (by simp) (fun o ho => by simp [rowsOf] at ho; rw [ho]; simp) (fun x hx => by simp [setsOf, setsIn, rowsOf] at hx) H).mono ?_
    rintro _ H2 ⟨id, o, rfl, -, -, -, -, hc⟩
    have : o.length = 0 := by
      obtain ⟨f, -, -, rfl⟩ := hc
      simp; omega
    rw [this]; exact hK id H2
  (repeat (first | simp -dsimp -implicitDefEqProofs (disch := omega) only [↓gp0, ↓gp1, ↓gp2, gq0, gq1, gq2, gq3, gq4, gq5, gq6, gq7, gq8, gq9, go0, go1, gl0, gl1, gl2, gl3, ↓reduceIte, Nat.reduceEqDiff, Nat.reduceAdd, Nat.reduceLeDiff, pBuild, fillA, ↓Api_Sets.r, Bool.not_true] | refine Cut.go ?_))
  refine Split_lt (fun h1 => ?_) (fun h1 => ?_)
  · -- a negative number of sites
    (repeat (first | simp -dsimp -implicitDefEqProofs (disch := omega) only [↓gp0, ↓gp1, ↓gp2, gq0, gq1, gq2, gq3, gq4, gq5, gq6, gq7, gq8, gq9, go0, go1, gl0, gl1, gl2, gl3, ↓reduceIte, Nat.reduceEqDiff, Nat.reduceAdd, Nat.reduceLeDiff, pBuild, fillA, ↓Api_Sets.r] | refine Cut.go ?_))
    refine Split_lt (fun h2 => ?_) (fun h2 => ?_)
    · (repeat (first | simp -dsimp -implicitDefEqProofs (disch := omega) only [↓gp0, ↓gp1, ↓gp2, gq0, gq1, gq2, gq3, gq4, gq5, gq6, gq7, gq8, gq9, go0, go1, gl0, gl1, gl2, gl3, ↓reduceIte, Nat.reduceEqDiff, Nat.reduceAdd, Nat.reduceLeDiff, pBuild, fillA, ↓Api_Sets.r] | refine Cut.go ?_))
    · (repeat (first | simp -dsimp -implicitDefEqProofs (disch := omega) only [↓gp0, ↓gp1, ↓gp2, gq0, gq1, gq2, gq3, gq4, gq5, gq6, gq7, gq8, gq9, go0, go1, gl0, gl1, gl2, gl3, ↓reduceIte, Nat.reduceEqDiff, Nat.reduceAdd, Nat.reduceLeDiff, pBuild, fillA, ↓Api_Sets.r] | refine Cut.go ?_))
      refine neg h1 _ _ (fun id H2 => ?_)
      (repeat (first | simp -dsimp -implicitDefEqProofs (disch := omega) only [↓gp0, ↓gp1, ↓gp2, gq0, gq1, gq2, gq3, gq4, gq5, gq6, gq7, gq8, gq9, go0, go1, gl0, gl1, gl2, gl3, ↓reduceIte, Nat.reduceEqDiff, Nat.reduceAdd, Nat.reduceLeDiff, pBuild, fillA, ↓Api_Sets.r] | refine Cut.go ?_))
  (repeat (first | simp -dsimp -implicitDefEqProofs (disch := omega) only [↓gp0, ↓gp1, ↓gp2, gq0, gq1, gq2, gq3, gq4, gq5, gq6, gq7, gq8, gq9, go0, go1, gl0, gl1, gl2, gl3, ↓reduceIte, Nat.reduceEqDiff, Nat.reduceAdd, Nat.reduceLeDiff, pBuild, fillA, ↓Api_Sets.r] | refine Cut.go ?_))
  refine Split_lt (fun h2 => ?_) (fun h2 => ?_)
  · -- too many sites
    (repeat (first | simp -dsimp -implicitDefEqProofs (disch := omega) only [↓gp0, ↓gp1, ↓gp2, gq0, gq1, gq2, gq3, gq4, gq5, gq6, gq7, gq8, gq9, go0, go1, gl0, gl1, gl2, gl3, ↓reduceIte, Nat.reduceEqDiff, Nat.reduceAdd, Nat.reduceLeDiff, pBuild, fillA, ↓Api_Sets.r] | refine Cut.go ?_))
    refine Split_lt (fun h3 => ?_) (fun h3 => ?_)
    · (repeat (first | simp -dsimp -implicitDefEqProofs (disch := omega) only [↓gp0, ↓gp1, ↓gp2, gq0, gq1, gq2, gq3, gq4, gq5, gq6, gq7, gq8, gq9, go0, go1, gl0, gl1, gl2, gl3, ↓reduceIte, Nat.reduceEqDiff, Nat.reduceAdd, Nat.reduceLeDiff, pBuild, fillA, ↓Api_Sets.r] | refine Cut.go ?_))
    · (repeat (first | simp -dsimp -implicitDefEqProofs (disch := omega) only [↓gp0, ↓gp1, ↓gp2, gq0, gq1, gq2, gq3, gq4, gq5, gq6, gq7, gq8, gq9, go0, go1, gl0, gl1, gl2, gl3, ↓reduceIte, Nat.reduceEqDiff, Nat.reduceAdd, Nat.reduceLeDiff, pBuild, fillA, ↓Api_Sets.r] | refine Cut.go ?_))
  (repeat (first | simp -dsimp -implicitDefEqProofs (disch := omega) only [↓gp0, ↓gp1, ↓gp2, gq0, gq1, gq2, gq3, gq4, gq5, gq6, gq7, gq8, gq9, go0, go1, gl0, gl1, gl2, gl3, ↓reduceIte, Nat.reduceEqDiff, Nat.reduceAdd, Nat.reduceLeDiff, pBuild, fillA, ↓Api_Sets.r] | refine Cut.go ?_))
  refine Split_lt (fun h3 => ?_) (fun h3 => ?_)
  · -- too many rows
    (repeat (first | simp -dsimp -implicitDefEqProofs (disch := omega) only [↓gp0, ↓gp1, ↓gp2, gq0, gq1, gq2, gq3, gq4, gq5, gq6, gq7, gq8, gq9, go0, go1, gl0, gl1, gl2, gl3, ↓reduceIte, Nat.reduceEqDiff, Nat.reduceAdd, Nat.reduceLeDiff, pBuild, fillA, ↓Api_Sets.r] | refine Cut.go ?_))
  obtain ⟨m, rfl⟩ : ∃ m : Nat, n = m := ⟨n.toNat, by omega⟩
  have hm : m ≤ 12 := by omega
  (repeat (first | simp -dsimp -implicitDefEqProofs (disch := omega) only [↓gp0, ↓gp1, ↓gp2, gq0, gq1, gq2, gq3, gq4, gq5, gq6, gq7, gq8, gq9, go0, go1, gl0, gl1, gl2, gl3, ↓reduceIte, Nat.reduceEqDiff, Nat.reduceAdd, Nat.reduceLeDiff, pBuild, fillA, ↓Api_Sets.r] | refine Cut.go ?_))
  refine ClassIs_rows hm rows (by omega) hr set h _ ?_ (fun hall => ?_)
  · (repeat (first | simp -dsimp -implicitDefEqProofs (disch := omega) only [↓gp0, ↓gp1, ↓gp2, gq0, gq1, gq2, gq3, gq4, gq5, gq6, gq7, gq8, gq9, go0, go1, gl0, gl1, gl2, gl3, ↓reduceIte, Nat.reduceEqDiff, Nat.reduceAdd, Nat.reduceLeDiff, pBuild, fillA, ↓Api_Sets.r] | refine Cut.go ?_))
  have fw := few_of hm (by omega : (slL rows).length ≤ 1000) hall
  (repeat (first | simp -dsimp -implicitDefEqProofs (disch := omega) only [↓gp0, ↓gp1, ↓gp2, gq0, gq1, gq2, gq3, gq4, gq5, gq6, gq7, gq8, gq9, go0, go1, gl0, gl1, gl2, gl3, ↓reduceIte, Nat.reduceEqDiff, Nat.reduceAdd, Nat.reduceLeDiff, pBuild, fillA, ↓Api_Sets.r] | refine Cut.go ?_))
  refine (sets_does rows (by omega) _).mono ?_
  rintro _ H1 ⟨cs1, rfl, l1, f1, y1, s1, k1⟩
  (repeat (first | simp -dsimp -implicitDefEqProofs (disch := omega) only [↓gp0, ↓gp1, ↓gp2, gq0, gq1, gq2, gq3, gq4, gq5, gq6, gq7, gq8, gq9, go0, go1, gl0, gl1, gl2, gl3, ↓reduceIte, Nat.reduceEqDiff, Nat.reduceAdd, Nat.reduceLeDiff, pBuild, fillA, ↓Api_Sets.r] | refine Cut.go ?_))
  refine (split_sub hm fw s1 _).mono ?_
  rintro _ H2 ⟨id1, o1, rfl, ho1, n1, lt1, k2, c1, e1⟩
  (repeat (first | simp -dsimp -implicitDefEqProofs (disch := omega) only [↓gp0, ↓gp1, ↓gp2, gq0, gq1, gq2, gq3, gq4, gq5, gq6, gq7, gq8, gq9, go0, go1, gl0, gl1, gl2, gl3, ↓reduceIte, Nat.reduceEqDiff, Nat.reduceAdd, Nat.reduceLeDiff, pBuild, fillA, ↓Api_Sets.r] | refine Cut.go ?_))
  refine (sets_does rows (by omega) _).mono ?_
  rintro _ H3 ⟨cs2, rfl, l2, f2, y2, s2, k3⟩
  (repeat (first | simp -dsimp -implicitDefEqProofs (disch := omega) only [↓gp0, ↓gp1, ↓gp2, gq0, gq1, gq2, gq3, gq4, gq5, gq6, gq7, gq8, gq9, go0, go1, gl0, gl1, gl2, gl3, ↓reduceIte, Nat.reduceEqDiff, Nat.reduceAdd, Nat.reduceLeDiff, pBuild, fillA, ↓Api_Sets.r] | refine Cut.go ?_))
  refine (ref_sub hm fw s2 _).mono ?_
  rintro v44 H4 ⟨o2, c2, e2, k4, hv⟩
  have := isCls_same fw c1 c2
  subst this
  have ho4 : H4.objs id1 = some (.row 3 (nsAV o1)) := by
    rw [k4.objs _ (by have := k3.next; omega) (by simp), k3.objs _ lt1 (by simp)]; exact ho1
  have hv' : (o1.length = 0 ∧ v44 = .nils) ∨ (0 < o1.length ∧ ∃ id2, v44 = .sl id2 0 o1.length 1 ∧ H4.objs id2 = some (.row 3 (nsAV o1))) := by
    rcases hv with ⟨a, b⟩ | ⟨a, id2, b, c, -, -⟩
    · exact Or.inl ⟨by omega, b⟩
    · exact Or.inr ⟨by omega, id2, b, c⟩
  have hlen : ∀ K : AV → Prop, pLen .slice v44 K = K (.int .i64 o1.length) := fun K => by
    rcases hv' with ⟨a, rfl⟩ | ⟨a, id2, rfl, -⟩
    · rw [pLen_nils, a]; rfl
    · rw [pLen_sl]
  have hget : ∀ (k : Nat) (hk : k < o1.length), ∃ p, (∀ K : AV → Prop, pIndexAddr (.slice 1) v44 (.int .i64 (k : Int)) K = K p) ∧ ∀ K : AV → Prop, pLoad none p H4 K = K (.int .i64 (o1.getD k 0 : Nat)) := fun k hk => by
    rcases hv' with ⟨a, rfl⟩ | ⟨a, id2, rfl, b⟩
    · omega
    · refine ⟨.ptr id2 k, fun K => ix_ns hk K, fun K => ld_ns b ?_ K⟩
      rw [List.getD_eq_getElem?_getD, List.getElem?_eq_getElem hk]; rfl
  have hd1 : ∀ (k : Nat) (hk : k < o1.length), o1[k]? = some (o1.getD k 0) := fun k hk => by
    rw [List.getD_eq_getElem?_getD, List.getElem?_eq_getElem hk]; rfl
  (repeat (first | simp -dsimp -implicitDefEqProofs (disch := omega) only [↓gp0, ↓gp1, ↓gp2, gq0, gq1, gq2, gq3, gq4, gq5, gq6, gq7, gq8, gq9, go0, go1, gl0, gl1, gl2, gl3, ↓reduceIte, Nat.reduceEqDiff, Nat.reduceAdd, Nat.reduceLeDiff, pBuild, fillA, ↓Api_Sets.r, ↓hlen] | refine Cut.go ?_))
  -- number by number
  obtain ⟨I, hI⟩ : ∃ I : Nat → Fr → AHeap → Prop, I = (fun r fr hh => ∃ (i : Nat), r = o1.length - i ∧ i ≤ o1.length ∧ hh = H4 ∧ fr = frOf [(2, .int .u64 (set : Nat)), (11, .sl id1 0 o1.length 1), (12, v44), (80, .int .i64 o1.length), (81, .int .i64 i)]) := ⟨_, rfl⟩
  refine WP_loop mixed_ (by kernel_rfl) I o1.length (by rw [hI]; exact ⟨0, rfl, Nat.zero_le _, rfl, rfl⟩) ?_
  intro r fr hh hi
  rw [hI] at hi
  obtain ⟨i, rfl, hi, rfl, rfl⟩ := hi
  apply padlocklaw12_ClassIs_loop19
  (repeat (first | simp -dsimp -implicitDefEqProofs (disch := omega) only [↓gp0, ↓gp1, ↓gp2, gq0, gq1, gq2, gq3, gq4, gq5, gq6, gq7, gq8, gq9, go0, go1, gl0, gl1, gl2, gl3, ↓reduceIte, Nat.reduceEqDiff, Nat.reduceAdd, Nat.reduceLeDiff, pBuild, fillA, ↓Api_Sets.r] | refine Cut.go ?_))
  refine Split_lt (fun hil => ?_) (fun hil => ?_)
  · obtain ⟨p, hp1, hp2⟩ := hget i (by omega)
    (repeat (first | simp -dsimp -implicitDefEqProofs (disch := omega) only [↓gp0, ↓gp1, ↓gp2, gq0, gq1, gq2, gq3, gq4, gq5, gq6, gq7, gq8, gq9, go0, go1, gl0, gl1, gl2, gl3, ↓reduceIte, Nat.reduceEqDiff, Nat.reduceAdd, Nat.reduceLeDiff, pBuild, fillA, ↓Api_Sets.r, ix_ns (show i < o1.length by omega), ld_ns ho4 (hd1 i (by omega)), ↓hp1, ↓hp2, bne_self_eq_false, wk1 i (by omega)] | refine Cut.go ?_))
    rw [loopPost_normal, hI]
    exact ⟨_, by omega, i + 1, rfl, by omega, rfl, rfl⟩
  (repeat (first | simp -dsimp -implicitDefEqProofs (disch := omega) only [↓gp0, ↓gp1, ↓gp2, gq0, gq1, gq2, gq3, gq4, gq5, gq6, gq7, gq8, gq9, go0, go1, gl0, gl1, gl2, gl3, ↓reduceIte, Nat.reduceEqDiff, Nat.reduceAdd, Nat.reduceLeDiff, pBuild, fillA, ↓Api_Sets.r] | refine Cut.go ?_))
  refine ClassIs_find set hset (by omega) v44 ho4 hv' _ ?_
  (repeat (first | simp -dsimp -implicitDefEqProofs (disch := omega) only [↓gp0, ↓gp1, ↓gp2, gq0, gq1, gq2, gq3, gq4, gq5, gq6, gq7, gq8, gq9, go0, go1, gl0, gl1, gl2, gl3, ↓reduceIte, Nat.reduceEqDiff, Nat.reduceAdd, Nat.reduceLeDiff, pBuild, fillA, ↓Api_Sets.r, ↓hlen] | refine Cut.go ?_))
  refine Split_le (fun h5 => ?_) (fun h5 => ?_)
  · (repeat (first | simp -dsimp -implicitDefEqProofs (disch := omega) only [↓gp0, ↓gp1, ↓gp2, gq0, gq1, gq2, gq3, gq4, gq5, gq6, gq7, gq8, gq9, go0, go1, gl0, gl1, gl2, gl3, ↓reduceIte, Nat.reduceEqDiff, Nat.reduceAdd, Nat.reduceLeDiff, pBuild, fillA, ↓Api_Sets.r] | refine Cut.go ?_))
    refine CallsA.go (of_does set hset (by omega) ho4) ?_
    rw [List.getD_eq_getElem?_getD, List.getElem?_eq_none (by omega)]
    (repeat (first | simp -dsimp -implicitDefEqProofs (disch := omega) only [↓gp0, ↓gp1, ↓gp2, gq0, gq1, gq2, gq3, gq4, gq5, gq6, gq7, gq8, gq9, go0, go1, gl0, gl1, gl2, gl3, ↓reduceIte, Nat.reduceEqDiff, Nat.reduceAdd, Nat.reduceLeDiff, pBuild, fillA, ↓Api_Sets.r] | refine Cut.go ?_))
    rfl
  · obtain ⟨p, hp1, hp2⟩ := hget (firstB set) (by omega)
    (repeat (first | simp -dsimp -implicitDefEqProofs (disch := omega) only [↓gp0, ↓gp1, ↓gp2, gq0, gq1, gq2, gq3, gq4, gq5, gq6, gq7, gq8, gq9, go0, go1, gl0, gl1, gl2, gl3, ↓reduceIte, Nat.reduceEqDiff, Nat.reduceAdd, Nat.reduceLeDiff, pBuild, fillA, ↓Api_Sets.r, ↓hp1, ↓hp2] | refine Cut.go ?_))
    refine CallsA.go (of_does set hset (by omega) ho4) ?_
    (repeat (first | simp -dsimp -implicitDefEqProofs (disch := omega) only [↓gp0, ↓gp1, ↓gp2, gq0, gq1, gq2, gq3, gq4, gq5, gq6, gq7, gq8, gq9, go0, go1, gl0, gl1, gl2, gl3, ↓reduceIte, Nat.reduceEqDiff, Nat.reduceAdd, Nat.reduceLeDiff, pBuild, fillA, ↓Api_Sets.r, ↓hp2, beq_self_eq_true] | refine Cut.go ?_))
end Go.Proofs.YtopfjochppdnfaaDoor
