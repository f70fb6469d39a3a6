/- With a set more classes are joined, never parted: the law. -/
import Derived.Test.YtopfjochppdnfaaDoorClIs
set_option linter.unusedVariables false
set_option linter.unusedSimpArgs false
set_option maxRecDepth 100000
set_option maxHeartbeats 1000000
namespace Go.Proofs.YtopfjochppdnfaaDoor
open Go.Abs

/-- With a set more. -/
theorem more_holds {l : Rws} {more m : Nat} (fa : Few m (setsS l)) (fb : Few m (setsS (l ++ [some [more]]))) {a b : List Nat} (ha : IsCls m (setsOf (setsS l)) a) (hb : IsCls m (setsOf (setsS (l ++ [some [more]]))) b) (i k : Nat) (hi : i < m) (hk : k < m) :
    (a[i]? = a[k]? → b[i]? = b[k]?) ∧ (more.testBit i = true → more.testBit k = true → b[i]? = b[k]?) := by
  obtain ⟨f, hf, hfl, rfl⟩ := ha
  obtain ⟨g, hg, hgl, rfl⟩ := hb
  have hin : ∀ x, x ∈ setsOf (setsS (l ++ [some [more]])) ↔ x ∈ setsOf (setsS l) ∨ x = more := fun x => by
    rw [mem_setsOf, mem_setsOf, setsIn_snoc, List.mem_append]
    simp
  rw [map_range_get _ hi, map_range_get _ hk, map_range_get _ hi, map_range_get _ hk]
  simp only [Option.some.injEq]
  rw [clsOf_eq, clsOf_eq, says_conn fa hf, says_conn fb hg]
  refine ⟨fun h => h.map fun x y ⟨s, h1, h2⟩ => Conn.one ⟨s, (hin s).2 (Or.inl h1), h2⟩, fun h1 h2 => Conn.one ⟨more, (hin more).2 (Or.inr rfl), h1, h2⟩⟩

theorem few_more {l : Rws} {more m : Nat} (hm : m ≤ 12) (hl : l.length ≤ 100) (h : ∀ o ∈ l, (slL o).length ≤ 8 ∧ ∀ x ∈ slL o, x < 2 ^ m) (hmore : more < 2 ^ m) : Few m (setsS (l ++ [some [more]])) := by
  refine few_of hm (by simp; omega) fun o ho => ?_
  rcases List.mem_append.1 ho with ho | ho
  · exact h o ho
  · simp at ho; subst ho
    simp; exact hmore

section
variable {m id1 id2 : Nat} {a b : List Nat} {more : Nat}

theorem ClassMore_in (hmore : more < 18446744073709551616) (hm : m ≤ 12) (ha : a.length = m) (hb : b.length = m) (i : Nat) (hi : i < m) (ok : ∀ k, k < m → (a[i]? = a[k]? → b[i]? = b[k]?) ∧ (more.testBit i = true → more.testBit k = true → b[i]? = b[k]?)) {h0 : AHeap} (h1 : h0.objs id1 = some (.row 3 (nsAV a))) (h2 : h0.objs id2 = some (.row 3 (nsAV b))) (Q : AExit → Fr → AHeap → Prop)
    (hex : Q (.exit 6) (frOf [(2, .int .u64 (more : Nat)), (11, .sl id1 0 m 1), (12, .sl id2 0 m 1), (84, .int .i64 m), (85, .int .i64 i)]) h0) :
    WP Tryd.prog 136 (.loop c_padlocklaw12_ClassMore_23) (frOf [(2, .int .u64 (more : Nat)), (11, .sl id1 0 m 1), (12, .sl id2 0 m 1), (13, .int .i64 i), (84, .int .i64 m), (85, .int .i64 i), (89, .int .i64 m), (90, .int .i64 0)]) h0 Q := by
  obtain ⟨I, hI⟩ : ∃ I : Nat → Fr → AHeap → Prop, I = (fun r fr hh => ∃ (k : Nat), r = m - k ∧ k ≤ m ∧ hh = h0 ∧ fr = frOf [(2, .int .u64 (more : Nat)), (11, .sl id1 0 m 1), (12, .sl id2 0 m 1), (13, .int .i64 i), (84, .int .i64 m), (85, .int .i64 i), (89, .int .i64 m), (90, .int .i64 k)]) := ⟨_, rfl⟩
  refine WP_loop mixed_ (by kernel_rfl) I m (by rw [hI]; exact ⟨0, rfl, Nat.zero_le _, rfl, rfl⟩) ?_
  intro r fr hh hi2
  rw [hI] at hi2
  obtain ⟨k, rfl, hk, rfl, rfl⟩ := hi2
  apply padlocklaw12_ClassMore_loop23
  (repeat (first | simp -dsimp -implicitDefEqProofs (disch := omega) only [↓gp0, ↓gp1, ↓gp2, gq0, gq1, gq2, gq3, gq4, gq5, gq6, gq7, gq8, gq9, go0, go1, gl0, gl1, gl2, gl3, ↓reduceIte, Nat.reduceEqDiff, Nat.reduceAdd, Nat.reduceLeDiff, pBuild, fillA, ↓Api_Sets.r] | refine Cut.go ?_))
  refine Split_lt (fun hkl => ?_) (fun hkl => ?_)
  · have hk2 : k < m := by omega
    obtain ⟨ai, hai⟩ : ∃ x, a[i]? = some x := ⟨_, List.getElem?_eq_getElem (by omega)⟩
    obtain ⟨ak, hak⟩ : ∃ x, a[k]? = some x := ⟨_, List.getElem?_eq_getElem (by omega)⟩
    obtain ⟨bi, hbi⟩ : ∃ x, b[i]? = some x := ⟨_, List.getElem?_eq_getElem (by omega)⟩
    obtain ⟨bk, hbk⟩ : ∃ x, b[k]? = some x := ⟨_, List.getElem?_eq_getElem (by omega)⟩
    obtain ⟨o1, o2⟩ := ok k hk2
    rw [hai, hak, hbi, hbk] at o1
    rw [hbi, hbk] at o2
    simp only [Option.some.injEq] at o1 o2
    have done : loopPost I (m - k) Q .normal (frOf [(2, .int .u64 (more : Nat)), (11, .sl id1 0 m 1), (12, .sl id2 0 m 1), (13, .int .i64 i), (84, .int .i64 m), (85, .int .i64 i), (89, .int .i64 m), (90, .int .i64 ((k + 1 : Nat) : Int))]) hh := by
      rw [loopPost_normal, hI]
      exact ⟨_, by omega, k + 1, rfl, by omega, rfl, rfl⟩
    have ea : ∀ x y : Nat, ((x : Int) == (y : Int)) = decide (x = y) := fun x y => by rw [Bool.eq_iff_iff]; simp; omega
    have eb : ∀ x y : Nat, ((x : Int) != (y : Int)) = !decide (x = y) := fun x y => by rw [bne, ea]
    have tail : ∀ (K : Bool → Prop), True := fun _ => trivial
    (repeat (first | simp -dsimp -implicitDefEqProofs (disch := omega) only [↓gp0, ↓gp1, ↓gp2, gq0, gq1, gq2, gq3, gq4, gq5, gq6, gq7, gq8, gq9, go0, go1, gl0, gl1, gl2, gl3, ↓reduceIte, Nat.reduceEqDiff, Nat.reduceAdd, Nat.reduceLeDiff, pBuild, fillA, ↓Api_Sets.r, ix_ns hi, ix_ns hk2, ld_ns h1 hai, ld_ns h1 hak, ld_ns h2 hbi, ld_ns h2 hbk, ea, eb] | refine Cut.go ?_))
    by_cases e1 : ai = ak
    · have e2 := o1 e1
      rw [decide_eq_true e1]
      (repeat (first | simp -dsimp -implicitDefEqProofs (disch := omega) only [↓gp0, ↓gp1, ↓gp2, gq0, gq1, gq2, gq3, gq4, gq5, gq6, gq7, gq8, gq9, go0, go1, gl0, gl1, gl2, gl3, ↓reduceIte, Nat.reduceEqDiff, Nat.reduceAdd, Nat.reduceLeDiff, pBuild, fillA, ↓Api_Sets.r, ix_ns hi, ix_ns hk2, ld_ns h1 hai, ld_ns h1 hak, ld_ns h2 hbi, ld_ns h2 hbk, ea, eb, decide_eq_true e2] | refine Cut.go ?_))
      refine CallsA.go (has_does more hmore i (by omega) _) ?_
      rcases t1 : more.testBit i with _ | _
      · (repeat (first | simp -dsimp -implicitDefEqProofs (disch := omega) only [↓gp0, ↓gp1, ↓gp2, gq0, gq1, gq2, gq3, gq4, gq5, gq6, gq7, gq8, gq9, go0, go1, gl0, gl1, gl2, gl3, ↓reduceIte, Nat.reduceEqDiff, Nat.reduceAdd, Nat.reduceLeDiff, pBuild, fillA, ↓Api_Sets.r, ix_ns hi, ix_ns hk2, ld_ns h1 hai, ld_ns h1 hak, ld_ns h2 hbi, ld_ns h2 hbk, ea, eb, decide_eq_true e2, wk1 k (by omega)] | refine Cut.go ?_))
        exact done
      · (repeat (first | simp -dsimp -implicitDefEqProofs (disch := omega) only [↓gp0, ↓gp1, ↓gp2, gq0, gq1, gq2, gq3, gq4, gq5, gq6, gq7, gq8, gq9, go0, go1, gl0, gl1, gl2, gl3, ↓reduceIte, Nat.reduceEqDiff, Nat.reduceAdd, Nat.reduceLeDiff, pBuild, fillA, ↓Api_Sets.r] | refine Cut.go ?_))
        refine CallsA.go (has_does more hmore k (by omega) _) ?_
        rcases t2 : more.testBit k with _ | _
        · (repeat (first | simp -dsimp -implicitDefEqProofs (disch := omega) only [↓gp0, ↓gp1, ↓gp2, gq0, gq1, gq2, gq3, gq4, gq5, gq6, gq7, gq8, gq9, go0, go1, gl0, gl1, gl2, gl3, ↓reduceIte, Nat.reduceEqDiff, Nat.reduceAdd, Nat.reduceLeDiff, pBuild, fillA, ↓Api_Sets.r, ix_ns hi, ix_ns hk2, ld_ns h1 hai, ld_ns h1 hak, ld_ns h2 hbi, ld_ns h2 hbk, ea, eb, decide_eq_true e2, wk1 k (by omega)] | refine Cut.go ?_))
          exact done
        · (repeat (first | simp -dsimp -implicitDefEqProofs (disch := omega) only [↓gp0, ↓gp1, ↓gp2, gq0, gq1, gq2, gq3, gq4, gq5, gq6, gq7, gq8, gq9, go0, go1, gl0, gl1, gl2, gl3, ↓reduceIte, Nat.reduceEqDiff, Nat.reduceAdd, Nat.reduceLeDiff, pBuild, fillA, ↓Api_Sets.r, ix_ns hi, ix_ns hk2, ld_ns h1 hai, ld_ns h1 hak, ld_ns h2 hbi, ld_ns h2 hbk, ea, eb, decide_eq_true e2, wk1 k (by omega)] | refine Cut.go ?_))
          exact done
    · rw [decide_eq_false e1]
      (repeat (first | simp -dsimp -implicitDefEqProofs (disch := omega) only [↓gp0, ↓gp1, ↓gp2, gq0, gq1, gq2, gq3, gq4, gq5, gq6, gq7, gq8, gq9, go0, go1, gl0, gl1, gl2, gl3, ↓reduceIte, Nat.reduceEqDiff, Nat.reduceAdd, Nat.reduceLeDiff, pBuild, fillA, ↓Api_Sets.r, ix_ns hi, ix_ns hk2, ld_ns h1 hai, ld_ns h1 hak, ld_ns h2 hbi, ld_ns h2 hbk, ea, eb] | refine Cut.go ?_))
      refine CallsA.go (has_does more hmore i (by omega) _) ?_
      rcases t1 : more.testBit i with _ | _
      · (repeat (first | simp -dsimp -implicitDefEqProofs (disch := omega) only [↓gp0, ↓gp1, ↓gp2, gq0, gq1, gq2, gq3, gq4, gq5, gq6, gq7, gq8, gq9, go0, go1, gl0, gl1, gl2, gl3, ↓reduceIte, Nat.reduceEqDiff, Nat.reduceAdd, Nat.reduceLeDiff, pBuild, fillA, ↓Api_Sets.r, ix_ns hi, ix_ns hk2, ld_ns h1 hai, ld_ns h1 hak, ld_ns h2 hbi, ld_ns h2 hbk, ea, eb, wk1 k (by omega)] | refine Cut.go ?_))
        exact done
      · (repeat (first | simp -dsimp -implicitDefEqProofs (disch := omega) only [↓gp0, ↓gp1, ↓gp2, gq0, gq1, gq2, gq3, gq4, gq5, gq6, gq7, gq8, gq9, go0, go1, gl0, gl1, gl2, gl3, ↓reduceIte, Nat.reduceEqDiff, Nat.reduceAdd, Nat.reduceLeDiff, pBuild, fillA, ↓Api_Sets.r] | refine Cut.go ?_))
        refine CallsA.go (has_does more hmore k (by omega) _) ?_
        rcases t2 : more.testBit k with _ | _
        · (repeat (first | simp -dsimp -implicitDefEqProofs (disch := omega) only [↓gp0, ↓gp1, ↓gp2, gq0, gq1, gq2, gq3, gq4, gq5, gq6, gq7, gq8, gq9, go0, go1, gl0, gl1, gl2, gl3, ↓reduceIte, Nat.reduceEqDiff, Nat.reduceAdd, Nat.reduceLeDiff, pBuild, fillA, ↓Api_Sets.r, ix_ns hi, ix_ns hk2, ld_ns h1 hai, ld_ns h1 hak, ld_ns h2 hbi, ld_ns h2 hbk, ea, eb, wk1 k (by omega)] | refine Cut.go ?_))
          exact done
        · have e2 := o2 t1 t2
          (repeat (first | simp -dsimp -implicitDefEqProofs (disch := omega) only [↓gp0, ↓gp1, ↓gp2, gq0, gq1, gq2, gq3, gq4, gq5, gq6, gq7, gq8, gq9, go0, go1, gl0, gl1, gl2, gl3, ↓reduceIte, Nat.reduceEqDiff, Nat.reduceAdd, Nat.reduceLeDiff, pBuild, fillA, ↓Api_Sets.r, ix_ns hi, ix_ns hk2, ld_ns h1 hai, ld_ns h1 hak, ld_ns h2 hbi, ld_ns h2 hbk, ea, eb, decide_eq_true e2, wk1 k (by omega)] | refine Cut.go ?_))
          exact done
  · (repeat (first | simp -dsimp -implicitDefEqProofs (disch := omega) only [↓gp0, ↓gp1, ↓gp2, gq0, gq1, gq2, gq3, gq4, gq5, gq6, gq7, gq8, gq9, go0, go1, gl0, gl1, gl2, gl3, ↓reduceIte, Nat.reduceEqDiff, Nat.reduceAdd, Nat.reduceLeDiff, pBuild, fillA, ↓Api_Sets.r] | refine Cut.go ?_))
    exact hex
end

/-- Rows behind an empty one, and one more behind them. -/
def EG (hh H3 : AHeap) (v : AV) (l : Rws) : Prop := (l = [] ∧ v = .eml ∧ H3 = hh) ∨ (l ≠ [] ∧ v = .gsl hh.next 1 (l.map encR) ∧ H3 = hh.push (.tok 27 l.length))
theorem app_eml {rows : Option Rws} (hl : (slL rows).length ≤ 1000) {hh : AHeap} (K : AV → AHeap → Prop) (hK : ∀ v H3, EG hh H3 v (slL rows) → K v H3) : pAppend true { e := 27, sz := 1, by_ := 24 } .eml (slAV 1 (fun o => [slAV 1 encN o]) rows) hh K := by
  unfold pAppend
  rw [srcElems_slAV]
  cases hc : slL rows with
  | nil => exact hK _ _ (Or.inl ⟨hc, rfl, rfl⟩)
  | cons x l =>
    have := hK (.gsl hh.next 1 ((slL rows).map encR)) (hh.push (.tok 27 (slL rows).length)) (Or.inr ⟨by rw [hc]; simp, rfl, rfl⟩)
    rw [hc] at this hl
    simp only [List.map_cons, List.length_cons, newSl, if_true, Nat.mul_one]
    refine ⟨by simp [bounded, maxLen] at hl ⊢; omega, ?_⟩
    have e : (fun o : Option (List Nat) => [slAV 1 encN o]) = encR := rfl
    simp only [e]
    simpa [encR] using this
theorem app_eg {hh H3 : AHeap} {v : AV} {l : Rws} (hl : l.length ≤ 1000) (hg : EG hh H3 v l) (o : Option (List Nat)) (K : AV → AHeap → Prop) (hK : ∀ id H4, Keeps hh H4 (fun _ => False) → K (.gsl id 1 ((l ++ [o]).map encR)) H4) : pAppend true { e := 27, sz := 1, by_ := 24 } v (.isl 1 [encR o]) H3 K := by
  rcases hg with ⟨rfl, rfl, rfl⟩ | ⟨hne, rfl, rfl⟩
  · have := hK H3.next (H3.push (.tok 27 1)) ((Keeps.refl _ _).pushS _)
    simp [pAppend, srcElems, newSl, bounded, maxLen, encR]
    simpa [encR] using this
  · refine app_gv (lo := 0) hl (Or.inr ⟨hne, hh.next, rfl, push_new _ _, Nat.zero_le _, by simp⟩) o K (fun hh2 r1 r2 r3 => ?_)
    refine hK _ _ ⟨by rw [r2]; simp; omega, fun j hj _ => ?_⟩
    rw [r3 j (by simp; omega) (fun es e => by injection e with e1 _; omega), push_old hj]

theorem ClassMore_does (n : Int) (rows : Option Rws) (more : Nat) (hn : okI n) (hr : okSl (okSl okN) rows) (hmore : okN more) (h : AHeap) : CallsA Tryd.prog 5 [.int .i64 n, slAV 1 (fun o => [slAV 1 encN o]) rows, .int .u64 (more : Nat)] h (fun v h2 => v = .bool true) := by
  apply padlocklaw12_ClassMore_wp
  (repeat (first | simp -dsimp -implicitDefEqProofs (disch := omega) only [↓gp0, ↓gp1, ↓gp2, gq0, gq1, gq2, gq3, gq4, gq5, gq6, gq7, gq8, gq9, go0, go1, gl0, gl1, gl2, gl3, ↓reduceIte, Nat.reduceEqDiff, Nat.reduceAdd, Nat.reduceLeDiff, pBuild, fillA, ↓Api_Sets.r] | refine Cut.go ?_))
  refine CallsA.go (alive_does _) ?_
  have hrl : (slL rows).length ≤ 9223372036854775807 := Nat.le_trans hr.1 (by decide)
  (repeat (first | simp -dsimp -implicitDefEqProofs (disch := omega) only [↓gp0, ↓gp1, ↓gp2, gq0, gq1, gq2, gq3, gq4, gq5, gq6, gq7, gq8, gq9, go0, go1, gl0, gl1, gl2, gl3, ↓reduceIte, Nat.reduceEqDiff, Nat.reduceAdd, Nat.reduceLeDiff, pBuild, fillA, ↓Api_Sets.r, Bool.not_true] | refine Cut.go ?_))
  refine Split_lt (fun h1 => ?_) (fun h1 => ?_)
  · (repeat (first | simp -dsimp -implicitDefEqProofs (disch := omega) only [↓gp0, ↓gp1, ↓gp2, gq0, gq1, gq2, gq3, gq4, gq5, gq6, gq7, gq8, gq9, go0, go1, gl0, gl1, gl2, gl3, ↓reduceIte, Nat.reduceEqDiff, Nat.reduceAdd, Nat.reduceLeDiff, pBuild, fillA, ↓Api_Sets.r] | refine Cut.go ?_))
  (repeat (first | simp -dsimp -implicitDefEqProofs (disch := omega) only [↓gp0, ↓gp1, ↓gp2, gq0, gq1, gq2, gq3, gq4, gq5, gq6, gq7, gq8, gq9, go0, go1, gl0, gl1, gl2, gl3, ↓reduceIte, Nat.reduceEqDiff, Nat.reduceAdd, Nat.reduceLeDiff, pBuild, fillA, ↓Api_Sets.r] | refine Cut.go ?_))
  refine Split_lt (fun h2 => ?_) (fun h2 => ?_)
  · (repeat (first | simp -dsimp -implicitDefEqProofs (disch := omega) only [↓gp0, ↓gp1, ↓gp2, gq0, gq1, gq2, gq3, gq4, gq5, gq6, gq7, gq8, gq9, go0, go1, gl0, gl1, gl2, gl3, ↓reduceIte, Nat.reduceEqDiff, Nat.reduceAdd, Nat.reduceLeDiff, pBuild, fillA, ↓Api_Sets.r] | refine Cut.go ?_))
  (repeat (first | simp -dsimp -implicitDefEqProofs (disch := omega) only [↓gp0, ↓gp1, ↓gp2, gq0, gq1, gq2, gq3, gq4, gq5, gq6, gq7, gq8, gq9, go0, go1, gl0, gl1, gl2, gl3, ↓reduceIte, Nat.reduceEqDiff, Nat.reduceAdd, Nat.reduceLeDiff, pBuild, fillA, ↓Api_Sets.r] | refine Cut.go ?_))
  refine Split_lt (fun h3 => ?_) (fun h3 => ?_)
  · (repeat (first | simp -dsimp -implicitDefEqProofs (disch := omega) only [↓gp0, ↓gp1, ↓gp2, gq0, gq1, gq2, gq3, gq4, gq5, gq6, gq7, gq8, gq9, go0, go1, gl0, gl1, gl2, gl3, ↓reduceIte, Nat.reduceEqDiff, Nat.reduceAdd, Nat.reduceLeDiff, pBuild, fillA, ↓Api_Sets.r] | refine Cut.go ?_))
  obtain ⟨m, rfl⟩ : ∃ m : Nat, n = m := ⟨n.toNat, by omega⟩
  have hm : m ≤ 12 := by omega
  have hpow : (2 : Nat) ^ m ≤ 4096 := by
    have : (2 : Nat) ^ m ≤ 2 ^ 12 := Nat.pow_le_pow_right (by decide) hm
    simpa using this
  have ec : IntKind.u64.wrap (m : Int) = (m : Int) := by rw [wr_u64]; omega
  have es : binA CmpK.other BinOp.shl (.int .u64 1) (.int .u64 (m : Int)) = some (.int .u64 ((2 ^ m : Nat) : Int)) := by
    have := iShl_u64 1 m (by omega)
    rw [binA_shl, if_neg (by omega)]
    rw [show ((1 : Nat) : Int) = 1 from rfl] at this
    rw [this, Nat.one_mul, Nat.mod_eq_of_lt (by omega)]
  have eg : binA CmpK.other BinOp.geq (.int .u64 (more : Int)) (.int .u64 ((2 ^ m : Nat) : Int)) = some (.bool (decide (2 ^ m ≤ more))) := by
    rw [binA_int_geq]
    congr 2
    rw [Bool.eq_iff_iff]
    simp only [decide_eq_true_eq]
    omega
  (repeat (first | simp -dsimp -implicitDefEqProofs (disch := omega) only [↓gp0, ↓gp1, ↓gp2, gq0, gq1, gq2, gq3, gq4, gq5, gq6, gq7, gq8, gq9, go0, go1, gl0, gl1, gl2, gl3, ↓reduceIte, Nat.reduceEqDiff, Nat.reduceAdd, Nat.reduceLeDiff, pBuild, fillA, ↓Api_Sets.r, ec, es, eg] | refine Cut.go ?_))
  by_cases hb : 2 ^ m ≤ more
  · rw [decide_eq_true hb]
    (repeat (first | simp -dsimp -implicitDefEqProofs (disch := omega) only [↓gp0, ↓gp1, ↓gp2, gq0, gq1, gq2, gq3, gq4, gq5, gq6, gq7, gq8, gq9, go0, go1, gl0, gl1, gl2, gl3, ↓reduceIte, Nat.reduceEqDiff, Nat.reduceAdd, Nat.reduceLeDiff, pBuild, fillA, ↓Api_Sets.r] | refine Cut.go ?_))
  rw [decide_eq_false hb]
  (repeat (first | simp -dsimp -implicitDefEqProofs (disch := omega) only [↓gp0, ↓gp1, ↓gp2, gq0, gq1, gq2, gq3, gq4, gq5, gq6, gq7, gq8, gq9, go0, go1, gl0, gl1, gl2, gl3, ↓reduceIte, Nat.reduceEqDiff, Nat.reduceAdd, Nat.reduceLeDiff, pBuild, fillA, ↓Api_Sets.r] | refine Cut.go ?_))
  refine ClassMore_rows hm rows (by omega) hr more h _ ?_ (fun hall => ?_)
  · (repeat (first | simp -dsimp -implicitDefEqProofs (disch := omega) only [↓gp0, ↓gp1, ↓gp2, gq0, gq1, gq2, gq3, gq4, gq5, gq6, gq7, gq8, gq9, go0, go1, gl0, gl1, gl2, gl3, ↓reduceIte, Nat.reduceEqDiff, Nat.reduceAdd, Nat.reduceLeDiff, pBuild, fillA, ↓Api_Sets.r] | refine Cut.go ?_))
  have fw := few_of hm (by omega : (slL rows).length ≤ 1000) hall
  have fw2 := few_more (more := more) hm (by omega : (slL rows).length ≤ 100) hall (by omega)
  (repeat (first | simp -dsimp -implicitDefEqProofs (disch := omega) only [↓gp0, ↓gp1, ↓gp2, gq0, gq1, gq2, gq3, gq4, gq5, gq6, gq7, gq8, gq9, go0, go1, gl0, gl1, gl2, gl3, ↓reduceIte, Nat.reduceEqDiff, Nat.reduceAdd, Nat.reduceLeDiff, pBuild, fillA, ↓Api_Sets.r] | refine Cut.go ?_))
  refine (sets_does rows (by omega) _).mono ?_
  rintro _ H1 ⟨cs1, rfl, l1, f1, y1, s1, k1⟩
  (repeat (first | simp -dsimp -implicitDefEqProofs (disch := omega) only [↓gp0, ↓gp1, ↓gp2, gq0, gq1, gq2, gq3, gq4, gq5, gq6, gq7, gq8, gq9, go0, go1, gl0, gl1, gl2, gl3, ↓reduceIte, Nat.reduceEqDiff, Nat.reduceAdd, Nat.reduceLeDiff, pBuild, fillA, ↓Api_Sets.r] | refine Cut.go ?_))
  refine (split_sub hm fw s1 _).mono ?_
  rintro _ H2 ⟨id1, o1, rfl, ho1, n1, lt1, k2, c1, e1⟩
  (repeat (first | simp -dsimp -implicitDefEqProofs (disch := omega) only [↓gp0, ↓gp1, ↓gp2, gq0, gq1, gq2, gq3, gq4, gq5, gq6, gq7, gq8, gq9, go0, go1, gl0, gl1, gl2, gl3, ↓reduceIte, Nat.reduceEqDiff, Nat.reduceAdd, Nat.reduceLeDiff, pBuild, fillA, ↓Api_Sets.r] | refine Cut.go ?_))
  have b0 : ∀ (H : AHeap) (K : AV → AHeap → Prop), pBuildSl false { e := 27, sz := 1, by_ := 24 } [AV.nils] 0 [] H K = K .eml H := fun H K => rfl
  (repeat (first | simp -dsimp -implicitDefEqProofs (disch := omega) only [↓gp0, ↓gp1, ↓gp2, gq0, gq1, gq2, gq3, gq4, gq5, gq6, gq7, gq8, gq9, go0, go1, gl0, gl1, gl2, gl3, ↓reduceIte, Nat.reduceEqDiff, Nat.reduceAdd, Nat.reduceLeDiff, pBuild, fillA, ↓Api_Sets.r, b0] | refine Cut.go ?_))
  refine app_eml (by omega) _ (fun v35 H3 hEG => ?_)
  (repeat (first | simp -dsimp -implicitDefEqProofs (disch := omega) only [↓gp0, ↓gp1, ↓gp2, gq0, gq1, gq2, gq3, gq4, gq5, gq6, gq7, gq8, gq9, go0, go1, gl0, gl1, gl2, gl3, ↓reduceIte, Nat.reduceEqDiff, Nat.reduceAdd, Nat.reduceLeDiff, pBuild, fillA, ↓Api_Sets.r] | refine Cut.go ?_))
  rw [bslI (by rfl)]
  (repeat (first | simp -dsimp -implicitDefEqProofs (disch := omega) only [↓gp0, ↓gp1, ↓gp2, gq0, gq1, gq2, gq3, gq4, gq5, gq6, gq7, gq8, gq9, go0, go1, gl0, gl1, gl2, gl3, ↓reduceIte, Nat.reduceEqDiff, Nat.reduceAdd, Nat.reduceLeDiff, pBuild, fillA, ↓Api_Sets.r] | refine Cut.go ?_))
  rw [bslI (by rfl)]
  (repeat (first | simp -dsimp -implicitDefEqProofs (disch := omega) only [↓gp0, ↓gp1, ↓gp2, gq0, gq1, gq2, gq3, gq4, gq5, gq6, gq7, gq8, gq9, go0, go1, gl0, gl1, gl2, gl3, ↓reduceIte, Nat.reduceEqDiff, Nat.reduceAdd, Nat.reduceLeDiff, pBuild, fillA, ↓Api_Sets.r] | refine Cut.go ?_))
  have eR : [[AV.isl 1 [[AV.int IntKind.u64 (more : Int)]]]] = [encR (some [more])] := rfl
  rw [eR]
  refine app_eg (by omega) hEG (some [more]) _ (fun gid H4 k3 => ?_)
  (repeat (first | simp -dsimp -implicitDefEqProofs (disch := omega) only [↓gp0, ↓gp1, ↓gp2, gq0, gq1, gq2, gq3, gq4, gq5, gq6, gq7, gq8, gq9, go0, go1, gl0, gl1, gl2, gl3, ↓reduceIte, Nat.reduceEqDiff, Nat.reduceAdd, Nat.reduceLeDiff, pBuild, fillA, ↓Api_Sets.r] | refine Cut.go ?_))
  refine CallsA.args (Sub.cons (gsl_isl gid 1 _ (by simp; omega)) Sub.nil) ?_
  refine (sets_does (some (slL rows ++ [some [more]])) (by simp; omega) _).mono ?_
  rintro _ H5 ⟨cs2, rfl, l2, f2, y2, s2, k4⟩
  (repeat (first | simp -dsimp -implicitDefEqProofs (disch := omega) only [↓gp0, ↓gp1, ↓gp2, gq0, gq1, gq2, gq3, gq4, gq5, gq6, gq7, gq8, gq9, go0, go1, gl0, gl1, gl2, gl3, ↓reduceIte, Nat.reduceEqDiff, Nat.reduceAdd, Nat.reduceLeDiff, pBuild, fillA, ↓Api_Sets.r] | refine Cut.go ?_))
  refine (split_sub hm fw2 s2 _).mono ?_
  rintro _ H6 ⟨id2, o2, rfl, ho2, n2, lt2, k5, c2, e2⟩
  have ho1' : H6.objs id1 = some (.row 3 (nsAV o1)) := by
    have q3 := k3.next
    have q4 := k4.next
    rw [k5.objs _ (by omega) (by simp), k4.objs _ (by omega) (by simp), k3.objs _ lt1 (by simp)]; exact ho1
  have ok := fun i k hi hk => more_holds fw fw2 c1 c2 i k hi hk
  rw [e1, e2]
  (repeat (first | simp -dsimp -implicitDefEqProofs (disch := omega) only [↓gp0, ↓gp1, ↓gp2, gq0, gq1, gq2, gq3, gq4, gq5, gq6, gq7, gq8, gq9, go0, go1, gl0, gl1, gl2, gl3, ↓reduceIte, Nat.reduceEqDiff, Nat.reduceAdd, Nat.reduceLeDiff, pBuild, fillA, ↓Api_Sets.r, bne_self_eq_false] | refine Cut.go ?_))
  obtain ⟨I, hI⟩ : ∃ I : Nat → Fr → AHeap → Prop, I = (fun r fr hh => ∃ (i : Nat), r = m - i ∧ i ≤ m ∧ hh = H6 ∧ fr = frOf [(2, .int .u64 (more : Nat)), (11, .sl id1 0 m 1), (12, .sl id2 0 m 1), (84, .int .i64 m), (85, .int .i64 i)]) := ⟨_, rfl⟩
  refine WP_loop mixed_ (by kernel_rfl) I m (by rw [hI]; exact ⟨0, rfl, Nat.zero_le _, rfl, rfl⟩) ?_
  intro r fr hh hi
  rw [hI] at hi
  obtain ⟨i, rfl, hi, rfl, rfl⟩ := hi
  apply padlocklaw12_ClassMore_loop20
  (repeat (first | simp -dsimp -implicitDefEqProofs (disch := omega) only [↓gp0, ↓gp1, ↓gp2, gq0, gq1, gq2, gq3, gq4, gq5, gq6, gq7, gq8, gq9, go0, go1, gl0, gl1, gl2, gl3, ↓reduceIte, Nat.reduceEqDiff, Nat.reduceAdd, Nat.reduceLeDiff, pBuild, fillA, ↓Api_Sets.r] | refine Cut.go ?_))
  refine Split_lt (fun hil => ?_) (fun hil => ?_)
  · have hi2 : i < m := by omega
    (repeat (first | simp -dsimp -implicitDefEqProofs (disch := omega) only [↓gp0, ↓gp1, ↓gp2, gq0, gq1, gq2, gq3, gq4, gq5, gq6, gq7, gq8, gq9, go0, go1, gl0, gl1, gl2, gl3, ↓reduceIte, Nat.reduceEqDiff, Nat.reduceAdd, Nat.reduceLeDiff, pBuild, fillA, ↓Api_Sets.r] | refine Cut.go ?_))
    refine ClassMore_in hmore hm e1 e2 i hi2 (fun k hk => ok i k hi2 hk) ho1' ho2 _ ?_
    (repeat (first | simp -dsimp -implicitDefEqProofs (disch := omega) only [↓gp0, ↓gp1, ↓gp2, gq0, gq1, gq2, gq3, gq4, gq5, gq6, gq7, gq8, gq9, go0, go1, gl0, gl1, gl2, gl3, ↓reduceIte, Nat.reduceEqDiff, Nat.reduceAdd, Nat.reduceLeDiff, pBuild, fillA, ↓Api_Sets.r, wk1 i (by omega)] | refine Cut.go ?_))
    rw [loopPost_normal, hI]
    exact ⟨_, by omega, i + 1, rfl, by omega, rfl, rfl⟩
  · (repeat (first | simp -dsimp -implicitDefEqProofs (disch := omega) only [↓gp0, ↓gp1, ↓gp2, gq0, gq1, gq2, gq3, gq4, gq5, gq6, gq7, gq8, gq9, go0, go1, gl0, gl1, gl2, gl3, ↓reduceIte, Nat.reduceEqDiff, Nat.reduceAdd, Nat.reduceLeDiff, pBuild, fillA, ↓Api_Sets.r] | refine Cut.go ?_))
end Go.Proofs.YtopfjochppdnfaaDoor
