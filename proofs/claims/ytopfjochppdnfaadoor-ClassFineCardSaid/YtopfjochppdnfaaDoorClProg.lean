/- What the program's functions of classes do: the lowest bit, the bits one by one, roots. -/
import Derived.Test.YtopfjochppdnfaaDoorClBits
import Derived.Test.YtopfjochppdnfaaDoorVcC
import Derived.Test.YtopfjochppdnfaaDoorTypes
import Derived.Test.YtopfjochppdnfaaDoorAbsPack
import Derived.Test.YtopfjochppdnfaaDoorAbsYield
set_option linter.unusedVariables false
set_option linter.unusedSimpArgs false
set_option maxRecDepth 100000
set_option maxHeartbeats 1000000
namespace Go.Proofs.YtopfjochppdnfaaDoor
open Go.Abs

theorem tab_at (j : Nat) (hj : j < 64) (K : AV → Prop) : pIndexAddr (IxK.array 64 1) (.iptr (tabBits.map (.int .u8 ·))) (.int .u64 (j : Int)) K = K (.iptr ((tabBits.map (AV.int .u8 ·)).drop j)) := by
  have h1 : (0 : Int) ≤ (j : Int) ∧ (j : Int) < 64 := by omega
  simp [pIndexAddr, h1]
theorem tab_ld {j k : Nat} (hj : tabBits[j]? = some (k : Int)) (H : AHeap) (K : AV → Prop) : pLoad none (.iptr ((tabBits.map (AV.int .u8 ·)).drop j)) H K = K (.int .u8 (k : Nat)) := by
  rw [pLoad_iptr]
  simp [pCells, List.getElem?_drop, List.getElem?_map, hj]

theorem tz_does (x : Nat) (hx : x < 18446744073709551616) (h : AHeap) : CallsA Tryd.prog 33 [.int .u64 x] h (fun v h2 => v = .int .i64 (firstB x : Nat) ∧ h2 = h) := by
  apply math_bits_TrailingZeros64_wp
  by_cases h0 : x = 0
  · subst h0
    (repeat (first | simp -dsimp -implicitDefEqProofs (disch := omega) only [↓gp0, ↓gp1, ↓gp2, gq0, gq1, gq2, gq3, gq4, gq5, gq6, gq7, gq8, gq9, go0, go1, gl0, gl1, gl2, gl3, ↓reduceIte, Nat.reduceEqDiff, Nat.reduceAdd, Nat.reduceLeDiff, pBuild, fillA, ↓Api_Sets.r] | refine Cut.go ?_))
    rw [firstB_zero]; rfl
  have e0 : ((x : Int) == 0) = false := by simpa using h0
  obtain ⟨h1, h2, h3⟩ := firstB_low h0 hx
  obtain ⟨d1, d2⟩ := debruijn (firstB x) h1
  have en : IntKind.u64.wrap (0 - (x : Int)) = ((18446744073709551616 - x : Nat) : Int) := by rw [wr_u64]; omega
  have ea : iAnd .u64 (x : Int) ((18446744073709551616 - x : Nat) : Int) = ((2 ^ firstB x : Nat) : Int) := by rw [iAnd_u64 _ _ hx (by omega), and_neg h0 hx]
  have em : IntKind.u64.wrap (((2 ^ firstB x : Nat) : Int) * 285870213051353865) = ((2 ^ firstB x * 285870213051353865 % 18446744073709551616 : Nat) : Int) := by rw [wr_u64]; omega
  have es : iShr .u64 ((2 ^ firstB x * 285870213051353865 % 18446744073709551616 : Nat) : Int) ((58 : Nat) : Int) = ((2 ^ firstB x * 285870213051353865 % 18446744073709551616 / 2 ^ 58 : Nat) : Int) := iShr_u64 _ 58 (by decide)
  have e58 : ((58 : Nat) : Int) = 58 := rfl
  rw [e58] at es
  generalize 2 ^ firstB x * 285870213051353865 % 18446744073709551616 / 2 ^ 58 = j at *
  generalize 2 ^ firstB x * 285870213051353865 % 18446744073709551616 = p at *
  generalize 18446744073709551616 - x = q at *
  generalize 2 ^ firstB x = z at *
  have sh : binA CmpK.other BinOp.shr (.int .u64 (p : Int)) (.int .u64 58) = some (.int .u64 (j : Int)) := by rw [binA_shr, if_neg (by decide), es]
  (repeat (first | simp -dsimp -implicitDefEqProofs (disch := omega) only [↓gp0, ↓gp1, ↓gp2, gq0, gq1, gq2, gq3, gq4, gq5, gq6, gq7, gq8, gq9, go0, go1, gl0, gl1, gl2, gl3, ↓reduceIte, Nat.reduceEqDiff, Nat.reduceAdd, Nat.reduceLeDiff, pBuild, fillA, ↓Api_Sets.r, e0, en, ea, em, sh] | refine Cut.go ?_))
  refine Eq.mpr (tab_at j d2 _) ?_
  (repeat (first | simp -dsimp -implicitDefEqProofs (disch := omega) only [↓gp0, ↓gp1, ↓gp2, gq0, gq1, gq2, gq3, gq4, gq5, gq6, gq7, gq8, gq9, go0, go1, gl0, gl1, gl2, gl3, ↓reduceIte, Nat.reduceEqDiff, Nat.reduceAdd, Nat.reduceLeDiff, pBuild, fillA, ↓Api_Sets.r, tab_ld d1] | refine Cut.go ?_))

/-- Numbers in a row. -/
def nsAV (f : List Nat) : List AV := f.map fun (n : Nat) => AV.int .i64 n
theorem nsAV_len (f : List Nat) : (nsAV f).length = f.length := by simp [nsAV]
theorem nsAV_set (f : List Nat) (i v : Nat) : (nsAV f).set i (.int .i64 v) = nsAV (f.set i v) := by simp [nsAV, List.map_set]
theorem nsAV_get (f : List Nat) (i : Nat) : (nsAV f)[i]? = f[i]?.map fun (n : Nat) => AV.int .i64 n := by simp [nsAV]

theorem each_does (x : Nat) (h : AHeap) : CallsA Tryd.prog 44 [.int .u64 x] h (fun v h2 => v = .fn (Fn.func 58) [] [.ptr h.next 0] ∧ h2 = h.push (.row 23 [.int .u64 x])) := by
  apply pts_Each_wp
  (repeat (first | simp -dsimp -implicitDefEqProofs (disch := omega) only [↓gp0, ↓gp1, ↓gp2, gq0, gq1, gq2, gq3, gq4, gq5, gq6, gq7, gq8, gq9, go0, go1, gl0, gl1, gl2, gl3, ↓reduceIte, Nat.reduceEqDiff, Nat.reduceAdd, Nat.reduceLeDiff, pBuild, fillA, ↓Api_Sets.r] | refine Cut.go ?_))

/-- The bits of a set, one by one: what a round does, so often; or it is left. -/
theorem each1_does {y b : Nat} {x : Nat} (hx : x < 18446744073709551616) (J : Nat → AHeap → Prop) (Jx : AHeap → Prop) (h : AHeap) (ho : h.objs b = some (.row 23 [.int .u64 x])) (h0 : J 0 h)
    (hput : ∀ n hh o, J n hh → J n (hh.put b o))
    (hY : ∀ n k hh o, (bitsOf x)[n]? = some k → J n hh → hh.objs b = some o → YieldW Tryd.prog y [.int .i64 (k : Nat)] hh (fun v h' => (v = .bool true ∧ h'.objs b = some o ∧ J (n + 1) h') ∨ (v = .bool false ∧ Jx h'))) :
    CallsA Tryd.prog 58 [.yld y, .ptr b 0] h (fun _ h' => J (bitsOf x).length h' ∨ Jx h') := by
  apply pts_Each_1_wp
  (repeat (first | simp -dsimp -implicitDefEqProofs (disch := omega) only [↓gp0, ↓gp1, ↓gp2, gq0, gq1, gq2, gq3, gq4, gq5, gq6, gq7, gq8, gq9, go0, go1, gl0, gl1, gl2, gl3, ↓reduceIte, Nat.reduceEqDiff, Nat.reduceAdd, Nat.reduceLeDiff, pBuild, fillA, ↓Api_Sets.r] | refine Cut.go ?_))
  obtain ⟨I, hI⟩ : ∃ I : Nat → Fr → AHeap → Prop, I = (fun m fr hh => ∃ n r, m = (bitsOf x).length - n ∧ n ≤ (bitsOf x).length ∧ r < 18446744073709551616 ∧ bitsOf r = (bitsOf x).drop n ∧ hh.objs b = some (.row 23 [.int .u64 (r : Nat)]) ∧ J n hh ∧ fr = frOf [(0, .yld y), (1, .ptr b 0)]) := ⟨_, rfl⟩
  refine WP_loop mixed_ (by kernel_rfl) I (bitsOf x).length (by rw [hI]; exact ⟨0, x, rfl, Nat.zero_le _, hx, rfl, ho, h0, rfl⟩) ?_
  intro m fr hh hi
  rw [hI] at hi
  obtain ⟨n, r, rfl, hn, hr, hb, hob, hj, rfl⟩ := hi
  apply pts_Each_1_loop0
  have ld : ∀ {g : AHeap} (hg : g.objs b = some (.row 23 [.int .u64 (r : Nat)])) (K : AV → Prop), pLoad none (.ptr b 0) g K = K (.int .u64 (r : Nat)) := fun hg K => by rw [pLoad_ptr hg]; simp [pCells]
  by_cases r0 : r = 0
  · subst r0
    rw [bits_zero] at hb
    have hnl : n = (bitsOf x).length := by have := congrArg List.length hb; simp at this; omega
    (repeat (first | simp -dsimp -implicitDefEqProofs (disch := omega) only [↓gp0, ↓gp1, ↓gp2, gq0, gq1, gq2, gq3, gq4, gq5, gq6, gq7, gq8, gq9, go0, go1, gl0, gl1, gl2, gl3, ↓reduceIte, Nat.reduceEqDiff, Nat.reduceAdd, Nat.reduceLeDiff, pBuild, fillA, ↓Api_Sets.r, ld hob] | refine Cut.go ?_))
    left
    rw [← hnl]; exact hj
  have e0 : ((r : Int) != 0) = true := by simpa using r0
  have hcons := and_pred r0 hr
  have hlow := firstB_low r0 hr
  rw [hb] at hcons
  have hget : (bitsOf x)[n]? = some (firstB r) := by
    have := congrArg (fun l => l[0]?) hcons
    simpa [List.getElem?_drop] using this
  have hlt : n < (bitsOf x).length := (List.getElem?_eq_some_iff.1 hget).1
  have hb2 : bitsOf (r &&& (r - 1)) = (bitsOf x).drop (n + 1) := by
    have := congrArg List.tail hcons
    simpa [List.tail_drop] using this.symm
  (repeat (first | simp -dsimp -implicitDefEqProofs (disch := omega) only [↓gp0, ↓gp1, ↓gp2, gq0, gq1, gq2, gq3, gq4, gq5, gq6, gq7, gq8, gq9, go0, go1, gl0, gl1, gl2, gl3, ↓reduceIte, Nat.reduceEqDiff, Nat.reduceAdd, Nat.reduceLeDiff, pBuild, fillA, ↓Api_Sets.r, ld hob, e0] | refine Cut.go ?_))
  refine CallsA.go (tz_does r hr _) ?_
  (repeat (first | simp -dsimp -implicitDefEqProofs (disch := omega) only [↓gp0, ↓gp1, ↓gp2, gq0, gq1, gq2, gq3, gq4, gq5, gq6, gq7, gq8, gq9, go0, go1, gl0, gl1, gl2, gl3, ↓reduceIte, Nat.reduceEqDiff, Nat.reduceAdd, Nat.reduceLeDiff, pBuild, fillA, ↓Api_Sets.r] | refine Cut.go ?_))
  rw [pCallF_yld]
  refine YieldW.mono ?_ (hY n (firstB r) hh _ hget hj hob)
  rintro v h' (⟨rfl, ho', hj'⟩ | ⟨rfl, hj'⟩)
  · have es : IntKind.u64.wrap ((r : Int) - 1) = ((r - 1 : Nat) : Int) := by rw [wr_u64]; omega
    have ea : iAnd .u64 (r : Int) ((r - 1 : Nat) : Int) = ((r &&& (r - 1) : Nat) : Int) := iAnd_u64 _ _ hr (by omega)
    have st : ∀ (v : AV) (hv : v.leafy = true) (K : AHeap → Prop), pStore 1 (.ptr b 0) v h' K = K (h'.put b (.row 23 [v])) := fun v hv K => by rw [pStore_ptr ho' hv (by simp)]; rfl
    (repeat (first | simp -dsimp -implicitDefEqProofs (disch := omega) only [↓gp0, ↓gp1, ↓gp2, gq0, gq1, gq2, gq3, gq4, gq5, gq6, gq7, gq8, gq9, go0, go1, gl0, gl1, gl2, gl3, ↓reduceIte, Nat.reduceEqDiff, Nat.reduceAdd, Nat.reduceLeDiff, pBuild, fillA, ↓Api_Sets.r, ld ho', es, ea] | refine Cut.go ?_))
    rw [st _ rfl]
    (repeat (first | simp -dsimp -implicitDefEqProofs (disch := omega) only [↓gp0, ↓gp1, ↓gp2, gq0, gq1, gq2, gq3, gq4, gq5, gq6, gq7, gq8, gq9, go0, go1, gl0, gl1, gl2, gl3, ↓reduceIte, Nat.reduceEqDiff, Nat.reduceAdd, Nat.reduceLeDiff, pBuild, fillA, ↓Api_Sets.r] | refine Cut.go ?_))
    rw [loopPost_normal, hI]
    exact ⟨_, by omega, n + 1, r &&& (r - 1), rfl, hlt, pred_lt hr, hb2, by simp, hput _ _ _ hj', rfl⟩
  · (repeat (first | simp -dsimp -implicitDefEqProofs (disch := omega) only [↓gp0, ↓gp1, ↓gp2, gq0, gq1, gq2, gq3, gq4, gq5, gq6, gq7, gq8, gq9, go0, go1, gl0, gl1, gl2, gl3, ↓reduceIte, Nat.reduceEqDiff, Nat.reduceAdd, Nat.reduceLeDiff, pBuild, fillA, ↓Api_Sets.r] | refine Cut.go ?_))
    right
    exact hj'

end Go.Proofs.YtopfjochppdnfaaDoor
