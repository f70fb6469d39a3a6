/- Own texts, merged: CdUses, VcC, ClProg, PtHeap, PtEach, PtLoad, PtStep, PtStepB, PtBuild, PtSolve, PtSolveB, PtSolveC, PtSolveD, PtAlive, PtFlat, PtSame, PtMake, PtEmpty, PtRef, PtRound, PtRoundB, PtRoundC, PtRoundD, PtRSolve, VcL, AbsFrz. -/
import Derived.Test.YtopfjochppdnfaaDoorM7
import Derived.Test.YtopfjochppdnfaaDoorProg
set_option linter.unusedVariables false
set_option linter.unusedSimpArgs false
section
/- The slots that items name: what the program's Uses answers. -/
set_option maxRecDepth 8000
set_option maxHeartbeats 1000000
namespace Go.Proofs.YtopfjochppdnfaaDoor
open Go.Abs
theorem bld1 (e : TypeId) (b : Nat) (kk : IntKind) (n : Int) (h : AHeap) (z : AV) (K : AV → AHeap → Prop) : pBuildSl true { e := e, sz := 1, by_ := b } [z] 1 [(0, .int kk n)] h K = K (.isl 1 [[.int kk n]]) h := by
  simp [pBuildSl, fillE, AV.fits, AV.cells]
def usesL : List It → List Int
  | [] => []
  | x :: l => if x.Op = 2 then IntKind.i64.wrap x.N :: usesL l else usesL l
theorem usesL_append (l m : List It) : usesL (l ++ m) = usesL l ++ usesL m := by
  induction l with
  | nil => rfl
  | cons x l ih => simp only [List.cons_append, usesL, ih]; split <;> simp
theorem usesL_len (l : List It) : (usesL l).length ≤ l.length := by
  induction l with
  | nil => simp [usesL]
  | cons x l ih => simp only [usesL]; split <;> simp <;> omega
def gsI (id : Nat) (l : List Int) : AV := match l with | [] => .nils | _ => .gsl id 1 (l.map encI)
@[simp] theorem gsI_len (id : Nat) (l : List Int) (K : AV → Prop) : pLen .slice (gsI id l) K = K (.int .i64 l.length) := by cases l <;> simp [gsI]
theorem gsI_at {id : Nat} {l : List Int} {k : Nat} {v : Int} (hk : l[k]? = some v) (kk : IntKind) (K : AV → Prop) : pIndexAddr (.slice 1) (gsI id l) (.int kk (k : Int)) K = K (.iptr [.int .i64 v]) := by
  cases l with
  | nil => simp at hk
  | cons a l =>
    have : ((a :: l).map encI)[k]? = some [AV.int .i64 v] := by rw [List.getElem?_map, hk]; rfl
    simp only [gsI, pIndexAddr, Int.toNat_natCast, this]
    simp
theorem gsI_push {h : AHeap} {lo id : Nat} {l : List Int} (hl : lo ≤ h.next) (hlen : l.length ≤ 100000) (p : l = [] ∨ (lo ≤ id ∧ id < h.next ∧ h.objs id = some (.tok 3 l.length))) (v : Int) {K : AV → AHeap → Prop}
    (hK : ∀ id2 h2, id2 < h2.next → lo ≤ id2 → h2.objs id2 = some (.tok 3 (l ++ [v]).length) → Keeps h h2 (fun x => lo ≤ x) → K (gsI id2 (l ++ [v])) h2) : pAppend true { e := 3, sz := 1, by_ := 8 } (gsI id l) (.isl 1 [[.int .i64 v]]) h K := by
  cases l with
  | nil =>
    simp only [gsI, pAppend, srcElems, if_true, newSl]
    refine ⟨by simp [bounded, maxLen], ?_⟩
    exact hK h.next _ (by simp) hl (by simp) ⟨by simp, fun x hx hs => by simp; omega⟩
  | cons a l =>
    rcases p with p | ⟨p1, p2, p3⟩
    · cases p
    · simp only [gsI, pAppend, srcElems, if_true, p3]
      refine ⟨trivial, trivial, by simp, by simp [bounded, maxLen] at hlen ⊢; omega, ?_⟩
      have := hK h.next ((h.kill id).push (.tok 3 ((((a :: l).map encI ++ [[AV.int .i64 v]]) : List (List AV)).length * 1))) (by simp) hl (by simp) ⟨by simp, fun x hx hs => by
        simp only [AHeap.push_objs, AHeap.kill_objs]
        rw [if_neg (show ¬ x = (h.kill id).next by simp only [AHeap.kill_next]; omega), if_neg (by omega)]⟩
      simpa [gsI, encI] using this
theorem calc_Uses_does (items : Option (List It)) (hok : okSl Api_Item.ok items) (hit : (slL items).length ≤ 1000) (h : AHeap) :
    CallsA Tryd.prog 77 [slAV 3 Api_Item.cells items] h (fun v h2 => (∃ id, v = gsI id (usesL (slL items))) ∧ Keeps h h2 (fun _ => False)) := by
  apply calc_Uses_wp
  (repeat simp -dsimp -implicitDefEqProofs only [↓rP, rQ, rL, ↓reduceIte, Nat.reduceEqDiff, Nat.reduceAdd, Nat.reduceLeDiff, pBuild, fillA])
  refine WP_loop mixed_ (by kernel_rfl) (fun m fr hh => ∃ (k id : Nat), k ≤ (slL items).length ∧ m = (slL items).length - k ∧ Keeps h hh (fun _ => False) ∧ (usesL ((slL items).take k) = [] ∨ (h.next ≤ id ∧ id < hh.next ∧ hh.objs id = some (.tok 3 (usesL ((slL items).take k)).length))) ∧
    fr = frOf [(3, gsI id (usesL ((slL items).take k))), (6, slAV 3 Api_Item.cells items), (7, .int .i64 (slL items).length), (8, .int .i64 k)]) (slL items).length ⟨0, 0, by omega, by omega, .refl _ _, Or.inl rfl, rfl⟩ ?_
  rintro m fr hh ⟨k, id, hk, rfl, kp, pt, rfl⟩
  apply calc_Uses_loop3
  generalize hI : (fun (m : Nat) (fr : Fr) (hh : AHeap) => _) = I
  by_cases hkl : k < (slL items).length
  · have hx : (slL items)[k]? = some (slL items)[k] := List.getElem?_eq_getElem hkl
    have hxok := hok.2 _ (List.mem_of_getElem? hx)
    have hsn : (slL items).take (k + 1) = (slL items).take k ++ [(slL items)[k]] := by rw [List.take_add_one, hx]; rfl
    generalize (slL items)[k] = x at *
    have d0 : decide ((k : Int) < ((slL items).length : Int)) = true := decide_eq_true (by omega)
    have hc : x.cells = [.int .i64 x.Op, .int .i64 x.Bin, .int .u64 (x.N : Nat)] := rfl
    have wk : IntKind.i64.wrap ((k : Int) + 1) = ((k + 1 : Nat) : Int) := by rw [wrapI (by omega) (by omega)]; omega
    (repeat simp -dsimp -implicitDefEqProofs only [↓rP, rQ, rL, ↓reduceIte, Nat.reduceEqDiff, Nat.reduceAdd, Nat.reduceLeDiff, pBuild, fillA, d0, pIndexAddr_slAV hx, hc])
    rw [pStore_push (by rfl) (by rfl)]
    have kA := Keeps.push hh (.row 60 [.int .i64 x.Op, .int .i64 x.Bin, .int .u64 (x.N : Nat)])
    have ul := usesL_len ((slL items).take k)
    have hul : (usesL ((slL items).take k)).length ≤ 1000 := by simp at ul; omega
    have kn := kp.next
    by_cases h2 : x.Op = 2
    · have e2 : (x.Op == 2) = true := by simp [h2]
      have hu : usesL ((slL items).take (k + 1)) = usesL ((slL items).take k) ++ [IntKind.i64.wrap x.N] := by rw [hsn, usesL_append]; simp [usesL, h2]
      (repeat simp -dsimp -implicitDefEqProofs only [↓rP, rQ, rL, ↓reduceIte, Nat.reduceEqDiff, Nat.reduceAdd, Nat.reduceLeDiff, pBuild, fillA, e2, bld1])
      refine gsI_push (lo := h.next) (by simp; omega) (by omega) ?_ (IntKind.i64.wrap x.N) fun id2 h3 q1 q2 q3 q4 => ?_
      · rcases pt with pt | ⟨p1, p2, p3⟩
        · exact Or.inl pt
        · exact Or.inr ⟨p1, by simp; omega, by rw [kA.objs id p2 (fun h => h)]; exact p3⟩
      · (repeat simp -dsimp -implicitDefEqProofs only [↓rP, rQ, rL, ↓reduceIte, Nat.reduceEqDiff, Nat.reduceAdd, Nat.reduceLeDiff, pBuild, fillA, wk])
        rw [loopPost_normal, ← hI]
        refine ⟨_, ?_, k + 1, id2, by omega, rfl, ?_, Or.inr ⟨q2, q1, by rw [hu]; exact q3⟩, by rw [hu]⟩
        · omega
        · exact (kp.trans kA (fun _ _ h => h)).trans q4 (fun y hy hl => absurd hl (by omega))
    · have e2 : (x.Op == 2) = false := by simp [h2]
      have hu : usesL ((slL items).take (k + 1)) = usesL ((slL items).take k) := by rw [hsn, usesL_append]; simp [usesL, h2]
      (repeat simp -dsimp -implicitDefEqProofs only [↓rP, rQ, rL, ↓reduceIte, Nat.reduceEqDiff, Nat.reduceAdd, Nat.reduceLeDiff, pBuild, fillA, e2, wk])
      rw [loopPost_normal, ← hI]
      refine ⟨_, ?_, k + 1, id, by omega, rfl, kp.trans kA (fun _ _ h => h), ?_, by rw [hu]⟩
      · omega
      · rw [hu]
        rcases pt with pt | ⟨p1, p2, p3⟩
        · exact Or.inl pt
        · exact Or.inr ⟨p1, by simp; omega, by rw [kA.objs id p2 (fun h => h)]; exact p3⟩
  · have hke : k = (slL items).length := by omega
    subst hke
    rw [List.take_length] at *
    have d0 : decide (((slL items).length : Int) < ((slL items).length : Int)) = false := decide_eq_false (by omega)
    (repeat simp -dsimp -implicitDefEqProofs only [↓rP, rQ, rL, ↓reduceIte, Nat.reduceEqDiff, Nat.reduceAdd, Nat.reduceLeDiff, pBuild, fillA, d0])
    first | exact ⟨⟨id, rfl⟩, kp⟩ | exact ⟨⟨id, trivial⟩, kp⟩
end Go.Proofs.YtopfjochppdnfaaDoor
end

section
/- The conditions of classes lie among those of sets. -/
end

section
/- What the program's functions of classes do: the lowest bit, the bits one by one, roots. -/
set_option maxRecDepth 100000
set_option maxHeartbeats 1000000
namespace Go.Proofs.YtopfjochppdnfaaDoor
open Go.Abs
theorem tab_at (j : Nat) (hj : j < 64) (K : AV → Prop) : pIndexAddr (IxK.array 64 1) (.iptr (tabBits.map (.int .u8 ·))) (.int .u64 (j : Int)) K = K (.iptr ((tabBits.map (AV.int .u8 ·)).drop j)) := by
  have h1 : (0 : Int) ≤ (j : Int) ∧ (j : Int) < 64 := by omega
  simp [pIndexAddr, h1]
theorem tab_ld {j k : Nat} (hj : tabBits[j]? = some (k : Int)) (H : AHeap) (K : AV → Prop) : pLoad none (.iptr ((tabBits.map (AV.int .u8 ·)).drop j)) H K = K (.int .u8 (k : Nat)) := by
  rw [pLoad_iptr]
  simp [pCells, List.getElem?_drop, List.getElem?_map, hj]
theorem tz_does (x : Nat) (hx : x < 18446744073709551616) (h : AHeap) : CallsA Tryd.prog 33 [.int .u64 x] h (fun v h2 => v = .int .i64 (firstB x : Nat) ∧ h2 = h) := by
  apply math_bits_TrailingZeros64_wp
  by_cases h0 : x = 0
  · subst h0
    (repeat simp -dsimp -implicitDefEqProofs (disch := omega) only [↓rP, rQ, rO, rL, ↓reduceIte, Nat.reduceEqDiff, Nat.reduceAdd, Nat.reduceLeDiff, pBuild, fillA, ↓tyr])
    rw [firstB_zero]; rfl
  have e0 : ((x : Int) == 0) = false := by simpa using h0
  obtain ⟨h1, h2, h3⟩ := firstB_low h0 hx
  obtain ⟨d1, d2⟩ := debruijn (firstB x) h1
  have en : IntKind.u64.wrap (0 - (x : Int)) = ((18446744073709551616 - x : Nat) : Int) := by rw [wr_u64]; omega
  have ea : iAnd .u64 (x : Int) ((18446744073709551616 - x : Nat) : Int) = ((2 ^ firstB x : Nat) : Int) := by rw [iAnd_u64 _ _ hx (by omega), and_neg h0 hx]
  have em : IntKind.u64.wrap (((2 ^ firstB x : Nat) : Int) * 285870213051353865) = ((2 ^ firstB x * 285870213051353865 % 18446744073709551616 : Nat) : Int) := by rw [wr_u64]; omega
  have es : iShr .u64 ((2 ^ firstB x * 285870213051353865 % 18446744073709551616 : Nat) : Int) ((58 : Nat) : Int) = ((2 ^ firstB x * 285870213051353865 % 18446744073709551616 / 2 ^ 58 : Nat) : Int) := iShr_u64 _ 58 (by decide)
  have e58 : ((58 : Nat) : Int) = 58 := rfl
  rw [e58] at es
  generalize 2 ^ firstB x * 285870213051353865 % 18446744073709551616 / 2 ^ 58 = j at *
  generalize 2 ^ firstB x * 285870213051353865 % 18446744073709551616 = p at *
  generalize 18446744073709551616 - x = q at *
  generalize 2 ^ firstB x = z at *
  have sh : binA CmpK.other BinOp.shr (.int .u64 (p : Int)) (.int .u64 58) = some (.int .u64 (j : Int)) := by rw [binA_shr, if_neg (by decide), es]
  (repeat simp -dsimp -implicitDefEqProofs (disch := omega) only [↓rP, rQ, rO, rL, ↓reduceIte, Nat.reduceEqDiff, Nat.reduceAdd, Nat.reduceLeDiff, pBuild, fillA, ↓tyr, e0, en, ea, em, sh])
  refine Eq.mpr (tab_at j d2 _) ?_
  (repeat simp -dsimp -implicitDefEqProofs (disch := omega) only [↓rP, rQ, rO, rL, ↓reduceIte, Nat.reduceEqDiff, Nat.reduceAdd, Nat.reduceLeDiff, pBuild, fillA, ↓tyr, tab_ld d1])
theorem each_does (x : Nat) (h : AHeap) : CallsA Tryd.prog 44 [.int .u64 x] h (fun v h2 => v = .fn (Fn.func 58) [] [.ptr h.next 0] ∧ h2 = h.push (.row 23 [.int .u64 x])) := by
  apply pts_Each_wp
  (repeat simp -dsimp -implicitDefEqProofs (disch := omega) only [↓rP, rQ, rO, rL, ↓reduceIte, Nat.reduceEqDiff, Nat.reduceAdd, Nat.reduceLeDiff, pBuild, fillA, ↓tyr])
theorem each1_does {y b : Nat} {x : Nat} (hx : x < 18446744073709551616) (J : Nat → AHeap → Prop) (Jx : AHeap → Prop) (h : AHeap) (ho : h.objs b = some (.row 23 [.int .u64 x])) (h0 : J 0 h)
    (hput : ∀ n hh o, J n hh → J n (hh.put b o))
    (hY : ∀ n k hh o, (bitsOf x)[n]? = some k → J n hh → hh.objs b = some o → YieldW Tryd.prog y [.int .i64 (k : Nat)] hh (fun v h' => (v = .bool true ∧ h'.objs b = some o ∧ J (n + 1) h') ∨ (v = .bool false ∧ Jx h'))) :
    CallsA Tryd.prog 58 [.yld y, .ptr b 0] h (fun _ h' => J (bitsOf x).length h' ∨ Jx h') := by
  apply pts_Each_1_wp
  (repeat simp -dsimp -implicitDefEqProofs (disch := omega) only [↓rP, rQ, rO, rL, ↓reduceIte, Nat.reduceEqDiff, Nat.reduceAdd, Nat.reduceLeDiff, pBuild, fillA, ↓tyr])
  obtain ⟨I, hI⟩ : ∃ I : Nat → Fr → AHeap → Prop, I = (fun m fr hh => ∃ n r, m = (bitsOf x).length - n ∧ n ≤ (bitsOf x).length ∧ r < 18446744073709551616 ∧ bitsOf r = (bitsOf x).drop n ∧ hh.objs b = some (.row 23 [.int .u64 (r : Nat)]) ∧ J n hh ∧ fr = frOf [(0, .yld y), (1, .ptr b 0)]) := ⟨_, rfl⟩
  refine WP_loop mixed_ (by kernel_rfl) I (bitsOf x).length (by rw [hI]; exact ⟨0, x, rfl, Nat.zero_le _, hx, rfl, ho, h0, rfl⟩) ?_
  intro m fr hh hi
  rw [hI] at hi
  obtain ⟨n, r, rfl, hn, hr, hb, hob, hj, rfl⟩ := hi
  apply pts_Each_1_loop0
  have ld : ∀ {g : AHeap} (hg : g.objs b = some (.row 23 [.int .u64 (r : Nat)])) (K : AV → Prop), pLoad none (.ptr b 0) g K = K (.int .u64 (r : Nat)) := fun hg K => by rw [pLoad_ptr hg]; simp [pCells]
  by_cases r0 : r = 0
  · subst r0
    rw [bits_zero] at hb
    have hnl : n = (bitsOf x).length := by have := congrArg List.length hb; simp at this; omega
    (repeat simp -dsimp -implicitDefEqProofs (disch := omega) only [↓rP, rQ, rO, rL, ↓reduceIte, Nat.reduceEqDiff, Nat.reduceAdd, Nat.reduceLeDiff, pBuild, fillA, ↓tyr, ld hob])
    left
    rw [← hnl]; exact hj
  have e0 : ((r : Int) != 0) = true := by simpa using r0
  have hcons := and_pred r0 hr
  have hlow := firstB_low r0 hr
  rw [hb] at hcons
  have hget : (bitsOf x)[n]? = some (firstB r) := by
    have := congrArg (fun l => l[0]?) hcons
    simpa [List.getElem?_drop] using this
  have hlt : n < (bitsOf x).length := (List.getElem?_eq_some_iff.1 hget).1
  have hb2 : bitsOf (r &&& (r - 1)) = (bitsOf x).drop (n + 1) := by
    have := congrArg List.tail hcons
    simpa [List.tail_drop] using this.symm
  (repeat simp -dsimp -implicitDefEqProofs (disch := omega) only [↓rP, rQ, rO, rL, ↓reduceIte, Nat.reduceEqDiff, Nat.reduceAdd, Nat.reduceLeDiff, pBuild, fillA, ↓tyr, ld hob, e0])
  refine CallsA.go (tz_does r hr _) ?_
  (repeat simp -dsimp -implicitDefEqProofs (disch := omega) only [↓rP, rQ, rO, rL, ↓reduceIte, Nat.reduceEqDiff, Nat.reduceAdd, Nat.reduceLeDiff, pBuild, fillA, ↓tyr])
  rw [pCallF_yld]
  refine YieldW.mono ?_ (hY n (firstB r) hh _ hget hj hob)
  rintro v h' (⟨rfl, ho', hj'⟩ | ⟨rfl, hj'⟩)
  · have es : IntKind.u64.wrap ((r : Int) - 1) = ((r - 1 : Nat) : Int) := by rw [wr_u64]; omega
    have ea : iAnd .u64 (r : Int) ((r - 1 : Nat) : Int) = ((r &&& (r - 1) : Nat) : Int) := iAnd_u64 _ _ hr (by omega)
    have st : ∀ (v : AV) (hv : v.leafy = true) (K : AHeap → Prop), pStore 1 (.ptr b 0) v h' K = K (h'.put b (.row 23 [v])) := fun v hv K => by rw [pStore_ptr ho' hv (by simp)]; rfl
    (repeat simp -dsimp -implicitDefEqProofs (disch := omega) only [↓rP, rQ, rO, rL, ↓reduceIte, Nat.reduceEqDiff, Nat.reduceAdd, Nat.reduceLeDiff, pBuild, fillA, ↓tyr, ld ho', es, ea])
    rw [st _ rfl]
    (repeat simp -dsimp -implicitDefEqProofs (disch := omega) only [↓rP, rQ, rO, rL, ↓reduceIte, Nat.reduceEqDiff, Nat.reduceAdd, Nat.reduceLeDiff, pBuild, fillA, ↓tyr])
    rw [loopPost_normal, hI]
    exact ⟨_, by omega, n + 1, r &&& (r - 1), rfl, hlt, pred_lt hr, hb2, by simp, hput _ _ _ hj', rfl⟩
  · (repeat simp -dsimp -implicitDefEqProofs (disch := omega) only [↓rP, rQ, rO, rL, ↓reduceIte, Nat.reduceEqDiff, Nat.reduceAdd, Nat.reduceLeDiff, pBuild, fillA, ↓tyr])
    right
    exact hj'
end Go.Proofs.YtopfjochppdnfaaDoor
end

section
/- What names may mean: sets in rows, the solver's variable, and what it adds. -/
set_option maxRecDepth 8000
set_option maxHeartbeats 1000000
namespace Go.Proofs.YtopfjochppdnfaaDoor
open Go.Abs
def rowC (f : Nat → Nat) (n : Nat) : List AV := (List.range n).map fun k => .int .u64 (f k : Nat)
theorem rowC_len (f : Nat → Nat) (n : Nat) : (rowC f n).length = n := by simp [rowC]
theorem rowC_at {f : Nat → Nat} {n k : Nat} (h : k < n) : (rowC f n)[k]? = some (.int .u64 (f k : Nat)) := by simp [rowC, h]
theorem rowC_set {f : Nat → Nat} {n k : Nat} (v : Nat) : (rowC f n).set k (.int .u64 (v : Nat)) = rowC (fun j => if j = k then v else f j) n := by
  apply List.ext_getElem?
  intro i
  by_cases hi : i < n
  · rw [List.getElem?_set, rowC_at hi, rowC_at hi, rowC_len]
    by_cases e : k = i
    · subst e; simp [hi]
    · rw [if_neg e, if_neg (fun h => e h.symm)]
  · rw [List.getElem?_eq_none (by rw [List.length_set, rowC_len]; omega), List.getElem?_eq_none (by rw [rowC_len]; omega)]
def RowAt (h : AHeap) (av : AV) (n : Nat) (f : Nat → Nat) : Prop := (av = .nils ∧ n = 0) ∨ ∃ id, av = .sl id 0 n 1 ∧ id < h.next ∧ h.objs id = some (.row 23 (rowC f n))
theorem RowAt.len {h : AHeap} {av : AV} {n : Nat} {f : Nat → Nat} (r : RowAt h av n f) (K : AV → Prop) : pLen .slice av K = K (.int .i64 n) := by
  rcases r with ⟨rfl, rfl⟩ | ⟨id, rfl, _, _⟩
  · rfl
  · rfl
structure SetsAt (h : AHeap) (c : Cd) (σ : Sg) (A : Rw → AV) : Prop where
  row : ∀ r, RowAt h (A r) (lenR c r) (σ r)
  one : ∀ r r' id, A r = .sl id 0 (lenR c r) 1 → A r' = .sl id 0 (lenR c r') 1 → r = r'
theorem SetsAt.ix {h : AHeap} {c : Cd} {σ : Sg} {A : Rw → AV} (s : SetsAt h c σ A) {r : Rw} {n : Nat} (hn : n < lenR c r) : ∃ id, A r = .sl id 0 (lenR c r) 1 ∧ id < h.next ∧ h.objs id = some (.row 23 (rowC (σ r) (lenR c r))) ∧
    (∀ (kk : IntKind) (K : AV → Prop), pIndexAddr (.slice 1) (A r) (.int kk (n : Int)) K = K (.ptr id n)) ∧ (∀ K : AV → Prop, pLoad none (.ptr id n) h K = K (.int .u64 (σ r n : Nat))) := by
  rcases s.row r with ⟨_, e⟩ | ⟨id, e, hid, ho⟩
  · omega
  · refine ⟨id, e, hid, ho, fun kk K => ?_, fun K => ?_⟩
    · rw [e]; simp [pIndexAddr]; omega
    · rw [pLoad_ptr ho]; simp [pCells, rowC_at hn]
theorem SetsAt.len {h : AHeap} {c : Cd} {σ : Sg} {A : Rw → AV} (s : SetsAt h c σ A) (r : Rw) (K : AV → Prop) : pLen .slice (A r) K = K (.int .i64 (lenR c r : Nat)) := (s.row r).len K
theorem SetsAt.keep {h h2 : AHeap} {c : Cd} {σ : Sg} {A : Rw → AV} {S : Nat → Prop} (s : SetsAt h c σ A) (k : Keeps h h2 S) (hS : ∀ r id, A r = .sl id 0 (lenR c r) 1 → ¬ S id) : SetsAt h2 c σ A := by
  refine ⟨fun r => ?_, s.one⟩
  rcases s.row r with e | ⟨id, e, hid, ho⟩
  · exact Or.inl e
  · exact Or.inr ⟨id, e, Nat.lt_of_lt_of_le hid k.next, by rw [k.objs id hid (hS r id e)]; exact ho⟩
def updS (σ : Sg) (r : Rw) (n v : Nat) : Sg := fun r' n' => if r' = r ∧ n' = n then v else σ r' n'
theorem SetsAt.put {h : AHeap} {c : Cd} {σ : Sg} {A : Rw → AV} (s : SetsAt h c σ A) {r : Rw} {n id v : Nat} (hn : n < lenR c r) (e : A r = .sl id 0 (lenR c r) 1) : SetsAt (h.put id (.row 23 (rowC (fun j => if j = n then v else σ r j) (lenR c r)))) c (updS σ r n v) A := by
  refine ⟨fun q => ?_, s.one⟩
  rcases s.row q with e2 | ⟨id2, e2, hid, ho⟩
  · exact Or.inl e2
  · refine Or.inr ⟨id2, e2, by simpa using hid, ?_⟩
    by_cases hq : q = r
    · subst hq
      rw [e] at e2
      cases e2
      rw [put_new]
      congr 3
      funext j
      simp [updS]
    · have hne : id2 ≠ id := by rintro rfl; exact hq (s.one q r id2 e2 e)
      rw [put_old hne, ho]
      congr 3
      funext j
      simp [updS, hq]
def outA (id n : Nat) (f : Nat → AV) : AV := if n = 0 then .nils else .gsl id 1 ((List.range n).map fun k => [f k])
theorem outA_ix {id n k : Nat} {f : Nat → AV} (hk : k < n) (kk : IntKind) (K : AV → Prop) : pIndexAddr (.slice 1) (outA id n f) (.int kk (k : Int)) K = K (.iptr [f k]) := by
  unfold outA
  rw [if_neg (by omega)]
  simp [pIndexAddr, hk]
theorem outA_len (id n : Nat) (f : Nat → AV) (K : AV → Prop) : pLen .slice (outA id n f) K = K (.int .i64 n) := by
  unfold outA
  split
  · rename_i e; rw [e]; rfl
  · simp [pLen]
theorem ld_one (x : AV) (h : AHeap) (K : AV → Prop) : pLoad none (.iptr [x]) h K = K x := by rw [pLoad_iptr]; rfl
def setsC (c : Cd) (A : Rw → AV) (i1 i2 : Nat) : List AV := [outA i1 (slL c.Threads).length (fun t => A (.s t)), A .g, outA i2 (slL c.Sites).length (fun k => A (.f k))]
theorem setsC_0 (c : Cd) (A : Rw → AV) (i1 i2 : Nat) (K : AV → Prop) : pCells none (setsC c A i1 i2) 0 K = K (outA i1 (slL c.Threads).length (fun t => A (.s t))) := by simp [pCells, setsC]
theorem setsC_1 (c : Cd) (A : Rw → AV) (i1 i2 : Nat) (K : AV → Prop) : pCells none (setsC c A i1 i2) 1 K = K (A .g) := by simp [pCells, setsC]
theorem setsC_2 (c : Cd) (A : Rw → AV) (i1 i2 : Nat) (K : AV → Prop) : pCells none (setsC c A i1 i2) 2 K = K (outA i2 (slL c.Sites).length (fun k => A (.f k))) := by simp [pCells, setsC]
theorem setsC_all (c : Cd) (A : Rw → AV) (i1 i2 : Nat) (K : AV → Prop) : pCells (some 3) (setsC c A i1 i2) 0 K = K (.agg (setsC c A i1 i2)) := by simp [pCells, setsC]
def solC (c : Cd) (A : Rw → AV) (i1 i2 : Nat) (gr : Bool) : List AV := c.cells ++ (setsC c A i1 i2 ++ [.bool gr])
section
variable (c : Cd) (A : Rw → AV) (i1 i2 : Nat) (gr : Bool) (K : AV → Prop)
theorem solC_0 : pCells none (solC c A i1 i2 gr) 0 K = K (slAV 1 (fun o => [slAV 3 Api_Local.cells o]) c.Records) := by simp [pCells, solC, setsC, Api_Code.cells]
theorem solC_1 : pCells none (solC c A i1 i2 gr) 1 K = K (slAV 3 Api_Local.cells c.Globals) := by simp [pCells, solC, setsC, Api_Code.cells]
theorem solC_2 : pCells none (solC c A i1 i2 gr) 2 K = K (slAV 3 Api_Body.cells c.Threads) := by simp [pCells, solC, setsC, Api_Code.cells]
theorem solC_3 : pCells none (solC c A i1 i2 gr) 3 K = K (slAV 3 Api_Site.cells c.Sites) := by simp [pCells, solC, setsC, Api_Code.cells]
theorem solC_5 : pCells none (solC c A i1 i2 gr) 5 K = K (outA i1 (slL c.Threads).length (fun t => A (.s t))) := by simp [pCells, solC, setsC, Api_Code.cells]
theorem solC_6 : pCells none (solC c A i1 i2 gr) 6 K = K (A .g) := by simp [pCells, solC, setsC, Api_Code.cells]
theorem solC_7 : pCells none (solC c A i1 i2 gr) 7 K = K (outA i2 (slL c.Sites).length (fun k => A (.f k))) := by simp [pCells, solC, setsC, Api_Code.cells]
theorem solC_8 : pCells none (solC c A i1 i2 gr) 8 K = K (.bool gr) := by simp [pCells, solC, setsC, Api_Code.cells]
theorem solC_sets : pCells (some 3) (solC c A i1 i2 gr) 5 K = K (.agg (setsC c A i1 i2)) := by simp [pCells, solC, setsC, Api_Code.cells]
end
theorem solC_len (c : Cd) (A : Rw → AV) (i1 i2 : Nat) (gr : Bool) : (solC c A i1 i2 gr).length = 9 := rfl
theorem solC_grew (c : Cd) (A : Rw → AV) (i1 i2 : Nat) (gr g2 : Bool) : (solC c A i1 i2 gr).set 8 (.bool g2) = solC c A i1 i2 g2 := rfl
theorem solR : (type_of% @solC_0) ∧ (type_of% @solC_1) ∧ (type_of% @solC_2) ∧ (type_of% @solC_3) ∧ (type_of% @solC_5) ∧ (type_of% @solC_6) ∧ (type_of% @solC_7) ∧ (type_of% @solC_8) ∧ (type_of% @solC_sets) ∧ (type_of% @setsC_0) ∧ (type_of% @setsC_1) ∧ (type_of% @setsC_2) ∧ (type_of% @setsC_all) ∧ (type_of% @ld_one) :=
  ⟨@solC_0, @solC_1, @solC_2, @solC_3, @solC_5, @solC_6, @solC_7, @solC_8, @solC_sets, @setsC_0, @setsC_1, @setsC_2, @setsC_all, @ld_one⟩
structure SolAt (h : AHeap) (sid : Nat) (c : Cd) (σ : Sg) (A : Rw → AV) (i1 i2 : Nat) (gr : Bool) : Prop where
  sets : SetsAt h c σ A
  obj : h.objs sid = some (.row 74 (solC c A i1 i2 gr))
  lt : sid < h.next
  ne : ∀ r, A r ≠ .sl sid 0 (lenR c r) 1
theorem SolAt.ld {h : AHeap} {sid : Nat} {c : Cd} {σ : Sg} {A : Rw → AV} {i1 i2 : Nat} {gr : Bool} (s : SolAt h sid c σ A i1 i2 gr) (off : Nat) (q : Option Nat) (K : AV → Prop) : pLoad q (.ptr sid off) h K = pCells q (solC c A i1 i2 gr) off K := pLoad_ptr s.obj q K
theorem SolAt.keep {h h2 : AHeap} {sid : Nat} {c : Cd} {σ : Sg} {A : Rw → AV} {i1 i2 : Nat} {gr : Bool} (s : SolAt h sid c σ A i1 i2 gr) (k : Keeps h h2 (fun _ => False)) : SolAt h2 sid c σ A i1 i2 gr :=
  ⟨s.sets.keep k (fun _ _ _ h => h), by rw [k.objs sid s.lt (fun h => h)]; exact s.obj, Nat.lt_of_lt_of_le s.lt k.next, s.ne⟩
def Own (sid : Nat) (c : Cd) (A : Rw → AV) : Nat → Prop := fun i => i = sid ∨ ∃ r, A r = .sl i 0 (lenR c r) 1
theorem means_does (l : Lo) (h : AHeap) : CallsA Tryd.prog 50 [.agg l.cells] h (fun v h2 => v = .bool (meansB l) ∧ h2 = h) := by
  apply pts_means_wp
  (repeat simp -dsimp -implicitDefEqProofs (disch := omega) only [↓rP, rQ, rO, rL, ↓reduceIte, Nat.reduceEqDiff, Nat.reduceAdd, Nat.reduceLeDiff, pBuild, fillA, ↓tyr])
  refine Split_eq (fun h1 => ?_) (fun h1 => ?_)
  · (repeat simp -dsimp -implicitDefEqProofs (disch := omega) only [↓rP, rQ, rO, rL, ↓reduceIte, Nat.reduceEqDiff, Nat.reduceAdd, Nat.reduceLeDiff, pBuild, fillA, ↓tyr])
    simp [meansB, h1]
  · (repeat simp -dsimp -implicitDefEqProofs (disch := omega) only [↓rP, rQ, rO, rL, ↓reduceIte, Nat.reduceEqDiff, Nat.reduceAdd, Nat.reduceLeDiff, pBuild, fillA, ↓tyr])
    simp [meansB, h1, beqI]
theorem add_does {h : AHeap} {sid : Nat} {c : Cd} {σ : Sg} {A : Rw → AV} {i1 i2 : Nat} {gr : Bool} (s : SolAt h sid c σ A i1 i2 gr) {r : Rw} {n id m : Nat} (hn : n < lenR c r) (e : A r = .sl id 0 (lenR c r) 1) (hs : σ r n < 18446744073709551616) (hm : m < 18446744073709551616) :
    CallsA Tryd.prog 51 [.ptr sid 0, .ptr id n, .int .u64 (m : Nat)] h (fun v h2 => v = .tup [] ∧ ∃ gr', (gr' = true ↔ gr = true ∨ updS σ r n (σ r n ||| m) ≠ σ) ∧ SolAt h2 sid c (updS σ r n (σ r n ||| m)) A i1 i2 gr' ∧ Keeps h h2 (Own sid c A)) := by
  obtain ⟨id2, e2, hid, ho, -, ld⟩ := s.sets.ix hn
  obtain rfl : id2 = id := by rw [e] at e2; cases e2; rfl
  have eo : iOr .u64 (σ r n : Int) (m : Int) = ((σ r n ||| m : Nat) : Int) := iOr_u64 _ _ hs hm
  have hne : id2 ≠ sid := fun h => s.ne r (by rw [← h]; exact e)
  apply pts_solver_add_wp
  (repeat simp -dsimp -implicitDefEqProofs (disch := omega) only [↓rP, rQ, rO, rL, ↓reduceIte, Nat.reduceEqDiff, Nat.reduceAdd, Nat.reduceLeDiff, pBuild, fillA, ↓tyr, ld, eo])
  refine Split_ne (fun hc => ?_) (fun hc => ?_)
  · have hc : ¬ (σ r n ||| m) = σ r n := by omega
    have st : ∀ K : AHeap → Prop, pStore 1 (.ptr id2 n) (.int .u64 ((σ r n ||| m : Nat) : Int)) h K = K (h.put id2 (.row 23 (rowC (fun j => if j = n then (σ r n ||| m) else σ r j) (lenR c r)))) := fun K => by
      rw [pStore_ptr ho (by rfl) (by rw [rowC_len]; exact hn), rowC_set]
    (repeat simp -dsimp -implicitDefEqProofs (disch := omega) only [↓rP, rQ, rO, rL, ↓reduceIte, Nat.reduceEqDiff, Nat.reduceAdd, Nat.reduceLeDiff, pBuild, fillA, ↓tyr, ld, eo, st])
    have ob : (h.put id2 (.row 23 (rowC (fun j => if j = n then (σ r n ||| m) else σ r j) (lenR c r)))).objs sid = some (.row 74 (solC c A i1 i2 gr)) := by rw [put_old (Ne.symm hne)]; exact s.obj
    rw [pStore_ptr ob (by rfl) (by rw [solC_len]; decide), solC_grew]
    (repeat simp -dsimp -implicitDefEqProofs (disch := omega) only [↓rP, rQ, rO, rL, ↓reduceIte, Nat.reduceEqDiff, Nat.reduceAdd, Nat.reduceLeDiff, pBuild, fillA, ↓tyr])
    refine ⟨true, ⟨fun _ => Or.inr fun h => hc ?_, fun _ => rfl⟩, ⟨?_, put_new _ _ _, s.lt, s.ne⟩, ?_⟩
    · have := congrFun (congrFun h r) n
      simpa [updS] using this
    · refine ((s.sets.put (v := (σ r n ||| m)) hn e).keep (S := fun i => i = sid) ⟨by simp, fun j hj hs => put_old hs _⟩ fun q id3 h3 h4 => ?_)
      subst h4; exact s.ne q h3
    · exact ⟨by simp, fun j hj hs => by rw [put_old (fun h => hs (Or.inl h)), put_old (fun h => hs (Or.inr ⟨r, by rw [h]; exact e⟩))]⟩
  · have hc : (σ r n ||| m) = σ r n := by omega
    (repeat simp -dsimp -implicitDefEqProofs (disch := omega) only [↓rP, rQ, rO, rL, ↓reduceIte, Nat.reduceEqDiff, Nat.reduceAdd, Nat.reduceLeDiff, pBuild, fillA, ↓tyr])
    have hu : updS σ r n (σ r n ||| m) = σ := by
      funext q j
      unfold updS
      split
      · rename_i hq; rw [hq.1, hq.2, hc]
      · rfl
    rw [hu]
    exact ⟨gr, by simp, s, .refl _ _⟩
end Go.Proofs.YtopfjochppdnfaaDoor
end

section
/- A loop over the bits of a set; what items may mean, by the program. -/
set_option maxRecDepth 8000
set_option maxHeartbeats 1000000
namespace Go.Proofs.YtopfjochppdnfaaDoor
open Go.Abs
def Alike (i j : Nat) (h h2 : AHeap) : Prop := h.next ≤ h2.next ∧ ∀ k, k ≠ i → k ≠ j → h2.objs k = h.objs k
theorem range_each {N g p b x : Nat} {asn bd : Code} {fr : Fr} {h : AHeap} {Q : AExit → Fr → AHeap → Prop} (hx : x < 18446744073709551616) (hg : aEv fr (.tmp g) = .fn (.func 58) [] [.ptr b 0]) (ho : h.objs b = some (.row 23 [.int .u64 x])) (hb : b < h.next)
    (hp : Nat.blt p N = true) (hna : noRF asn = true) (hnb : noRF bd = true) (fr1 : Nat → Fr) (J : Nat → AHeap → Prop) (h0 : J 0 h) (hJ : ∀ n hh h2, J n hh → Alike b h.next hh h2 → J n h2)
    (hA : ∀ (k : Nat) hh, WP Tryd.prog N asn (setPs [p] [.int .i64 (k : Nat)] fr) hh (fun e f h' => e = .normal ∧ f = fr1 k ∧ h' = hh))
    (hB : ∀ (n k : Nat) hh, (bitsOf x)[n]? = some k → J n hh → h.next < hh.next → WP Tryd.prog N bd (fr1 k) hh (fun e f h2 => e = .normal ∧ J (n + 1) h2 ∧ hh.next ≤ h2.next ∧ h2.objs b = hh.objs b ∧ h2.objs h.next = hh.objs h.next))
    (hQ : ∀ hh, J (bitsOf x).length hh → Q .normal fr hh) : WP Tryd.prog N (.rangeFunc (.tmp g) #[p] asn bd) fr h Q := by
  refine WP_rangeA Tryd.call58 (gf := 58) (cap := [.ptr b 0]) hg ?_
  obtain ⟨lp, hlp⟩ : ∃ lp : LoopState → Option Code → AObj, lp = fun st pe => .loop st pe N #[p] asn bd fr := ⟨_, rfl⟩
  have hlo : ∀ st pe, (AObj.loop st pe N #[p] asn bd fr) = lp st pe := fun st pe => by rw [hlp]
  rw [hlo]
  refine (each1_does hx (fun n hh => J n hh ∧ h.next < hh.next ∧ hh.objs h.next = some (lp .ready none)) (fun _ => False) _ (by rw [push_old hb]; exact ho) ?_ ?_ ?_).mono ?_
  · refine ⟨hJ 0 h _ h0 ⟨Nat.le_succ _, fun k h1 h2 => ?_⟩, Nat.lt_succ_self _, push_new _ _⟩
    simp only [AHeap.push_objs]; rw [if_neg h2]
  · rintro n hh o ⟨j1, j2, j3⟩
    refine ⟨hJ n hh _ j1 ⟨Nat.le_refl _, fun k h1 h2 => put_old h1 _⟩, j2, ?_⟩
    rw [put_old (by omega)]; exact j3
  · rintro n k hh o hk ⟨j1, j2, j3⟩ hob
    rw [hlp] at j3
    refine YieldW.go (fr1 := fr1 k) j3 (by rfl) (by simpa using hp) hna hnb (hA k hh) ?_
    obtain ⟨G, hG⟩ : ∃ G : AHeap, G = hh.put h.next (.loop .busy none N #[p] asn bd fr) := ⟨_, rfl⟩
    rw [← hG]
    have gJ : J n G := hJ n hh G j1 (by rw [hG]; exact ⟨Nat.le_refl _, fun k h1 h2 => put_old h2 _⟩)
    refine (hB n k G hk gJ (by rw [hG]; exact j2)).mono ?_
    rintro e f h2 ⟨rfl, q1, q2, q3, q4⟩
    refine ⟨by rw [q4, hG, put_new], Or.inl ⟨rfl, ?_, ?_, ?_, ?_⟩⟩
    · rw [put_old (by omega), q3, hG, put_old (by omega)]; exact hob
    · exact hJ _ h2 _ q1 ⟨Nat.le_refl _, fun k h1 h3 => put_old h3 _⟩
    · have : hh.next = G.next := by rw [hG]; rfl
      have e2 : (h2.put h.next (AObj.loop .ready none N #[p] asn bd fr)).next = h2.next := rfl
      rw [e2]; omega
    · rw [put_new, hlp]
  · rintro v h' (⟨j1, j2, j3⟩ | hj)
    · rw [hlp] at j3
      refine ⟨.ready, none, j3, by simp, ?_⟩
      simp only [rangePostA]
      exact hQ _ (hJ _ h' _ j1 ⟨Nat.le_refl _, fun k h1 h2 => kill_old h2⟩)
    · exact hj.elim
theorem uses_small {l : List It} {m : Nat} (hm : m ≤ 1000) (hl : ∀ y ∈ l, y.Op = 2 → y.N < m) : ∀ k ∈ usesL l, ∃ n : Nat, k = n ∧ n < m := by
  induction l with
  | nil => intro k hk; cases hk
  | cons x l ih =>
    intro k hk
    simp only [usesL] at hk
    have ih := ih (fun y hy => hl y (List.mem_cons_of_mem _ hy))
    split at hk
    · rename_i h2
      rcases List.mem_cons.1 hk with rfl | hk
      · have := hl x (by simp) h2
        exact ⟨x.N, wrapI (by omega) (by omega), this⟩
      · exact ih k hk
    · exact ih k hk
theorem uses_or {σ : Sg} {t : Nat} {l : List It} {m : Nat} (hm : m ≤ 1000) (hl : ∀ y ∈ l, y.Op = 2 → y.N < m) : orF (fun k : Int => σ (.s t) k.toNat) (usesL l) = itemsN σ t l := by
  unfold itemsN
  induction l with
  | nil => rfl
  | cons x l ih =>
    have ih := ih (fun y hy => hl y (List.mem_cons_of_mem _ hy))
    rw [orF_cons, ← ih]
    simp only [usesL]
    by_cases h2 : x.Op = 2
    · have := hl x (by simp) h2
      have hw : IntKind.i64.wrap (x.N : Int) = x.N := wrapI (by omega) (by omega)
      rw [if_pos h2, if_pos h2, orF_cons, hw]
      simp
    · rw [if_neg h2, if_neg h2]; simp
theorem orF_take {α : Type} {f : α → Nat} {l : List α} {k : Nat} {x : α} (hx : l[k]? = some x) : orF f (l.take (k + 1)) = orF f (l.take k) ||| f x := by
  rw [List.take_add_one, hx]; exact orF_snoc _ _ _
theorem lenR_s {c : Cd} {t : Nat} {b : Bd} (hb : (slL c.Threads)[t]? = some b) : lenR c (.s t) = (slL b.Slots).length := by simp [lenR, slotsL, hb]
theorem orF_lt {α : Type} {f : α → Nat} {l : List α} {n : Nat} (h : ∀ x ∈ l, ∀ i, (f x).testBit i = true → i < n) : orF f l < 2 ^ n := lt_of_bits fun i hi => by
  rw [orF_bit] at hi
  obtain ⟨x, hx, hb⟩ := hi
  exact h x hx i hb
theorem from_does {h : AHeap} {sid : Nat} {c : Cd} {σ : Sg} {A : Rw → AV} {i1 i2 : Nat} {gr : Bool} (s : SolAt h sid c σ A i1 i2 gr) (wc : WfC c) (bd : Bd2 c σ) {t : Nat} {b : Bd} (hb : (slL c.Threads)[t]? = some b) (items : Option (List It)) (hok : okSl Api_Item.ok items)
    (hin : ∀ y ∈ slL items, y.Op = 2 → y.N < (slL b.Slots).length) (hlen : (slL items).length ≤ 64) :
    CallsA Tryd.prog 65 [.ptr sid 0, .int .i64 t, slAV 3 Api_Item.cells items] h (fun v h2 => v = .int .u64 (itemsN σ t (slL items) : Nat) ∧ h2 = h) := by
  refine CallsA.forget (by simp [idsIn]) ?_
  have hsl := (wc.slo t b hb).1
  have p32 := pow_small wc.sit
  apply pts_solver_from_wp
  refine (calc_Uses_does items hok (by omega) h).mono ?_
  rintro v H ⟨⟨id, rfl⟩, kp⟩
  have S := s.keep kp
  have hlu := usesL_len (slL items)
  have hsm := uses_small (m := (slL b.Slots).length) (by omega) hin
  have hor := uses_or (σ := σ) (t := t) (m := (slL b.Slots).length) (by omega) hin
  generalize usesL (slL items) = us at *
  (repeat simp -dsimp -implicitDefEqProofs (disch := omega) only [↓rP, rQ, rO, rL, ↓reduceIte, Nat.reduceEqDiff, Nat.reduceAdd, Nat.reduceLeDiff, pBuild, fillA, ↓tyr, gsI_len])
  obtain ⟨I, hI⟩ : ∃ I : Nat → Fr → AHeap → Prop, I = (fun n fr hh => ∃ k : Nat, n = us.length - k ∧ k ≤ us.length ∧ hh = H ∧ fr = frOf [(0, .ptr sid 0), (1, .int .i64 t), (7, .int .u64 (orF (fun k : Int => σ (.s t) k.toNat) (us.take k) : Nat)), (11, gsI id us), (12, .int .i64 us.length), (13, .int .i64 k)]) := ⟨_, rfl⟩
  refine WP_loop mixed_ (by kernel_rfl) I us.length (by rw [hI]; exact ⟨0, rfl, Nat.zero_le _, rfl, by simp [orF]⟩) ?_
  intro n fr hh hi
  rw [hI] at hi
  obtain ⟨k, rfl, hk, rfl, rfl⟩ := hi
  apply pts_solver_from_loop3
  (repeat simp -dsimp -implicitDefEqProofs (disch := omega) only [↓rP, rQ, rO, rL, ↓reduceIte, Nat.reduceEqDiff, Nat.reduceAdd, Nat.reduceLeDiff, pBuild, fillA, ↓tyr])
  refine Split_lt (fun hkl => ?_) (fun hkl => ?_)
  · obtain ⟨v, hv⟩ : ∃ v, us[k]? = some v := ⟨_, List.getElem?_eq_getElem (by omega)⟩
    obtain ⟨n, rfl, hn⟩ := hsm v (List.mem_of_getElem? hv)
    have hnl : n < lenR c (.s t) := by rw [lenR_s hb]; exact hn
    obtain ⟨rid, e1, e2, e3, ix, ld⟩ := S.sets.ix hnl
    have htl : t < (slL c.Threads).length := (List.getElem?_eq_some_iff.1 hb).1
    have eo : iOr .u64 ((orF (fun k : Int => σ (.s t) k.toNat) (us.take k) : Nat) : Int) ((σ (.s t) n : Nat) : Int) = ((orF (fun k : Int => σ (.s t) k.toNat) (us.take k) ||| σ (.s t) n : Nat) : Int) := by
      refine iOr_u64 _ _ ?_ ?_
      · have := orF_lt (f := fun k : Int => σ (.s t) k.toNat) (l := us.take k) (n := (slL c.Sites).length) (fun x _ i hi => bd _ _ _ hi); omega
      · have := bd.lt (.s t) n; omega
    (repeat simp -dsimp -implicitDefEqProofs (disch := omega) only [↓rP, rQ, rO, rL, ↓reduceIte, Nat.reduceEqDiff, Nat.reduceAdd, Nat.reduceLeDiff, pBuild, fillA, ↓tyr, gsI_at hv, S.ld, solR, outA_ix htl, ix, ld, eo, wkS k (by omega)])
    rw [loopPost_normal, hI]
    exact ⟨_, by omega, k + 1, rfl, by omega, rfl, by rw [orF_take hv]; simp⟩
  · (repeat simp -dsimp -implicitDefEqProofs (disch := omega) only [↓rP, rQ, rO, rL, ↓reduceIte, Nat.reduceEqDiff, Nat.reduceAdd, Nat.reduceLeDiff, pBuild, fillA, ↓tyr])
    have : k = us.length := by omega
    subst this
    rw [List.take_length, hor]
    exact ⟨rfl, kp⟩
end Go.Proofs.YtopfjochppdnfaaDoor
end

section
/- What an instruction loads, by the program. -/
set_option maxRecDepth 8000
set_option maxHeartbeats 1000000
namespace Go.Proofs.YtopfjochppdnfaaDoor
open Go.Abs
theorem shl_one {ck : CmpK} {kk : IntKind} {n : Nat} (hn : n < 64) : binA ck .shl (.int .u64 1) (.int kk (n : Int)) = some (.int .u64 ((2 ^ n : Nat) : Int)) := by
  have h := iShl_u64 1 n hn
  have h1 : ((1 : Nat) : Int) = 1 := rfl
  rw [h1] at h
  rw [binA_shl, if_neg (by omega), h, Nat.one_mul, Nat.mod_eq_of_lt]
  exact Nat.pow_lt_pow_right (by decide) hn
theorem btw_nat {n : Int} {m : Nat} (h : btw n m = true) : ∃ k : Nat, n = k ∧ k < m := by
  simp only [btw, Bool.and_eq_true, decide_eq_true_eq] at h
  exact ⟨n.toNat, by omega, by omega⟩
theorem lenR_f {c : Cd} {k : Nat} (hk : ¬ k < (slL c.Sites).length) : lenR c (.f k) = 0 := by
  simp only [lenR]; rw [List.getElem?_eq_none (by omega)]
theorem alike_keeps {i j : Nat} {h hh h2 : AHeap} (k : Keeps h hh (fun _ => False)) (a : Alike i j hh h2) (hi : h.next ≤ i) (hj : h.next ≤ j) : Keeps h h2 (fun _ => False) :=
  ⟨Nat.le_trans k.next a.1, fun y hy hs => by rw [a.2 y (by omega) (by omega)]; exact k.objs y hy hs⟩
theorem load_fields {h h0 : AHeap} {sid : Nat} {c : Cd} {σ : Sg} {A : Rw → AV} {i1 i2 : Nat} {gr : Bool} (s : SolAt h sid c σ A i1 i2 gr) (wc : WfC c) (bd : Bd2 c σ) {t : Nat} {x : In} {N : Nat} (e3 : x.Op = 3) (hN : x.N = N)
    {y o : Nat} (hy : y = σ (.s t) x.Src.toNat) (ho : o = h.next) (hh0 : h0 = (h.push (.row 23 [.int .u64 0])).push (.row 23 [.int .u64 (y : Nat)])) (Q : AExit → Fr → AHeap → Prop)
    (hQ : ∀ hh fr, Keeps h hh (fun _ => False) → hh.objs h.next = some (.row 23 [.int .u64 (fieldsN c σ t x : Nat)]) → fr 7 = .ptr o 0 → Q .normal fr hh) :
    WP Tryd.prog 81 (.rangeFunc (.tmp 47) #[48] c_pts_solver_load_11 c_pts_solver_load_12) (frOf [(3, .iptr [.ptr sid 0]), (5, .iptr x.cells), (6, .int .u64 0), (7, .ptr o 0), (47, .fn (Fn.func 58) [] [.ptr (o + 1) 0])]) h0 Q := by
  subst ho
  have p32 := pow_small wc.sit
  have hyl : y < 18446744073709551616 := by have := bd.lt (.s t) x.Src.toNat; rw [hy]; omega
  obtain ⟨F, hF⟩ : ∃ F : Nat → Nat, F = fun k => if x.N < lenR c (.f k) then σ (.f k) x.N.toNat else 0 := ⟨_, rfl⟩
  have hFf : fieldsN c σ t x = orF F (bitsOf y) := by rw [hF, hy]; rfl
  have hFl : ∀ l, orF F l < 18446744073709551616 := fun l => by
    have := orF_lt (f := F) (l := l) (n := (slL c.Sites).length) (fun k _ i hi => by
      rw [hF] at hi
      simp only at hi
      split at hi
      · exact bd _ _ _ hi
      · simp at hi)
    omega
  have n0 : h0.next = h.next + 2 := by rw [hh0]; rfl
  refine range_each (h := h0) (b := h.next + 1) (x := y) hyl (by rfl) (by rw [hh0]; simp) (by omega) (by rfl) (by kernel_rfl) (by kernel_rfl)
    (fun k => frOf [(3, .iptr [.ptr sid 0]), (5, .iptr x.cells), (7, .ptr h.next 0), (8, .int .i64 (k : Nat))])
    (fun n hh => hh.objs h.next = some (.row 23 [.int .u64 (orF F ((bitsOf y).take n) : Nat)]) ∧ Keeps h hh (fun _ => False) ∧ h.next + 2 ≤ hh.next) ?_ ?_ ?_ ?_ ?_
  · refine ⟨?_, ?_, by omega⟩
    · rw [hh0, push_old (by simp)]; simp [orF]
    · rw [hh0]; exact (Keeps.one _ _).go (Keeps.one _ _)
  · rintro n hh h2 ⟨j1, j2, j3⟩ al
    refine ⟨by rw [al.2 _ (by omega) (by omega)]; exact j1, alike_keeps j2 al (by omega) (by omega), by have := al.1; omega⟩
  · intro k hh
    show WP _ _ _ (setPs [48] [.int .i64 (k : Nat)] (frOf _)) _ _
    simp only [setPs, upd_frOf]
    refine WP.restr [3, 5, 7, 48] ?_
    apply pts_solver_load_loop11
    exact ⟨rfl, rfl, rfl⟩
  · rintro n k hh hk ⟨j1, j2, j3⟩ hL
    have S := s.keep j2
    have hkm := mem_bits.1 (List.mem_of_getElem? hk)
    have hks : k < (slL c.Sites).length := bd _ _ _ (by rw [← hy]; exact hkm.2)
    have ld : ∀ K : AV → Prop, pLoad none (.ptr h.next 0) hh K = K (.int .u64 (orF F ((bitsOf y).take n) : Nat)) := fun K => by rw [pLoad_ptr j1]; simp [pCells]
    have eN : ((N : Int)).toNat = N := by simp
    apply pts_solver_load_loop12
    (repeat simp -dsimp -implicitDefEqProofs (disch := omega) only [↓rP, rQ, rO, rL, ↓reduceIte, Nat.reduceEqDiff, Nat.reduceAdd, Nat.reduceLeDiff, pBuild, fillA, ↓tyr, e3, hN, Int.reduceBEq, S.ld, solR, outA_ix hks, S.sets.len])
    by_cases hl : N < lenR c (.f k)
    · have hFk : F k = σ (.f k) N := by rw [hF]; simp only; rw [hN, if_pos (by omega)]; simp
      obtain ⟨rid, q1, q2, q3, ix, ldr⟩ := S.sets.ix hl
      have d : decide ((N : Int) < (lenR c (.f k) : Int)) = true := decide_eq_true (by omega)
      have eo : iOr .u64 ((orF F ((bitsOf y).take n) : Nat) : Int) ((σ (.f k) N : Nat) : Int) = ((orF F ((bitsOf y).take n) ||| σ (.f k) N : Nat) : Int) := iOr_u64 _ _ (hFl _) (by have := bd.lt (.f k) N; omega)
      have st : ∀ (v : AV) (hv : v.leafy = true) (K : AHeap → Prop), pStore 1 (.ptr h.next 0) v hh K = K (hh.put h.next (.row 23 [v])) := fun v hv K => by rw [pStore_ptr j1 hv (by simp)]; rfl
      (repeat simp -dsimp -implicitDefEqProofs (disch := omega) only [↓rP, rQ, rO, rL, ↓reduceIte, Nat.reduceEqDiff, Nat.reduceAdd, Nat.reduceLeDiff, pBuild, fillA, ↓tyr, d, hN, S.ld, solR, outA_ix hks, ix, ldr, ld, eo])
      rw [st _ rfl]
      (repeat simp -dsimp -implicitDefEqProofs (disch := omega) only [↓rP, rQ, rO, rL, ↓reduceIte, Nat.reduceEqDiff, Nat.reduceAdd, Nat.reduceLeDiff, pBuild, fillA, ↓tyr])
      refine ⟨⟨?_, j2.putNew (Nat.le_refl _) _, by simpa using j3⟩, Nat.le_refl _, put_old (by omega) _, put_old (by omega) _⟩
      rw [put_new, orF_take hk, hFk]
    · have hFk : F k = 0 := by rw [hF]; simp only; rw [hN, if_neg (by omega)]
      have d : decide ((N : Int) < (lenR c (.f k) : Int)) = false := decide_eq_false (by omega)
      (repeat simp -dsimp -implicitDefEqProofs (disch := omega) only [↓rP, rQ, rO, rL, ↓reduceIte, Nat.reduceEqDiff, Nat.reduceAdd, Nat.reduceLeDiff, pBuild, fillA, ↓tyr, d])
      exact ⟨by rw [orF_take hk, hFk, Nat.or_zero]; exact j1, j2, j3⟩
  · rintro hh ⟨j1, j2, j3⟩
    rw [List.take_length, ← hFf] at j1
    exact hQ hh _ j2 j1 rfl
theorem load_does {h : AHeap} {sid : Nat} {c : Cd} {σ : Sg} {A : Rw → AV} {i1 i2 : Nat} {gr : Bool} (s : SolAt h sid c σ A i1 i2 gr) (wc : WfC c) (bd : Bd2 c σ) {t : Nat} {b : Bd} {x : In} (hb : (slL c.Threads)[t]? = some b) (w : Wf c b x) (hok : okSl Api_Item.ok x.Items)
    (hop : x.Op = 1 ∨ x.Op = 2 ∨ x.Op = 3 ∨ x.Op = 8 ∨ x.Op = 9) :
    CallsA Tryd.prog 52 [.ptr sid 0, .int .i64 t, .agg x.cells] h (fun v h2 => v = .int .u64 (bringsN c σ t x : Nat) ∧ h2 = h) := by
  refine CallsA.forget (by simp [idsIn]) ?_
  have htl : t < (slL c.Threads).length := (List.getElem?_eq_some_iff.1 hb).1
  have p32 := pow_small wc.sit
  have h32 := wc.sit
  apply pts_solver_load_wp
  rcases hop with e | e | e | e | e
  · obtain ⟨w1, w2⟩ := w.items (Or.inl e)
    (repeat simp -dsimp -implicitDefEqProofs (disch := omega) only [↓rP, rQ, rO, rL, ↓reduceIte, Nat.reduceEqDiff, Nat.reduceAdd, Nat.reduceLeDiff, pBuild, fillA, ↓tyr, e, Int.reduceBEq])
    refine CallsA.go (from_does s wc bd hb x.Items hok w1 w2) ?_
    have hbr : bringsN c σ t x = itemsN σ t (slL x.Items) := by unfold bringsN; rw [if_pos e]
    rw [hbr]
    (repeat simp -dsimp -implicitDefEqProofs (disch := omega) only [↓rP, rQ, rO, rL, ↓reduceIte, Nat.reduceEqDiff, Nat.reduceAdd, Nat.reduceLeDiff, pBuild, fillA, ↓tyr])
    exact .refl _ _
  · obtain ⟨n, hn, hl⟩ := btw_nat (w.glob (Or.inl e))
    obtain ⟨rid, q1, q2, q3, ix, ld⟩ := s.sets.ix (r := .g) hl
    have hbr : bringsN c σ t x = σ .g n := by unfold bringsN; rw [if_neg (by omega), if_pos e, hn]; rfl
    rw [hbr]
    (repeat simp -dsimp -implicitDefEqProofs (disch := omega) only [↓rP, rQ, rO, rL, ↓reduceIte, Nat.reduceEqDiff, Nat.reduceAdd, Nat.reduceLeDiff, pBuild, fillA, ↓tyr, e, hn, Int.reduceBEq, s.ld, solR, ix, ld])
    exact .refl _ _
  · obtain ⟨rr, hr, hN, hS⟩ := w.fld (Or.inl e)
    obtain ⟨N, eN, hNl⟩ := btw_nat hN
    obtain ⟨m, em, hm⟩ := btw_nat hS
    have hml : m < lenR c (.s t) := by rw [lenR_s hb]; exact hm
    obtain ⟨rid, q1, q2, q3, ix, ld⟩ := s.sets.ix hml
    have S1 := s.keep (Keeps.one h (.row 23 [.int .u64 0]))
    have ld1 : ∀ K : AV → Prop, pLoad none (.ptr rid m) (h.push (.row 23 [.int .u64 0])) K = K (.int .u64 (σ (.s t) m : Nat)) := fun K => by
      rw [← ld K, pLoad_ptr q3, pLoad_ptr (by rw [push_old q2]; exact q3)]
    (repeat simp -dsimp -implicitDefEqProofs (disch := omega) only [↓rP, rQ, rO, rL, ↓reduceIte, Nat.reduceEqDiff, Nat.reduceAdd, Nat.reduceLeDiff, pBuild, fillA, ↓tyr, e, Int.reduceBEq])
    rw [pStore_one (by rfl)]
    (repeat simp -dsimp -implicitDefEqProofs (disch := omega) only [↓rP, rQ, rO, rL, ↓reduceIte, Nat.reduceEqDiff, Nat.reduceAdd, Nat.reduceLeDiff, pBuild, fillA, ↓tyr, em, S1.ld, solR, outA_ix htl, ix, ld1])
    refine (each_does _ _).mono ?_
    rintro _ _ ⟨rfl, rfl⟩
    (repeat simp -dsimp -implicitDefEqProofs (disch := omega) only [↓rP, rQ, rO, rL, ↓reduceIte, Nat.reduceEqDiff, Nat.reduceAdd, Nat.reduceLeDiff, pBuild, fillA, ↓tyr])
    refine load_fields (h0 := (h.push (.row 23 [.int .u64 0])).push (.row 23 [.int .u64 (σ (.s t) m : Nat)])) (y := σ (.s t) m) s wc bd e eN (by rw [em]; rfl) rfl rfl _ ?_
    intro hh fr k1 k2 k3
    have ld2 : ∀ K : AV → Prop, pLoad none (.ptr h.next 0) hh K = K (.int .u64 (fieldsN c σ t x : Nat)) := fun K => by rw [pLoad_ptr k2]; simp [pCells]
    have hbr : bringsN c σ t x = fieldsN c σ t x := by unfold bringsN; rw [if_neg (by omega), if_neg (by omega), if_neg (by omega), if_pos e]
    rw [hbr]
    (repeat simp -dsimp -implicitDefEqProofs (disch := omega) only [↓rP, rQ, rO, rL, ↓reduceIte, Nat.reduceEqDiff, Nat.reduceAdd, Nat.reduceLeDiff, pBuild, fillA, ↓tyr, k3, ld2])
    exact k1
  · obtain ⟨n, hn, hl⟩ := btw_nat (w.site (Or.inl e))
    have hbr : bringsN c σ t x = 2 ^ n := by unfold bringsN; rw [if_neg (by omega), if_neg (by omega), if_pos (Or.inl e), hn]; rfl
    rw [hbr]
    (repeat simp -dsimp -implicitDefEqProofs (disch := omega) only [↓rP, rQ, rO, rL, ↓reduceIte, Nat.reduceEqDiff, Nat.reduceAdd, Nat.reduceLeDiff, pBuild, fillA, ↓tyr, e, hn, Int.reduceBEq, shl_one (show n < 64 by omega)])
    exact .refl _ _
  · obtain ⟨n, hn, hl⟩ := btw_nat (w.site (Or.inr e))
    have hbr : bringsN c σ t x = 2 ^ n := by unfold bringsN; rw [if_neg (by omega), if_neg (by omega), if_pos (Or.inr e), hn]; rfl
    rw [hbr]
    (repeat simp -dsimp -implicitDefEqProofs (disch := omega) only [↓rP, rQ, rO, rL, ↓reduceIte, Nat.reduceEqDiff, Nat.reduceAdd, Nat.reduceLeDiff, pBuild, fillA, ↓tyr, e, hn, Int.reduceBEq, shl_one (show n < 64 by omega)])
    exact .refl _ _
end Go.Proofs.YtopfjochppdnfaaDoor
end

section
/- What an instruction stores, and a step, by the program. -/
set_option maxRecDepth 8000
set_option maxHeartbeats 1000000
namespace Go.Proofs.YtopfjochppdnfaaDoor
open Go.Abs
theorem SetsAt.old {h : AHeap} {c : Cd} {σ : Sg} {A : Rw → AV} (s : SetsAt h c σ A) {r : Rw} {id : Nat} (e : A r = .sl id 0 (lenR c r) 1) : id < h.next := by
  rcases s.row r with ⟨e2, _⟩ | ⟨id2, e2, hid, _⟩
  · rw [e] at e2; cases e2
  · rw [e] at e2; cases e2; exact hid
theorem SolAt.alike {h hh h2 : AHeap} {sid : Nat} {c : Cd} {σ τ : Sg} {A : Rw → AV} {i1 i2 : Nat} {gr g2 : Bool} (s : SolAt h sid c σ A i1 i2 gr) {i j : Nat} (S : SolAt hh sid c τ A i1 i2 g2) (al : Alike i j hh h2) (hi : h.next ≤ i) (hj : h.next ≤ j) : SolAt h2 sid c τ A i1 i2 g2 := by
  have hs := s.lt
  refine ⟨S.sets.keep (S := fun k => k = i ∨ k = j) ⟨al.1, fun k _ hk => al.2 k (fun h => hk (Or.inl h)) (fun h => hk (Or.inr h))⟩ ?_, ?_, Nat.lt_of_lt_of_le S.lt al.1, S.ne⟩
  · intro r id e
    have := s.sets.old e
    rintro (h | h) <;> omega
  · rw [al.2 sid (by omega) (by omega)]; exact S.obj
theorem Own.lt {h : AHeap} {sid : Nat} {c : Cd} {σ : Sg} {A : Rw → AV} {i1 i2 : Nat} {gr : Bool} (s : SolAt h sid c σ A i1 i2 gr) {i : Nat} (o : Own sid c A i) : i < h.next := by
  rcases o with rfl | ⟨r, e⟩
  · exact s.lt
  · exact s.sets.old e
theorem grew_trans {σ τ ρ : Sg} (h1 : Le σ τ) (h2 : Le τ ρ) : (τ ≠ σ ∨ ρ ≠ τ) ↔ ρ ≠ σ := by
  constructor
  · rintro h rfl
    have : τ = ρ := Le.anti h2 h1
    subst this
    simp at h
  · intro h
    by_cases e : τ = σ
    · right; rw [e]; exact h
    · left; exact e
def partF (c : Cd) (rec : Int) (N m : Nat) (L : List Nat) (σ : Sg) : Sg := fun r j =>
  match r with
  | .f k => if k ∈ L ∧ siteRec c k rec = true ∧ j = N then σ (.f k) j ||| m else σ (.f k) j
  | r => σ r j
theorem partF_nil (c : Cd) (rec : Int) (N m : Nat) (σ : Sg) : partF c rec N m [] σ = σ := by
  funext r j
  cases r <;> simp [partF]
theorem partF_yes {c : Cd} {rec : Int} {N m : Nat} {L : List Nat} {σ : Sg} {k : Nat} (h : siteRec c k rec = true) : partF c rec N m (L ++ [k]) σ = updS (partF c rec N m L σ) (.f k) N (partF c rec N m L σ (.f k) N ||| m) := by
  funext r j
  unfold updS
  cases r with
  | f i =>
    simp only [partF, List.mem_append, List.mem_singleton]
    by_cases hi : i = k
    · subst hi
      by_cases hj : j = N
      · subst hj
        simp only [h, or_true, and_self, if_true]
        by_cases hL : i ∈ L
        · simp [hL, Nat.or_assoc]
        · simp [hL]
      · simp [hj]
    · simp [hi]
  | g => simp [partF]
  | s t => simp [partF]
theorem partF_no {c : Cd} {rec : Int} {N m : Nat} {L : List Nat} {σ : Sg} {k : Nat} (h : siteRec c k rec = false) : partF c rec N m (L ++ [k]) σ = partF c rec N m L σ := by
  funext r j
  cases r with
  | f i =>
    simp only [partF, List.mem_append, List.mem_singleton]
    by_cases hi : i = k
    · subst hi; simp [h]
    · simp [hi]
  | g => simp [partF]
  | s t => simp [partF]
theorem partF_le (c : Cd) (rec : Int) (N m : Nat) (L : List Nat) (σ : Sg) : Le σ (partF c rec N m L σ) := by
  intro r n i h
  cases r with
  | f k =>
    simp only [partF]
    split
    · rw [Nat.testBit_or, h]; rfl
    · exact h
  | g => exact h
  | s t => exact h
theorem partF_lt {c : Cd} {rec : Int} {N m : Nat} {L : List Nat} {σ : Sg} (bd : Bd2 c σ) (hm : ∀ i, m.testBit i = true → i < (slL c.Sites).length) (r : Rw) (n : Nat) : partF c rec N m L σ r n < 2 ^ (slL c.Sites).length := by
  apply lt_of_bits
  intro i hi
  cases r with
  | f k =>
    simp only [partF] at hi
    split at hi
    · rw [Nat.testBit_or, Bool.or_eq_true] at hi
      rcases hi with hi | hi
      · exact bd _ _ _ hi
      · exact hm i hi
    · exact bd _ _ _ hi
  | g => exact bd _ _ _ hi
  | s t => exact bd _ _ _ hi
theorem step_six {c : Cd} {t : Nat} {x : In} {σ : Sg} {N : Nat} (e : x.Op = 6) (hN : x.N = N) (hm : meansO (getI (recL c x.Rec) x.N) = true) (bd : Bd2 c σ) (h32 : (slL c.Sites).length ≤ 32) : partF c x.Rec N (itemsN σ t (slL x.Items)) (bitsOf (σ (.s t) x.Src.toNat)) σ = stepS c t x σ := by
  funext r j
  have hd : dstB c t x = false := by simp [dstB, e]
  have e5 : ¬ (6 : Int) = 5 := by omega
  rw [hN] at hm
  simp only [stepS, contr, hd, e, e5, hm, hN, Bool.false_eq_true, false_and, if_false, true_and, Int.toNat_natCast]
  cases r with
  | f k =>
    simp only [partF, toF, Bool.and_eq_true]
    by_cases hc : k ∈ bitsOf (σ (.s t) x.Src.toNat) ∧ siteRec c k x.Rec = true ∧ j = N
    · rw [if_pos hc, if_pos ⟨⟨(mem_bits.1 hc.1).2, hc.2.1⟩, by have := hc.2.2; omega⟩]
    · rw [if_neg hc, if_neg]
      · simp
      · rintro ⟨⟨h1, h2⟩, h3⟩
        have := bd _ _ _ h1
        exact hc ⟨mem_bits.2 ⟨by omega, h1⟩, h2, by omega⟩
  | g => simp [partF, toF]
  | s t => simp [partF, toF]
theorem step_five {c : Cd} {t : Nat} {x : In} {σ : Sg} {N : Nat} (e : x.Op = 5) (hN : x.N = N) (hm : meansO (getI (slL c.Globals) x.N) = true) : updS σ .g N (σ .g N ||| itemsN σ t (slL x.Items)) = stepS c t x σ := by
  funext r j
  have hd : dstB c t x = false := by simp [dstB, e]
  rw [hN] at hm
  simp only [stepS, contr, hd, e, hN, hm, Bool.false_eq_true, false_and, if_false, true_and, updS, Int.toNat_natCast]
  by_cases hc : r = .g ∧ j = N
  · rw [if_pos hc, if_pos hc, hc.1, hc.2]
  · rw [if_neg hc, if_neg hc, if_neg (by omega)]; simp
theorem step_dst {c : Cd} {t : Nat} {x : In} {σ : Sg} {d : Nat} (hd : dstB c t x = true) (e : x.Dst = d) : updS σ (.s t) d (σ (.s t) d ||| bringsN c σ t x) = stepS c t x σ := by
  funext r j
  have h56 : x.Op ≠ 5 ∧ x.Op ≠ 6 := by
    simp only [dstB, Bool.and_eq_true, Bool.or_eq_true, decide_eq_true_eq] at hd
    omega
  simp only [stepS, contr, hd, e, true_and, updS, Int.toNat_natCast]
  by_cases hc : r = .s t ∧ j = d
  · rw [if_pos hc, if_pos hc, hc.1, hc.2]
  · rw [if_neg hc, if_neg hc, if_neg (by simp [h56.1]), if_neg (by simp [h56.2])]; simp
theorem step_no {c : Cd} {t : Nat} {x : In} {σ : Sg} (hd : dstB c t x = false) (h5 : x.Op = 5 → meansO (getI (slL c.Globals) x.N) = false) (h6 : x.Op = 6 → meansO (getI (recL c x.Rec) x.N) = false) : stepS c t x σ = σ := by
  funext r j
  simp only [stepS, contr, hd, Bool.false_eq_true, false_and, if_false]
  rw [if_neg, if_neg]
  · simp
  · rintro ⟨h, h2, _⟩; rw [h6 h] at h2; cases h2
  · rintro ⟨h, h2, _⟩; rw [h5 h] at h2; cases h2
def StepQ (h : AHeap) (sid : Nat) (c : Cd) (σ τ : Sg) (A : Rw → AV) (i1 i2 : Nat) (gr : Bool) (h2 : AHeap) : Prop := ∃ gr', (gr' = true ↔ gr = true ∨ τ ≠ σ) ∧ SolAt h2 sid c τ A i1 i2 gr' ∧ Keeps h h2 (Own sid c A)
theorem StepQ.same {h h2 : AHeap} {sid : Nat} {c : Cd} {σ : Sg} {A : Rw → AV} {i1 i2 : Nat} {gr : Bool} (s : SolAt h sid c σ A i1 i2 gr) (k : Keeps h h2 (fun _ => False)) : StepQ h sid c σ σ A i1 i2 gr h2 := ⟨gr, by simp, s.keep k, k.mono (fun _ h => h.elim)⟩
theorem siteRec_eq {c : Cd} {k : Nat} {s : Api_Site} {n : Int} (hk : (slL c.Sites)[k]? = some s) : siteRec c k n = decide (s.Rec = n) := by simp [siteRec, hk]
theorem store_fields {h h0 : AHeap} {sid : Nat} {c : Cd} {σ : Sg} {A : Rw → AV} {i1 i2 : Nat} {gr : Bool} (s : SolAt h sid c σ A i1 i2 gr) (wc : WfC c) (bd : Bd2 c σ) {t : Nat} {x : In} {N m y o : Nat} {rr : Option (List Lo)} (hN : x.N = N) (hr : getI (slL c.Records) x.Rec = some rr) (hNl : N < (slL rr).length)
    (hm : m = itemsN σ t (slL x.Items)) (hy : y = σ (.s t) x.Src.toNat) (ho : o = h.next) (hh0 : h0 = (h.push (.row 23 [.int .u64 (m : Nat)])).push (.row 23 [.int .u64 (y : Nat)])) (Q : AExit → Fr → AHeap → Prop)
    (hQ : ∀ hh fr, StepQ h sid c σ (partF c x.Rec N m (bitsOf y) σ) A i1 i2 gr hh → Q .normal fr hh) :
    WP Tryd.prog 92 (.rangeFunc (.tmp 64) #[65] c_pts_solver_store_7 c_pts_solver_store_8) (frOf [(3, .iptr [.ptr sid 0]), (5, .iptr x.cells), (6, .ptr o 0), (64, .fn (Fn.func 58) [] [.ptr (o + 1) 0])]) h0 Q := by
  subst ho
  have p32 := pow_small wc.sit
  have hyl : y < 18446744073709551616 := by have := bd.lt (.s t) x.Src.toNat; rw [hy]; omega
  have mb : ∀ i, m.testBit i = true → i < (slL c.Sites).length := fun i hi => items_bd bd (by rw [← hm]; exact hi)
  have hml : m < 18446744073709551616 := by have := lt_of_bits mb; omega
  have n0 : h0.next = h.next + 2 := by rw [hh0]; rfl
  have kp0 : Keeps h h0 (fun _ => False) := by rw [hh0]; exact (Keeps.one _ _).go (Keeps.one _ _)
  refine range_each (h := h0) (b := h.next + 1) (x := y) hyl (by rfl) (by rw [hh0]; simp) (by omega) (by rfl) (by kernel_rfl) (by kernel_rfl)
    (fun k => frOf [(3, .iptr [.ptr sid 0]), (5, .iptr x.cells), (6, .ptr h.next 0), (7, .int .i64 (k : Nat))])
    (fun n hh => StepQ h sid c σ (partF c x.Rec N m ((bitsOf y).take n) σ) A i1 i2 gr hh ∧ hh.objs h.next = some (.row 23 [.int .u64 (m : Nat)]) ∧ h.next + 2 ≤ hh.next) ?_ ?_ ?_ ?_ ?_
  · refine ⟨?_, ?_, by omega⟩
    · rw [List.take_zero, partF_nil]
      exact StepQ.same s kp0
    · rw [hh0, push_old (by simp)]; simp
  · rintro n hh h2 ⟨⟨g2, q1, q2, q3⟩, j2, j3⟩ al
    refine ⟨⟨g2, q1, s.alike q2 al (by omega) (by omega), ⟨Nat.le_trans q3.next al.1, fun i hi ho => ?_⟩⟩, by rw [al.2 _ (by omega) (by omega)]; exact j2, by have := al.1; omega⟩
    rw [al.2 i (by omega) (by omega)]
    exact q3.objs i hi ho
  · intro k hh
    show WP _ _ _ (setPs [65] [.int .i64 (k : Nat)] (frOf _)) _ _
    simp only [setPs, upd_frOf]
    refine WP.restr [3, 5, 6, 65] ?_
    apply pts_solver_store_loop7
    exact ⟨rfl, rfl, rfl⟩
  · rintro n k hh hk ⟨⟨g2, q1, S, q3⟩, j2, j3⟩ hL
    have hkm := mem_bits.1 (List.mem_of_getElem? hk)
    have hks : k < (slL c.Sites).length := bd _ _ _ (by rw [← hy]; exact hkm.2)
    obtain ⟨st, hst⟩ : ∃ st, (slL c.Sites)[k]? = some st := ⟨_, List.getElem?_eq_getElem hks⟩
    have ld : ∀ K : AV → Prop, pLoad none (.ptr h.next 0) hh K = K (.int .u64 (m : Nat)) := fun K => by rw [pLoad_ptr j2]; simp [pCells]
    have htk : (bitsOf y).take (n + 1) = (bitsOf y).take n ++ [k] := by rw [List.take_add_one, hk]; rfl
    apply pts_solver_store_loop8
    (repeat simp -dsimp -implicitDefEqProofs (disch := omega) only [↓rP, rQ, rO, rL, ↓reduceIte, Nat.reduceEqDiff, Nat.reduceAdd, Nat.reduceLeDiff, pBuild, fillA, ↓tyr, S.ld, solR, pIndexAddr_slAV hst])
    refine Split_eq (fun he => ?_) (fun he => ?_)
    · have hsr : siteRec c k x.Rec = true := by rw [siteRec_eq hst]; exact decide_eq_true he
      have hlen : N < lenR c (.f k) := by simp only [lenR, hst, he, recL, hr]; exact hNl
      obtain ⟨rid, r1, r2, r3, ix, ldr⟩ := S.sets.ix hlen
      (repeat simp -dsimp -implicitDefEqProofs (disch := omega) only [↓rP, rQ, rO, rL, ↓reduceIte, Nat.reduceEqDiff, Nat.reduceAdd, Nat.reduceLeDiff, pBuild, fillA, ↓tyr, S.ld, solR, outA_ix hks, hN, ix, ld])
      refine (add_does S hlen r1 (by have := partF_lt (L := (bitsOf y).take n) (rec := x.Rec) (N := N) bd mb (.f k) N; omega) hml).mono ?_
      rintro _ h2 ⟨rfl, g3, a1, a2, a3⟩
      rw [← partF_yes hsr, ← htk] at a1 a2
      have hno : ∀ i, h.next ≤ i → ¬ Own sid c A i := fun i hi ho => by have := Own.lt s ho; omega
      (repeat simp -dsimp -implicitDefEqProofs (disch := omega) only [↓rP, rQ, rO, rL, ↓reduceIte, Nat.reduceEqDiff, Nat.reduceAdd, Nat.reduceLeDiff, pBuild, fillA, ↓tyr])
      refine ⟨⟨⟨g3, ?_, a2, ?_⟩, ?_, ?_⟩, a3.next, ?_, ?_⟩
      · rw [a1, q1, or_assoc]
        have hle : Le (partF c x.Rec N m ((bitsOf y).take n) σ) (partF c x.Rec N m ((bitsOf y).take (n + 1)) σ) := by
          rw [htk, partF_yes hsr]
          intro r j i hi
          unfold updS
          split
          · rename_i hq; rw [hq.1, hq.2] at hi; rw [Nat.testBit_or, hi]; rfl
          · exact hi
        rw [grew_trans (partF_le _ _ _ _ _ _) hle]
      · exact q3.trans a3 (fun _ _ h => h)
      · rw [a3.objs _ (by omega) (hno _ (by omega))]; exact j2
      · have := a3.next; omega
      · exact a3.objs _ (by omega) (hno _ (by omega))
      · exact a3.objs _ (by omega) (hno _ (by omega))
    · have hsr : siteRec c k x.Rec = false := by rw [siteRec_eq hst]; exact decide_eq_false he
      (repeat simp -dsimp -implicitDefEqProofs (disch := omega) only [↓rP, rQ, rO, rL, ↓reduceIte, Nat.reduceEqDiff, Nat.reduceAdd, Nat.reduceLeDiff, pBuild, fillA, ↓tyr])
      rw [htk, partF_no hsr]
      exact ⟨⟨g2, q1, S, q3⟩, j2, j3⟩
  · rintro hh ⟨j1, j2, j3⟩
    rw [List.take_length] at j1
    exact hQ hh _ j1
theorem store_does {h : AHeap} {sid : Nat} {c : Cd} {σ : Sg} {A : Rw → AV} {i1 i2 : Nat} {gr : Bool} (s : SolAt h sid c σ A i1 i2 gr) (wc : WfC c) (bd : Bd2 c σ) {t : Nat} {b : Bd} {x : In} (hb : (slL c.Threads)[t]? = some b) (w : Wf c b x) (hok : okSl Api_Item.ok x.Items)
    (hop : x.Op = 5 ∨ x.Op = 6) :
    CallsA Tryd.prog 53 [.ptr sid 0, .int .i64 t, .agg x.cells] h (fun v h2 => v = .tup [] ∧ StepQ h sid c σ (stepS c t x σ) A i1 i2 gr h2) := by
  have htl : t < (slL c.Threads).length := (List.getElem?_eq_some_iff.1 hb).1
  have p32 := pow_small wc.sit
  have h32 := wc.sit
  have hm : itemsN σ t (slL x.Items) < 18446744073709551616 := by have := lt_of_bits (fun i hi => items_bd bd (t := t) (l := slL x.Items) (i := i) hi); omega
  obtain ⟨w1, w2⟩ := w.items (Or.inr hop)
  have S1 := s.keep (Keeps.one h (.row 23 [.int .u64 (itemsN σ t (slL x.Items) : Nat)]))
  have ld1 : ∀ K : AV → Prop, pLoad none (.ptr h.next 0) (h.push (.row 23 [.int .u64 (itemsN σ t (slL x.Items) : Nat)])) K = K (.int .u64 (itemsN σ t (slL x.Items) : Nat)) := fun K => by rw [pLoad_push]; simp [pCells]
  apply pts_solver_store_wp
  (repeat simp -dsimp -implicitDefEqProofs (disch := omega) only [↓rP, rQ, rO, rL, ↓reduceIte, Nat.reduceEqDiff, Nat.reduceAdd, Nat.reduceLeDiff, pBuild, fillA, ↓tyr])
  refine CallsA.go (from_does s wc bd hb x.Items hok w1 w2) ?_
  rcases hop with e | e
  · obtain ⟨N, eN, hl⟩ := btw_nat (w.glob (Or.inr e))
    obtain ⟨g, hg⟩ : ∃ g, (slL c.Globals)[N]? = some g := ⟨_, List.getElem?_eq_getElem hl⟩
    have hgl : N < lenR c .g := hl
    (repeat simp -dsimp -implicitDefEqProofs (disch := omega) only [↓rP, rQ, rO, rL, ↓reduceIte, Nat.reduceEqDiff, Nat.reduceAdd, Nat.reduceLeDiff, pBuild, fillA, ↓tyr])
    rw [pStore_one (by rfl)]
    (repeat simp -dsimp -implicitDefEqProofs (disch := omega) only [↓rP, rQ, rO, rL, ↓reduceIte, Nat.reduceEqDiff, Nat.reduceAdd, Nat.reduceLeDiff, pBuild, fillA, ↓tyr, e, eN, Int.reduceBEq, S1.ld, solR, pIndexAddr_slAV hg])
    refine CallsA.go (means_does g _) ?_
    have hmo : meansO (getI (slL c.Globals) x.N) = meansB g := by rw [eN, getI_natCast, hg]; rfl
    cases hmg : meansB g with
    | true =>
      obtain ⟨rid, r1, r2, r3, ix, ldr⟩ := S1.sets.ix hgl
      (repeat simp -dsimp -implicitDefEqProofs (disch := omega) only [↓rP, rQ, rO, rL, ↓reduceIte, Nat.reduceEqDiff, Nat.reduceAdd, Nat.reduceLeDiff, pBuild, fillA, ↓tyr, e, eN, Int.reduceBEq, S1.ld, solR, ix, ld1])
      refine (add_does S1 hgl r1 (by have := bd.lt .g N; omega) hm).mono ?_
      rintro _ h2 ⟨rfl, g3, a1, a2, a3⟩
      rw [step_five e eN (by rw [hmo, hmg])] at a1 a2
      (repeat simp -dsimp -implicitDefEqProofs (disch := omega) only [↓rP, rQ, rO, rL, ↓reduceIte, Nat.reduceEqDiff, Nat.reduceAdd, Nat.reduceLeDiff, pBuild, fillA, ↓tyr])
      exact ⟨g3, a1, a2, ((Keeps.one _ _).mono (fun _ h => h.elim)).trans a3 (fun _ _ h => h)⟩
    | false =>
      (repeat simp -dsimp -implicitDefEqProofs (disch := omega) only [↓rP, rQ, rO, rL, ↓reduceIte, Nat.reduceEqDiff, Nat.reduceAdd, Nat.reduceLeDiff, pBuild, fillA, ↓tyr])
      rw [step_no (by simp [dstB, e]) (fun _ => by rw [hmo, hmg]) (fun h => by omega)]
      exact StepQ.same s (Keeps.one _ _)
  · obtain ⟨rr, hr, hN, hS⟩ := w.fld (Or.inr e)
    obtain ⟨N, eN, hNl⟩ := btw_nat hN
    obtain ⟨m, em, hml⟩ := btw_nat hS
    obtain ⟨f, hf⟩ : ∃ f, (slL rr)[N]? = some f := ⟨_, List.getElem?_eq_getElem hNl⟩
    have hsl : m < lenR c (.s t) := by rw [lenR_s hb]; exact hml
    (repeat simp -dsimp -implicitDefEqProofs (disch := omega) only [↓rP, rQ, rO, rL, ↓reduceIte, Nat.reduceEqDiff, Nat.reduceAdd, Nat.reduceLeDiff, pBuild, fillA, ↓tyr])
    rw [pStore_one (by rfl)]
    (repeat simp -dsimp -implicitDefEqProofs (disch := omega) only [↓rP, rQ, rO, rL, ↓reduceIte, Nat.reduceEqDiff, Nat.reduceAdd, Nat.reduceLeDiff, pBuild, fillA, ↓tyr, e, eN, Int.reduceBEq, S1.ld, solR, ixI hr, pIndexAddr_slAV hf])
    refine CallsA.go (means_does f _) ?_
    have hmo : meansO (getI (recL c x.Rec) x.N) = meansB f := by simp only [recL, hr]; rw [eN, getI_natCast, hf]; rfl
    cases hmg : meansB f with
    | true =>
      obtain ⟨rid, r1, r2, r3, ix, ldr⟩ := S1.sets.ix hsl
      (repeat simp -dsimp -implicitDefEqProofs (disch := omega) only [↓rP, rQ, rO, rL, ↓reduceIte, Nat.reduceEqDiff, Nat.reduceAdd, Nat.reduceLeDiff, pBuild, fillA, ↓tyr, S1.ld, solR, outA_ix htl, em, ix, ldr])
      refine (each_does _ _).mono ?_
      rintro _ _ ⟨rfl, rfl⟩
      (repeat simp -dsimp -implicitDefEqProofs (disch := omega) only [↓rP, rQ, rO, rL, ↓reduceIte, Nat.reduceEqDiff, Nat.reduceAdd, Nat.reduceLeDiff, pBuild, fillA, ↓tyr])
      refine store_fields (h0 := (h.push (.row 23 [.int .u64 (itemsN σ t (slL x.Items) : Nat)])).push (.row 23 [.int .u64 (σ (.s t) m : Nat)])) (y := σ (.s t) m) (rr := rr) s wc bd eN hr hNl rfl (by rw [em]; rfl) rfl rfl _ ?_
      intro hh fr q
      have e6 := step_six (t := t) e eN (by rw [hmo, hmg]) bd h32
      rw [em, Int.toNat_natCast] at e6
      rw [e6] at q
      (repeat simp -dsimp -implicitDefEqProofs (disch := omega) only [↓rP, rQ, rO, rL, ↓reduceIte, Nat.reduceEqDiff, Nat.reduceAdd, Nat.reduceLeDiff, pBuild, fillA, ↓tyr])
      exact q
    | false =>
      (repeat simp -dsimp -implicitDefEqProofs (disch := omega) only [↓rP, rQ, rO, rL, ↓reduceIte, Nat.reduceEqDiff, Nat.reduceAdd, Nat.reduceLeDiff, pBuild, fillA, ↓tyr])
      rw [step_no (by simp [dstB, e]) (fun h => by omega) (fun _ => by rw [hmo, hmg])]
      exact StepQ.same s (Keeps.one _ _)
end Go.Proofs.YtopfjochppdnfaaDoor
end

section
/- A step, by the program. -/
set_option maxRecDepth 8000
set_option maxHeartbeats 1000000
namespace Go.Proofs.YtopfjochppdnfaaDoor
open Go.Abs
theorem step_does {h : AHeap} {sid : Nat} {c : Cd} {σ : Sg} {A : Rw → AV} {i1 i2 : Nat} {gr : Bool} (s : SolAt h sid c σ A i1 i2 gr) (wc : WfC c) (bd : Bd2 c σ) {t : Nat} {b : Bd} {x : In} (hb : (slL c.Threads)[t]? = some b) (w : Wf c b x) (hok : okSl Api_Item.ok x.Items) :
    CallsA Tryd.prog 35 [.ptr sid 0, .int .i64 t, .agg x.cells] h (fun v h2 => v = .tup [] ∧ StepQ h sid c σ (stepS c t x σ) A i1 i2 gr h2) := by
  have htl : t < (slL c.Threads).length := (List.getElem?_eq_some_iff.1 hb).1
  have p32 := pow_small wc.sit
  have h32 := wc.sit
  have hst : slotsL c t = slL b.Slots := by unfold slotsL; rw [hb]
  apply pts_solver_step_wp
  (repeat simp -dsimp -implicitDefEqProofs (disch := omega) only [↓rP, rQ, rO, rL, ↓reduceIte, Nat.reduceEqDiff, Nat.reduceAdd, Nat.reduceLeDiff, pBuild, fillA, ↓tyr])
  refine CallsA.go (code_Writes_does x _) ?_
  by_cases ho : x.Op = 1 ∨ x.Op = 2 ∨ x.Op = 3 ∨ x.Op = 4 ∨ x.Op = 8 ∨ x.Op = 9 ∨ x.Op = 10
  · rw [if_pos ho]
    obtain ⟨d, ed, hd⟩ := btw_nat (w.dst ho)
    obtain ⟨l, hl⟩ : ∃ l, (slL b.Slots)[d]? = some l := ⟨_, List.getElem?_eq_getElem hd⟩
    have hdl : d < lenR c (.s t) := by rw [lenR_s hb]; exact hd
    have n5 : (x.Op == 5) = false := by rw [beqI]; exact decide_eq_false (by omega)
    have n6 : (x.Op == 6) = false := by rw [beqI]; exact decide_eq_false (by omega)
    have hgl : getI (slL b.Slots) x.Dst = some l := by rw [ed, getI_natCast]; exact hl
    have hmo : meansO (getI (slotsL c t) x.Dst) = meansB l := by rw [hst, hgl]; rfl
    (repeat simp -dsimp -implicitDefEqProofs (disch := omega) only [↓rP, rQ, rO, rL, ↓reduceIte, Nat.reduceEqDiff, Nat.reduceAdd, Nat.reduceLeDiff, pBuild, fillA, ↓tyr, ed, s.ld, solR, pIndexAddr_slAV hb, pIndexAddr_slAV hl])
    refine CallsA.go (means_does l _) ?_
    cases hm : meansB l with
    | true =>
      have hop : x.Op = 1 ∨ x.Op = 2 ∨ x.Op = 3 ∨ x.Op = 8 ∨ x.Op = 9 := by
        by_cases h4 : x.Op = 4 ∨ x.Op = 10
        · have hk := w.ints h4 l hgl
          simp [meansB, hk] at hm
        · omega
      have hds : dstB c t x = true := by
        simp only [dstB, hmo, hm, Bool.and_true, Bool.or_eq_true, decide_eq_true_eq]; omega
      obtain ⟨rid, r1, r2, r3, ix, ldr⟩ := s.sets.ix hdl
      have hbr : bringsN c σ t x < 18446744073709551616 := by have := lt_of_bits (fun i hi => brings_bd bd w (t := t) (i := i) hi); omega
      (repeat simp -dsimp -implicitDefEqProofs (disch := omega) only [↓rP, rQ, rO, rL, ↓reduceIte, Nat.reduceEqDiff, Nat.reduceAdd, Nat.reduceLeDiff, pBuild, fillA, ↓tyr, ed, s.ld, solR, outA_ix htl, ix])
      refine CallsA.go (load_does s wc bd hb w hok hop) ?_
      (repeat simp -dsimp -implicitDefEqProofs (disch := omega) only [↓rP, rQ, rO, rL, ↓reduceIte, Nat.reduceEqDiff, Nat.reduceAdd, Nat.reduceLeDiff, pBuild, fillA, ↓tyr, s.ld, solR])
      refine (add_does s hdl r1 (by have := bd.lt (.s t) d; omega) hbr).mono ?_
      rintro _ h2 ⟨rfl, g3, a1, a2, a3⟩
      rw [step_dst hds ed] at a1 a2
      (repeat simp -dsimp -implicitDefEqProofs (disch := omega) only [↓rP, rQ, rO, rL, ↓reduceIte, Nat.reduceEqDiff, Nat.reduceAdd, Nat.reduceLeDiff, pBuild, fillA, ↓tyr, n5, n6])
      exact ⟨g3, a1, a2, a3⟩
    | false =>
      (repeat simp -dsimp -implicitDefEqProofs (disch := omega) only [↓rP, rQ, rO, rL, ↓reduceIte, Nat.reduceEqDiff, Nat.reduceAdd, Nat.reduceLeDiff, pBuild, fillA, ↓tyr, n5, n6])
      rw [step_no (by simp [dstB, hmo, hm]) (fun h => by omega) (fun h => by omega)]
      exact StepQ.same s (.refl _ _)
  · rw [if_neg ho]
    have hds : dstB c t x = false := by
      simp only [dstB, Bool.and_eq_false_iff, Bool.or_eq_false_iff, decide_eq_false_iff_not]; left; omega
    by_cases h56 : x.Op = 5 ∨ x.Op = 6
    · rcases h56 with e | e
      · (repeat simp -dsimp -implicitDefEqProofs (disch := omega) only [↓rP, rQ, rO, rL, ↓reduceIte, Nat.reduceEqDiff, Nat.reduceAdd, Nat.reduceLeDiff, pBuild, fillA, ↓tyr, e, Int.reduceBEq])
        refine (store_does s wc bd hb w hok (Or.inl e)).mono ?_
        rintro _ h2 ⟨rfl, q⟩
        (repeat simp -dsimp -implicitDefEqProofs (disch := omega) only [↓rP, rQ, rO, rL, ↓reduceIte, Nat.reduceEqDiff, Nat.reduceAdd, Nat.reduceLeDiff, pBuild, fillA, ↓tyr])
        exact q
      · (repeat simp -dsimp -implicitDefEqProofs (disch := omega) only [↓rP, rQ, rO, rL, ↓reduceIte, Nat.reduceEqDiff, Nat.reduceAdd, Nat.reduceLeDiff, pBuild, fillA, ↓tyr, e, Int.reduceBEq])
        refine (store_does s wc bd hb w hok (Or.inr e)).mono ?_
        rintro _ h2 ⟨rfl, q⟩
        (repeat simp -dsimp -implicitDefEqProofs (disch := omega) only [↓rP, rQ, rO, rL, ↓reduceIte, Nat.reduceEqDiff, Nat.reduceAdd, Nat.reduceLeDiff, pBuild, fillA, ↓tyr])
        exact q
    · have n5 : (x.Op == 5) = false := by rw [beqI]; exact decide_eq_false (by omega)
      have n6 : (x.Op == 6) = false := by rw [beqI]; exact decide_eq_false (by omega)
      (repeat simp -dsimp -implicitDefEqProofs (disch := omega) only [↓rP, rQ, rO, rL, ↓reduceIte, Nat.reduceEqDiff, Nat.reduceAdd, Nat.reduceLeDiff, pBuild, fillA, ↓tyr, n5, n6])
      rw [step_no hds (fun h => by omega) (fun h => by omega)]
      exact StepQ.same s (.refl _ _)
end Go.Proofs.YtopfjochppdnfaaDoor
end

section
/- How the solver's rows are laid. -/
set_option maxRecDepth 8000
set_option maxHeartbeats 1000000
namespace Go.Proofs.YtopfjochppdnfaaDoor
open Go.Abs
theorem mk_row (n : Nat) (hn : n ≤ 1000000) (h : AHeap) (K : AV → AHeap → Prop) : pMakeSl { e := 23, sz := 1, by_ := 8 } [.int .u64 0] (.int .i64 (n : Int)) (.int .i64 (n : Int)) h K = K (.sl h.next 0 n 1) (h.push (.row 23 (rowC (fun _ => 0) n))) := by
  have e : repC n [AV.int .u64 0] = rowC (fun _ => 0) n := by
    simp only [repC, rowC]
    apply List.ext_getElem?
    intro i
    simp only [List.getElem?_replicate, List.getElem?_map, List.getElem?_range']
    by_cases hi : i < n
    · simp [hi]
    · simp [hi, List.getElem?_eq_none]
  simp only [pMakeSl, Int.toNat_natCast, e]
  apply propext
  constructor
  · rintro ⟨-, -, -, -, -, hk⟩; exact hk
  · intro hk; exact ⟨by omega, by omega, by omega, by omega, rfl, hk⟩
theorem bsl_sl (id n : Nat) (h : AHeap) (K : AV → AHeap → Prop) : pBuildSl true { e := 27, sz := 1, by_ := 24 } [AV.nils] 1 [(0, .sl id 0 n 1)] h K = K (.isl 1 [[.sl id 0 n 1]]) h := by
  simp [pBuildSl, fillE, AV.fits, AV.cells]
theorem outA_congr {id n : Nat} {f g : Nat → AV} (h : ∀ k, k < n → f k = g k) : outA id n f = outA id n g := by
  unfold outA
  split
  · rfl
  · congr 1
    apply List.map_congr_left
    intro k hk
    rw [h k (List.mem_range.1 hk)]
theorem outA_push {h : AHeap} {tok k : Nat} {f : Nat → AV} (hk : k ≤ 1000) (p : k = 0 ∨ (tok < h.next ∧ h.objs tok = some (.tok 27 k))) {K : AV → AHeap → Prop}
    (hK : ∀ h2, h2.objs h.next = some (.tok 27 (k + 1)) → h2.next = h.next + 1 → Keeps h h2 (fun x => x = tok ∧ 0 < k) → K (outA h.next (k + 1) f) h2) : pAppend true { e := 27, sz := 1, by_ := 24 } (outA tok k f) (.isl 1 [[f k]]) h K := by
  have hnew : outA h.next (k + 1) f = .gsl h.next 1 (((List.range k).map fun j => [f j]) ++ [[f k]]) := by
    unfold outA
    rw [if_neg (by omega), List.range_succ, List.map_append]; rfl
  rw [hnew] at hK
  unfold outA
  by_cases h0 : k = 0
  · subst h0
    simp only [if_true, pAppend, srcElems, newSl]
    refine ⟨by simp [bounded, maxLen], ?_⟩
    exact hK _ (by simp) rfl ⟨by simp, fun x hx hs => push_old hx _⟩
  · rcases p with p | ⟨p1, p2⟩
    · exact absurd p h0
    · simp only [if_neg h0, pAppend, srcElems, p2, if_true]
      refine ⟨trivial, trivial, by simp, by simp [bounded, maxLen]; omega, ?_⟩
      refine hK _ ?_ rfl ⟨by simp, fun x hx hs => ?_⟩
      · have : (h.kill tok).next = h.next := rfl
        rw [← this, push_new]; simp
      · rw [push_old (by simpa using hx), kill_old (fun e => hs ⟨e, by omega⟩)]
def inB (k1 k2 : Nat) : Rw → Prop
  | .g => True
  | .s t => t < k1
  | .f k => k < k2
def solP (c : Cd) (A : Rw → AV) (i1 k1 i2 k2 : Nat) : List AV := c.cells ++ ([outA i1 k1 (fun t => A (.s t)), A .g, outA i2 k2 (fun k => A (.f k))] ++ [.bool true])
structure BuildAt (h hh : AHeap) (sid : Nat) (c : Cd) (A : Rw → AV) (i1 k1 i2 k2 : Nat) : Prop where
  rows : ∀ r, inB k1 k2 r → ∃ id, A r = .sl id 0 (lenR c r) 1 ∧ h.next < id ∧ id < hh.next ∧ hh.objs id = some (.row 23 (rowC (fun _ => 0) (lenR c r)))
  none : ∀ r, ¬ inB k1 k2 r → A r = .nils
  one : ∀ r r' id, A r = .sl id 0 (lenR c r) 1 → A r' = .sl id 0 (lenR c r') 1 → r = r'
  obj : hh.objs sid = some (.row 74 (solP c A i1 k1 i2 k2))
  gt : h.next < sid
  lt : sid < hh.next
  t1 : k1 = 0 ∨ k1 = (slL c.Threads).length ∨ (h.next < i1 ∧ i1 < hh.next ∧ hh.objs i1 = some (.tok 27 k1))
  t2 : k2 = 0 ∨ (h.next < i2 ∧ i2 < hh.next ∧ hh.objs i2 = some (.tok 27 k2))
  res : hh.objs h.next = some (.row 29 [.nils, .nils, .nils])
  keep : Keeps h hh (fun _ => False)
theorem BuildAt.mono {h hh h2 : AHeap} {sid : Nat} {c : Cd} {A : Rw → AV} {i1 k1 i2 k2 : Nat} (B : BuildAt h hh sid c A i1 k1 i2 k2) (k : Keeps hh h2 (fun _ => False)) : BuildAt h h2 sid c A i1 k1 i2 k2 := by
  have kk : ∀ {i : Nat}, i < hh.next → h2.objs i = hh.objs i := fun hi => k.objs _ hi (fun h => h)
  have kn := k.next
  have := B.gt
  have := B.lt
  refine ⟨fun r hr => ?_, B.none, B.one, by rw [kk B.lt]; exact B.obj, B.gt, by omega, ?_, ?_, by rw [kk (by omega)]; exact B.res, B.keep.go k⟩
  · obtain ⟨id, e, h1, h2, h3⟩ := B.rows r hr
    exact ⟨id, e, h1, by omega, by rw [kk h2]; exact h3⟩
  · rcases B.t1 with e | e | ⟨h1, h2, h3⟩
    · exact Or.inl e
    · exact Or.inr (Or.inl e)
    · exact Or.inr (Or.inr ⟨h1, by omega, by rw [kk h2]; exact h3⟩)
  · rcases B.t2 with e | ⟨h1, h2, h3⟩
    · exact Or.inl e
    · exact Or.inr ⟨h1, by omega, by rw [kk h2]; exact h3⟩
theorem BuildAt.more {h hA hC : AHeap} {sid : Nat} {c : Cd} {A A' : Rw → AV} {i1 k1 i2 k2 j1 l1 j2 l2 : Nat} (B : BuildAt h hA sid c A i1 k1 i2 k2) {r0 : Rw} (h0 : ¬ inB k1 k2 r0) (hin : ∀ r, inB l1 l2 r ↔ inB k1 k2 r ∨ r = r0)
    (hA' : A' = fun r => if r = r0 then .sl hA.next 0 (lenR c r0) 1 else A r) {S : Nat → Prop} (kC : Keeps (hA.push (.row 23 (rowC (fun _ => 0) (lenR c r0)))) hC S) (hS : ∀ x, S x → h.next < x ∧ x < hA.next ∧ ∃ n, hA.objs x = some (.tok 27 n))
    (t1 : l1 = 0 ∨ l1 = (slL c.Threads).length ∨ (h.next < j1 ∧ j1 < hC.next ∧ hC.objs j1 = some (.tok 27 l1))) (t2 : l2 = 0 ∨ (h.next < j2 ∧ j2 < hC.next ∧ hC.objs j2 = some (.tok 27 l2))) :
    BuildAt h (hC.put sid (.row 74 (solP c A' j1 l1 j2 l2))) sid c A' j1 l1 j2 l2 := by
  have hsid : sid < hA.next := B.lt
  have hgt := B.gt
  have hnC : hA.next + 1 ≤ hC.next := kC.next
  have old : ∀ {x : Nat} {ty : TypeId} {cs : List AV}, x < hA.next → hA.objs x = some (.row ty cs) → hC.objs x = some (.row ty cs) := by
    intro x ty cs hx ho
    have nS : ¬ S x := fun hs => by
      obtain ⟨_, _, n, hn⟩ := hS x hs
      rw [ho] at hn; simp at hn
    rw [kC.objs x (by simp; omega) nS, push_old hx]; exact ho
  have oS : hC.objs sid = _ := old hsid B.obj
  have new : hC.objs hA.next = some (.row 23 (rowC (fun _ => 0) (lenR c r0))) := by
    have nS : ¬ S hA.next := fun hs => by have := (hS _ hs).2.1; omega
    rw [kC.objs _ (by simp) nS, push_new]
  have ne0 : ∀ {r}, inB k1 k2 r → r ≠ r0 := fun h e => h0 (e ▸ h)
  have aold : ∀ {r}, r ≠ r0 → A' r = A r := fun e => by rw [hA']; simp only; rw [if_neg e]
  have anew : A' r0 = .sl hA.next 0 (lenR c r0) 1 := by rw [hA']; simp
  have rlt : ∀ {r id}, A r = .sl id 0 (lenR c r) 1 → id < hA.next ∧ inB k1 k2 r := by
    intro r id e
    by_cases hr : inB k1 k2 r
    · obtain ⟨id2, e2, _, h2, _⟩ := B.rows r hr
      rw [e] at e2; cases e2
      exact ⟨h2, hr⟩
    · have := B.none r hr
      rw [e] at this; cases this
  have nsid : ∀ {x : Nat} {cs : List AV}, x < hA.next → hA.objs x = some (.row 23 cs) → x ≠ sid := by
    rintro x cs _ ho rfl
    rw [B.obj] at ho
    simp at ho
  refine ⟨fun r hr => ?_, fun r hr => ?_, ?_, put_new _ _ _, hgt, by simp; omega, ?_, ?_, ?_, ?_⟩
  · rcases (hin r).1 hr with hr | rfl
    · obtain ⟨id, e, g1, g2, g3⟩ := B.rows r hr
      refine ⟨id, by rw [aold (ne0 hr)]; exact e, g1, by simp; omega, ?_⟩
      rw [put_old (nsid g2 g3)]
      exact old g2 g3
    · exact ⟨hA.next, anew, by omega, by simp; omega, by rw [put_old (by omega)]; exact new⟩
  · have h1 : ¬ inB k1 k2 r := fun h => hr ((hin r).2 (Or.inl h))
    have h2 : r ≠ r0 := fun h => hr ((hin r).2 (Or.inr h))
    rw [aold h2]; exact B.none r h1
  · intro r r' id e e'
    by_cases h1 : r = r0
    · by_cases h2 : r' = r0
      · rw [h1, h2]
      · rw [aold h2] at e'
        rw [h1, anew] at e
        cases e
        have := (rlt e').1
        omega
    · rw [aold h1] at e
      by_cases h2 : r' = r0
      · rw [h2, anew] at e'
        cases e'
        have := (rlt e).1
        omega
      · rw [aold h2] at e'
        exact B.one r r' id e e'
  · rcases t1 with e | e | ⟨g1, g2, g3⟩
    · exact Or.inl e
    · exact Or.inr (Or.inl e)
    · refine Or.inr (Or.inr ⟨g1, by simpa using g2, ?_⟩)
      rw [put_old]
      · exact g3
      · rintro rfl; rw [oS] at g3; simp at g3
  · rcases t2 with e | ⟨g1, g2, g3⟩
    · exact Or.inl e
    · refine Or.inr ⟨g1, by simpa using g2, ?_⟩
      rw [put_old]
      · exact g3
      · rintro rfl; rw [oS] at g3; simp at g3
  · rw [put_old (by omega)]
    exact old (by omega) B.res
  · refine ⟨by have := B.keep.next; simp; omega, fun i hi _ => ?_⟩
    have hi2 := B.keep.next
    rw [put_old (by omega), kC.objs i (by simp; omega) (fun hs => by have := (hS i hs).1; omega), push_old (by omega)]
    exact B.keep.objs i hi (fun h => h)
theorem BuildAt.start {h hh : AHeap} {sid : Nat} {c : Cd} {A : Rw → AV} {i1 i2 : Nat} (B : BuildAt h hh sid c A i1 (slL c.Threads).length i2 (slL c.Sites).length) : SolAt hh sid c (fun _ _ => 0) A i1 i2 true ∧ ∀ i, Own sid c A i → h.next < i := by
  have hin : ∀ r, ¬ inB (slL c.Threads).length (slL c.Sites).length r → lenR c r = 0 := by
    intro r hr
    cases r with
    | g => exact absurd trivial hr
    | s t => simp only [inB] at hr; simp only [lenR, slotsL]; rw [List.getElem?_eq_none (by omega)]; rfl
    | f k => simp only [inB] at hr; exact lenR_f hr
  have hid : ∀ r id, A r = .sl id 0 (lenR c r) 1 → h.next < id ∧ ∃ cs, hh.objs id = some (.row 23 cs) := by
    intro r id e
    by_cases hr : inB (slL c.Threads).length (slL c.Sites).length r
    · obtain ⟨id2, e2, g1, g2, g3⟩ := B.rows r hr
      rw [e] at e2; cases e2
      exact ⟨g1, _, g3⟩
    · have := B.none r hr
      rw [e] at this; cases this
  refine ⟨⟨⟨fun r => ?_, B.one⟩, B.obj, B.lt, fun r e => ?_⟩, ?_⟩
  · by_cases hr : inB (slL c.Threads).length (slL c.Sites).length r
    · obtain ⟨id, e, g1, g2, g3⟩ := B.rows r hr
      exact Or.inr ⟨id, e, g2, g3⟩
    · exact Or.inl ⟨B.none r hr, hin r hr⟩
  · obtain ⟨_, cs, ho⟩ := hid r sid e
    rw [B.obj] at ho
    simp at ho
  · rintro i (rfl | ⟨r, e⟩)
    · exact B.gt
    · exact (hid r i e).1
end Go.Proofs.YtopfjochppdnfaaDoor
end

section
/- How the solver begins. -/
set_option maxRecDepth 8000
set_option maxHeartbeats 1000000
namespace Go.Proofs.YtopfjochppdnfaaDoor
open Go.Abs
theorem outA_leafy (id n : Nat) (f : Nat → AV) : (outA id n f).leafy = true := by
  unfold outA; split <;> rfl
theorem outA_more {h : AHeap} {tok k : Nat} {f g : Nat → AV} {a : AV} (hg : ∀ j, j < k → g j = f j) (ha : f k = a) (hk : k ≤ 1000) (p : k = 0 ∨ (tok < h.next ∧ h.objs tok = some (.tok 27 k))) {K : AV → AHeap → Prop}
    (hK : ∀ h2, h2.objs h.next = some (.tok 27 (k + 1)) → h2.next = h.next + 1 → Keeps h h2 (fun x => x = tok ∧ 0 < k) → K (outA h.next (k + 1) f) h2) : pAppend true { e := 27, sz := 1, by_ := 24 } (outA tok k g) (.isl 1 [[a]]) h K := by
  rw [outA_congr hg, ← ha]
  exact outA_push hk p hK
section
variable (c : Cd) (A : Rw → AV) (i1 k1 i2 k2 : Nat) (K : AV → Prop)
theorem solP_5 : pCells none (solP c A i1 k1 i2 k2) 5 K = K (outA i1 k1 (fun t => A (.s t))) := by simp [pCells, solP, Api_Code.cells]
theorem solP_7 : pCells none (solP c A i1 k1 i2 k2) 7 K = K (outA i2 k2 (fun k => A (.f k))) := by simp [pCells, solP, Api_Code.cells]
end
theorem solP_set5 {c : Cd} {A A' : Rw → AV} {i1 k1 i2 k2 j1 l1 : Nat} (hg : A' .g = A .g) (hf : ∀ k, k < k2 → A' (.f k) = A (.f k)) : (solP c A i1 k1 i2 k2).set 5 (outA j1 l1 (fun t => A' (.s t))) = solP c A' j1 l1 i2 k2 := by
  unfold solP
  rw [hg, outA_congr (f := fun k => A' (.f k)) (g := fun k => A (.f k)) hf]
  rfl
theorem solP_set7 {c : Cd} {A A' : Rw → AV} {i1 k1 i2 k2 j2 l2 : Nat} (hg : A' .g = A .g) (hf : ∀ k, k < k1 → A' (.s k) = A (.s k)) : (solP c A i1 k1 i2 k2).set 7 (outA j2 l2 (fun t => A' (.f t))) = solP c A' i1 k1 j2 l2 := by
  unfold solP
  rw [hg, outA_congr (f := fun k => A' (.s k)) (g := fun k => A (.s k)) hf]
  rfl
theorem solP_len (c : Cd) (A : Rw → AV) (i1 k1 i2 k2 : Nat) : (solP c A i1 k1 i2 k2).length = 9 := rfl
theorem solve_6 {c : Cd} (wc : WfC c) {h h0 : AHeap} {sid i0 i2 : Nat} {A0 : Rw → AV} (B0 : BuildAt h h0 sid c A0 i0 0 i2 0) (Q : AExit → Fr → AHeap → Prop)
    (hQ : ∀ hh A i1, BuildAt h hh sid c A i1 (slL c.Threads).length i2 0 → Q (.exit 0) (frOf [(1, .iptr c.cells), (2, .ptr h.next 0), (3, .ptr sid 0)]) hh) :
    WP Tryd.prog 114 (.loop c_pts_Solve_6) (frOf [(1, .iptr c.cells), (2, .ptr h.next 0), (3, .ptr sid 0), (29, slAV 3 Api_Body.cells c.Threads), (30, .int .i64 (slL c.Threads).length), (31, .int .i64 0)]) h0 Q := by
  have ht := wc.thr
  obtain ⟨I, hI⟩ : ∃ I : Nat → Fr → AHeap → Prop, I = (fun n fr hh => ∃ (k : Nat) (A : Rw → AV) (i1 : Nat), n = (slL c.Threads).length - k ∧ k ≤ (slL c.Threads).length ∧ BuildAt h hh sid c A i1 k i2 0 ∧ fr = frOf [(1, .iptr c.cells), (2, .ptr h.next 0), (3, .ptr sid 0), (29, slAV 3 Api_Body.cells c.Threads), (30, .int .i64 (slL c.Threads).length), (31, .int .i64 k)]) := ⟨_, rfl⟩
  refine WP_loop mixed_ (by kernel_rfl) I (slL c.Threads).length (by rw [hI]; exact ⟨0, A0, i0, rfl, Nat.zero_le _, B0, rfl⟩) ?_
  intro n fr hh hi
  rw [hI] at hi
  obtain ⟨k, A, i1, rfl, hk, B, rfl⟩ := hi
  apply pts_Solve_loop6
  (repeat simp -dsimp -implicitDefEqProofs (disch := omega) only [↓rP, rQ, rO, rL, ↓reduceIte, Nat.reduceEqDiff, Nat.reduceAdd, Nat.reduceLeDiff, pBuild, fillA, ↓tyr])
  refine Split_lt (fun hkl => ?_) (fun hkl => ?_)
  · obtain ⟨b, hb⟩ : ∃ b, (slL c.Threads)[k]? = some b := ⟨_, List.getElem?_eq_getElem (by omega)⟩
    have hsl := (wc.slo k b hb).1
    have hlen : lenR c (.s k) = (slL b.Slots).length := lenR_s hb
    have B1 := B.mono (Keeps.one hh (.row 51 b.cells))
    have hln : (hh.push (.row 51 b.cells)).next = hh.next + 1 := rfl
    obtain ⟨H1, hH1⟩ : ∃ H1, H1 = hh.push (.row 51 b.cells) := ⟨_, rfl⟩
    have ldb : ∀ K : AV → Prop, pLoad none (.ptr hh.next 0) H1 K = K (slAV 3 Api_Local.cells b.Slots) := fun K => by rw [hH1, pLoad_push, Api_Body.c0]
    (repeat simp -dsimp -implicitDefEqProofs (disch := omega) only [↓rP, rQ, rO, rL, ↓reduceIte, Nat.reduceEqDiff, Nat.reduceAdd, Nat.reduceLeDiff, pBuild, fillA, ↓tyr, pIndexAddr_slAV hb])
    rw [← hH1] at B1 hln ⊢
    have ld1 : ∀ (off : Nat) (q : Option Nat) (K : AV → Prop), pLoad q (.ptr sid off) H1 K = pCells q (solP c A i1 k i2 0) off K := fun off q K => pLoad_ptr B1.obj q K
    (repeat simp -dsimp -implicitDefEqProofs (disch := omega) only [↓rP, rQ, rO, rL, ↓reduceIte, Nat.reduceEqDiff, Nat.reduceAdd, Nat.reduceLeDiff, pBuild, fillA, ↓tyr, ldb, ld1, solP_5])
    rw [mk_row _ (by omega)]
    have ld2 : ∀ (o : AObj) (off : Nat) (q : Option Nat) (K : AV → Prop), pLoad q (.ptr sid off) (H1.push o) K = pCells q (solP c A i1 k i2 0) off K := fun o off q K => pLoad_ptr (by rw [push_old B1.lt]; exact B1.obj) q K
    (repeat simp -dsimp -implicitDefEqProofs (disch := omega) only [↓rP, rQ, rO, rL, ↓reduceIte, Nat.reduceEqDiff, Nat.reduceAdd, Nat.reduceLeDiff, pBuild, fillA, ↓tyr, ld2, solP_5, bsl_sl])
    obtain ⟨A', hA'⟩ : ∃ A' : Rw → AV, A' = fun r => if r = .s k then .sl H1.next 0 (lenR c (.s k)) 1 else A r := ⟨_, rfl⟩
    have hold : ∀ {r}, r ≠ .s k → A' r = A r := fun e => by rw [hA']; simp only; rw [if_neg e]
    have t1 : k = 0 ∨ (h.next < i1 ∧ i1 < H1.next ∧ H1.objs i1 = some (.tok 27 k)) := by
      rcases B1.t1 with e | e | e
      · exact Or.inl e
      · omega
      · exact Or.inr e
    rw [← hlen]
    refine outA_more (f := fun t => A' (.s t)) (fun j hj => (hold (by simp; omega)).symm) (by rw [hA']; simp) (by omega) ?_ ?_
    · rcases t1 with e | ⟨g1, g2, g3⟩
      · exact Or.inl e
      · exact Or.inr ⟨by simp; omega, by rw [push_old g2]; exact g3⟩
    intro hC c1 c2 c3
    have oS : hC.objs sid = some (.row 74 (solP c A i1 k i2 0)) := by
      rw [c3.objs sid (by have := B1.lt; simp; omega) ?_, push_old B1.lt]; exact B1.obj
      rintro ⟨rfl, h0⟩
      rcases t1 with e | ⟨g1, g2, g3⟩
      · omega
      · rw [B1.obj] at g3; simp at g3
    (repeat simp -dsimp -implicitDefEqProofs (disch := omega) only [↓rP, rQ, rO, rL, ↓reduceIte, Nat.reduceEqDiff, Nat.reduceAdd, Nat.reduceLeDiff, pBuild, fillA, ↓tyr])
    rw [pStore_ptr oS (outA_leafy _ _ _) (by rw [solP_len]; decide), solP_set5 (hold (by simp)) (fun j hj => hold (by simp))]
    (repeat simp -dsimp -implicitDefEqProofs (disch := omega) only [↓rP, rQ, rO, rL, ↓reduceIte, Nat.reduceEqDiff, Nat.reduceAdd, Nat.reduceLeDiff, pBuild, fillA, ↓tyr, wkS k (by omega)])
    have hm := B1.more (r0 := .s k) (A' := A') (j1 := H1.next + 1) (l1 := k + 1) (j2 := i2) (l2 := 0) (by simp [inB]) (fun r => by
        cases r with
        | g => simp [inB]
        | s t => simp [inB]; omega
        | f t => simp [inB]) hA' c3 (by
        rintro x ⟨rfl, h0⟩
        rcases t1 with e | ⟨g1, g2, g3⟩
        · omega
        · exact ⟨g1, g2, _, g3⟩) (Or.inr (Or.inr ⟨by have := B1.gt; have := B1.lt; omega, by rw [c2]; simp, c1⟩)) (Or.inl rfl)
    rw [loopPost_normal, hI]
    exact ⟨_, by omega, k + 1, A', _, rfl, by omega, hm, rfl⟩
  · (repeat simp -dsimp -implicitDefEqProofs (disch := omega) only [↓rP, rQ, rO, rL, ↓reduceIte, Nat.reduceEqDiff, Nat.reduceAdd, Nat.reduceLeDiff, pBuild, fillA, ↓tyr])
    have : k = (slL c.Threads).length := by omega
    subst this
    exact hQ hh A i1 B
end Go.Proofs.YtopfjochppdnfaaDoor
end

section
/- How the solver's rows of fields are laid. -/
set_option maxRecDepth 8000
set_option maxHeartbeats 1000000
namespace Go.Proofs.YtopfjochppdnfaaDoor
open Go.Abs
theorem recL_neg {c : Cd} {n : Int} (h : n < 0) : recL c n = [] := by
  unfold recL getI
  rw [if_neg (by omega)]
theorem lenR_fk {c : Cd} {k : Nat} {s : Api_Site} (hk : (slL c.Sites)[k]? = some s) : lenR c (.f k) = (recL c s.Rec).length := by simp [lenR, hk]
theorem mk_row0 (h : AHeap) (K : AV → AHeap → Prop) : pMakeSl { e := 23, sz := 1, by_ := 8 } [.int .u64 0] (.int .i64 0) (.int .i64 0) h K = K (.sl h.next 0 0 1) (h.push (.row 23 (rowC (fun _ => 0) 0))) := mk_row 0 (by omega) h K
theorem field_more {c : Cd} (wc : WfC c) {h H1 : AHeap} {sid i1 i2 k : Nat} {A A' : Rw → AV} (hk : k < (slL c.Sites).length) (B1 : BuildAt h H1 sid c A i1 (slL c.Threads).length i2 k) (hA' : A' = fun r => if r = .f k then .sl H1.next 0 (lenR c (.f k)) 1 else A r) (K : AV → AHeap → Prop)
    (hK : ∀ hC, hC.objs sid = some (.row 74 (solP c A i1 (slL c.Threads).length i2 k)) →
      BuildAt h (hC.put sid (.row 74 (solP c A' i1 (slL c.Threads).length (H1.next + 1) (k + 1)))) sid c A' i1 (slL c.Threads).length (H1.next + 1) (k + 1) → K (outA (H1.next + 1) (k + 1) (fun t => A' (.f t))) hC) :
    pAppend true { e := 27, sz := 1, by_ := 24 } (outA i2 k (fun t => A (.f t))) (.isl 1 [[.sl H1.next 0 (lenR c (.f k)) 1]]) (H1.push (.row 23 (rowC (fun _ => 0) (lenR c (.f k))))) K := by
  have hs := wc.sit
  have hold : ∀ {r}, r ≠ .f k → A' r = A r := fun e => by rw [hA']; simp only; rw [if_neg e]
  have t2 := B1.t2
  refine outA_more (f := fun t => A' (.f t)) (fun j hj => (hold (by simp; omega)).symm) (by rw [hA']; simp) (by omega) ?_ ?_
  · rcases t2 with e | ⟨g1, g2, g3⟩
    · exact Or.inl e
    · exact Or.inr ⟨by simp; omega, by rw [push_old g2]; exact g3⟩
  intro hC c1 c2 c3
  have oS : hC.objs sid = some (.row 74 (solP c A i1 (slL c.Threads).length i2 k)) := by
    rw [c3.objs sid (by have := B1.lt; simp; omega) ?_, push_old B1.lt]; exact B1.obj
    rintro ⟨rfl, h0⟩
    rcases t2 with e | ⟨g1, g2, g3⟩
    · omega
    · rw [B1.obj] at g3; simp at g3
  refine hK hC oS ?_
  exact B1.more (r0 := .f k) (A' := A') (j1 := i1) (l1 := (slL c.Threads).length) (j2 := H1.next + 1) (l2 := k + 1) (by simp [inB]) (fun r => by
      cases r with
      | g => simp [inB]
      | s t => simp [inB]
      | f t => simp [inB]; omega) hA' c3 (by
      rintro x ⟨rfl, h0⟩
      rcases t2 with e | ⟨g1, g2, g3⟩
      · omega
      · exact ⟨g1, g2, _, g3⟩) (Or.inr (Or.inl rfl)) (Or.inr ⟨by have := B1.gt; have := B1.lt; omega, by rw [c2]; simp, c1⟩)
theorem solve_11 {c : Cd} (wc : WfC c) {h h0 : AHeap} {sid i1 i0 : Nat} {A0 : Rw → AV} (B0 : BuildAt h h0 sid c A0 i1 (slL c.Threads).length i0 0) (Q : AExit → Fr → AHeap → Prop)
    (hQ : ∀ hh A i2, BuildAt h hh sid c A i1 (slL c.Threads).length i2 (slL c.Sites).length → Q (.exit 2) (frOf [(1, .iptr c.cells), (2, .ptr h.next 0), (3, .ptr sid 0)]) hh) :
    WP Tryd.prog 114 (.loop c_pts_Solve_11) (frOf [(1, .iptr c.cells), (2, .ptr h.next 0), (3, .ptr sid 0), (52, slAV 3 Api_Site.cells c.Sites), (53, .int .i64 (slL c.Sites).length), (54, .int .i64 0)]) h0 Q := by
  have hs := wc.sit
  obtain ⟨I, hI⟩ : ∃ I : Nat → Fr → AHeap → Prop, I = (fun n fr hh => ∃ (k : Nat) (A : Rw → AV) (i2 : Nat), n = (slL c.Sites).length - k ∧ k ≤ (slL c.Sites).length ∧ BuildAt h hh sid c A i1 (slL c.Threads).length i2 k ∧ fr = frOf [(1, .iptr c.cells), (2, .ptr h.next 0), (3, .ptr sid 0), (52, slAV 3 Api_Site.cells c.Sites), (53, .int .i64 (slL c.Sites).length), (54, .int .i64 k)]) := ⟨_, rfl⟩
  refine WP_loop mixed_ (by kernel_rfl) I (slL c.Sites).length (by rw [hI]; exact ⟨0, A0, i0, rfl, Nat.zero_le _, B0, rfl⟩) ?_
  intro n fr hh hi
  rw [hI] at hi
  obtain ⟨k, A, i2, rfl, hk, B, rfl⟩ := hi
  apply pts_Solve_loop11
  (repeat simp -dsimp -implicitDefEqProofs (disch := omega) only [↓rP, rQ, rO, rL, ↓reduceIte, Nat.reduceEqDiff, Nat.reduceAdd, Nat.reduceLeDiff, pBuild, fillA, ↓tyr])
  refine Split_lt (fun hkl => ?_) (fun hkl => ?_)
  · obtain ⟨s, hb⟩ : ∃ s, (slL c.Sites)[k]? = some s := ⟨_, List.getElem?_eq_getElem (by omega)⟩
    have hlen := lenR_fk hb
    have B1 := B.mono (Keeps.one hh (.row 54 s.cells))
    obtain ⟨H1, hH1⟩ : ∃ H1, H1 = hh.push (.row 54 s.cells) := ⟨_, rfl⟩
    have lds : ∀ K : AV → Prop, pLoad none (.ptr hh.next 2) H1 K = K (.int .i64 s.Rec) := fun K => by rw [hH1, pLoad_push, Api_Site.c2]
    (repeat simp -dsimp -implicitDefEqProofs (disch := omega) only [↓rP, rQ, rO, rL, ↓reduceIte, Nat.reduceEqDiff, Nat.reduceAdd, Nat.reduceLeDiff, pBuild, fillA, ↓tyr, pIndexAddr_slAV hb])
    rw [← hH1] at B1 ⊢
    have ld1 : ∀ (off : Nat) (q : Option Nat) (K : AV → Prop), pLoad q (.ptr sid off) H1 K = pCells q (solP c A i1 (slL c.Threads).length i2 k) off K := fun off q K => pLoad_ptr B1.obj q K
    have ld2 : ∀ (o : AObj) (off : Nat) (q : Option Nat) (K : AV → Prop), pLoad q (.ptr sid off) (H1.push o) K = pCells q (solP c A i1 (slL c.Threads).length i2 k) off K := fun o off q K => pLoad_ptr (by rw [push_old B1.lt]; exact B1.obj) q K
    obtain ⟨A', hA'⟩ : ∃ A' : Rw → AV, A' = fun r => if r = .f k then .sl H1.next 0 (lenR c (.f k)) 1 else A r := ⟨_, rfl⟩
    have hold : ∀ {r}, r ≠ .f k → A' r = A r := fun e => by rw [hA']; simp only; rw [if_neg e]
    (repeat simp -dsimp -implicitDefEqProofs (disch := omega) only [↓rP, rQ, rO, rL, ↓reduceIte, Nat.reduceEqDiff, Nat.reduceAdd, Nat.reduceLeDiff, pBuild, fillA, ↓tyr, lds])
    refine Split_le (fun hr => ?_) (fun hr => ?_)
    · obtain ⟨rr, hrr⟩ : ∃ rr, getI (slL c.Records) s.Rec = some rr := by
        rcases wc.site k s hb with e | e
        · omega
        · exact e
      have hl2 : lenR c (.f k) = (slL rr).length := by rw [hlen]; simp only [recL, hrr]
      have hr6 := wc.recs rr (getI_mem hrr)
      (repeat simp -dsimp -implicitDefEqProofs (disch := omega) only [↓rP, rQ, rO, rL, ↓reduceIte, Nat.reduceEqDiff, Nat.reduceAdd, Nat.reduceLeDiff, pBuild, fillA, ↓tyr, lds, ixI hrr, ld_one, ld1, solP_7])
      rw [mk_row _ (by omega)]
      (repeat simp -dsimp -implicitDefEqProofs (disch := omega) only [↓rP, rQ, rO, rL, ↓reduceIte, Nat.reduceEqDiff, Nat.reduceAdd, Nat.reduceLeDiff, pBuild, fillA, ↓tyr, ld2, solP_7, bsl_sl])
      rw [← hl2]
      refine field_more wc (by omega) B1 hA' _ ?_
      intro hC oS B2
      (repeat simp -dsimp -implicitDefEqProofs (disch := omega) only [↓rP, rQ, rO, rL, ↓reduceIte, Nat.reduceEqDiff, Nat.reduceAdd, Nat.reduceLeDiff, pBuild, fillA, ↓tyr])
      rw [pStore_ptr oS (outA_leafy _ _ _) (by rw [solP_len]; decide), solP_set7 (hold (by simp)) (fun j hj => hold (by simp))]
      (repeat simp -dsimp -implicitDefEqProofs (disch := omega) only [↓rP, rQ, rO, rL, ↓reduceIte, Nat.reduceEqDiff, Nat.reduceAdd, Nat.reduceLeDiff, pBuild, fillA, ↓tyr, wkS k (by omega)])
      rw [loopPost_normal, hI]
      exact ⟨_, by omega, k + 1, A', _, rfl, by omega, B2, rfl⟩
    · have hl2 : lenR c (.f k) = 0 := by rw [hlen, recL_neg (by omega)]; rfl
      (repeat simp -dsimp -implicitDefEqProofs (disch := omega) only [↓rP, rQ, rO, rL, ↓reduceIte, Nat.reduceEqDiff, Nat.reduceAdd, Nat.reduceLeDiff, pBuild, fillA, ↓tyr, ld1, solP_7, mk_row0, ld2, bsl_sl])
      have hfm := fun K hK => field_more wc (by omega) B1 hA' K hK
      rw [hl2] at hfm
      refine hfm _ ?_
      intro hC oS B2
      (repeat simp -dsimp -implicitDefEqProofs (disch := omega) only [↓rP, rQ, rO, rL, ↓reduceIte, Nat.reduceEqDiff, Nat.reduceAdd, Nat.reduceLeDiff, pBuild, fillA, ↓tyr])
      rw [pStore_ptr oS (outA_leafy _ _ _) (by rw [solP_len]; decide), solP_set7 (hold (by simp)) (fun j hj => hold (by simp))]
      (repeat simp -dsimp -implicitDefEqProofs (disch := omega) only [↓rP, rQ, rO, rL, ↓reduceIte, Nat.reduceEqDiff, Nat.reduceAdd, Nat.reduceLeDiff, pBuild, fillA, ↓tyr, wkS k (by omega)])
      rw [loopPost_normal, hI]
      exact ⟨_, by omega, k + 1, A', _, rfl, by omega, B2, rfl⟩
  · (repeat simp -dsimp -implicitDefEqProofs (disch := omega) only [↓rP, rQ, rO, rL, ↓reduceIte, Nat.reduceEqDiff, Nat.reduceAdd, Nat.reduceLeDiff, pBuild, fillA, ↓tyr])
    have : k = (slL c.Sites).length := by omega
    subst this
    exact hQ hh A i2 B
end Go.Proofs.YtopfjochppdnfaaDoor
end

section
/- The solver at work: passes until nothing grows. -/
set_option maxRecDepth 8000
set_option maxHeartbeats 1000000
namespace Go.Proofs.YtopfjochppdnfaaDoor
open Go.Abs
structure PassI (c : Cd) (σ0 σ : Sg) (gr : Bool) (done : Nat → Nat → Prop) : Prop where
  le : Le σ0 σ
  lw : Lw c σ
  bd : Bd2 c σ
  rg : Rg c σ
  gr : gr = true ↔ σ ≠ σ0
  cl : σ = σ0 → ∀ (t : Nat) (b : Bd) (a : Nat) (x : In), (slL c.Threads)[t]? = some b → (slL b.Code)[a]? = some x → done t a → Le (contr c t x σ0) σ0
theorem PassI.step {c : Cd} {σ0 σ : Sg} {gr gr' : Bool} {done : Nat → Nat → Prop} (P : PassI c σ0 σ gr done) (wc : WfC c) {t a : Nat} {b : Bd} {x : In} (hb : (slL c.Threads)[t]? = some b) (hx : (slL b.Code)[a]? = some x) (hg : gr' = true ↔ gr = true ∨ stepS c t x σ ≠ σ) :
    PassI c σ0 (stepS c t x σ) gr' (fun t' a' => done t' a' ∨ (t' = t ∧ a' = a)) := by
  have w := wc.ins t a b x hb hx
  have hle := le_step c t x σ
  refine ⟨P.le.trans hle, P.lw.step hb hx, P.bd.step w t, P.rg.step hb w, ?_, ?_⟩
  · rw [hg, P.gr, grew_trans P.le hle]
  · intro e t' b' a' x' hb' hx' hd
    have e0 : σ = σ0 := Le.anti (by rw [← e]; exact hle) P.le
    rcases hd with hd | ⟨rfl, rfl⟩
    · exact P.cl e0 t' b' a' x' hb' hx' hd
    · rw [hb] at hb'; cases hb'
      rw [hx] at hx'; cases hx'
      subst e0
      exact step_id e
theorem PassI.weak {c : Cd} {σ0 σ : Sg} {gr : Bool} {done d2 : Nat → Nat → Prop} (P : PassI c σ0 σ gr done) (h : ∀ (t : Nat) (b : Bd) (a : Nat) (x : In), (slL c.Threads)[t]? = some b → (slL b.Code)[a]? = some x → d2 t a → done t a) : PassI c σ0 σ gr d2 :=
  ⟨P.le, P.lw, P.bd, P.rg, P.gr, fun e t b a x hb hx hd => P.cl e t b a x hb hx (h t b a x hb hx hd)⟩
structure SV (h hh : AHeap) (sid : Nat) (c : Cd) (σ : Sg) (A : Rw → AV) (i1 i2 : Nat) (gr : Bool) : Prop where
  sol : SolAt hh sid c σ A i1 i2 gr
  own : ∀ i, Own sid c A i → h.next < i
  res : hh.objs h.next = some (.row 29 [.nils, .nils, .nils])
  nx : h.next < hh.next
  keep : Keeps h hh (fun _ => False)
theorem SV.mono {h hh h2 : AHeap} {sid : Nat} {c : Cd} {σ : Sg} {A : Rw → AV} {i1 i2 : Nat} {gr : Bool} (s : SV h hh sid c σ A i1 i2 gr) (k : Keeps hh h2 (fun _ => False)) : SV h h2 sid c σ A i1 i2 gr :=
  ⟨s.sol.keep k, s.own, by rw [k.objs _ s.nx (fun h => h)]; exact s.res, Nat.lt_of_lt_of_le s.nx k.next, s.keep.go k⟩
theorem SV.step {h hh h2 : AHeap} {sid : Nat} {c : Cd} {σ τ : Sg} {A : Rw → AV} {i1 i2 : Nat} {gr : Bool} (s : SV h hh sid c σ A i1 i2 gr) (q : StepQ hh sid c σ τ A i1 i2 gr h2) : ∃ gr', (gr' = true ↔ gr = true ∨ τ ≠ σ) ∧ SV h h2 sid c τ A i1 i2 gr' := by
  obtain ⟨gr', q1, q2, q3⟩ := q
  refine ⟨gr', q1, q2, s.own, ?_, Nat.lt_of_lt_of_le s.nx q3.next, ?_⟩
  · rw [q3.objs _ s.nx (fun ho => by have := s.own _ ho; omega)]; exact s.res
  · refine s.keep.trans (T := fun i => h.next < i) (q3.mono s.own) (fun i hi h => by omega)
theorem solve_24 {c : Cd} (hc : c.ok) (wc : WfC c) {h h0 : AHeap} {sid i1 i2 k : Nat} {A : Rw → AV} {σ0 σ1 : Sg} {g1 : Bool} {b : Bd} (hb : (slL c.Threads)[k]? = some b) (S0 : SV h h0 sid c σ1 A i1 i2 g1) (P0 : PassI c σ0 σ1 g1 (fun t _ => t < k)) (Q : AExit → Fr → AHeap → Prop)
    (hQ : ∀ hh σ gr, SV h hh sid c σ A i1 i2 gr → PassI c σ0 σ gr (fun t _ => t < k + 1) → Q (.exit 8) (frOf [(1, .iptr c.cells), (2, .ptr h.next 0), (3, .ptr sid 0), (90, slAV 3 Api_Body.cells c.Threads), (91, .int .i64 (slL c.Threads).length), (92, .int .i64 k)]) hh) :
    WP Tryd.prog 114 (.loop c_pts_Solve_24) (frOf [(1, .iptr c.cells), (2, .ptr h.next 0), (3, .ptr sid 0), (9, .int .i64 k), (90, slAV 3 Api_Body.cells c.Threads), (91, .int .i64 (slL c.Threads).length), (92, .int .i64 k), (98, slAV 8 Api_Instr.cells b.Code), (99, .int .i64 (slL b.Code).length), (100, .int .i64 0)]) h0 Q := by
  have hcl := (wc.slo k b hb).2
  obtain ⟨I, hI⟩ : ∃ I : Nat → Fr → AHeap → Prop, I = (fun n fr hh => ∃ (a : Nat) (σ : Sg) (gr : Bool), n = (slL b.Code).length - a ∧ a ≤ (slL b.Code).length ∧ SV h hh sid c σ A i1 i2 gr ∧ PassI c σ0 σ gr (fun t' a' => t' < k ∨ (t' = k ∧ a' < a)) ∧ fr = frOf [(1, .iptr c.cells), (2, .ptr h.next 0), (3, .ptr sid 0), (9, .int .i64 k), (90, slAV 3 Api_Body.cells c.Threads), (91, .int .i64 (slL c.Threads).length), (92, .int .i64 k), (98, slAV 8 Api_Instr.cells b.Code), (99, .int .i64 (slL b.Code).length), (100, .int .i64 a)]) := ⟨_, rfl⟩
  refine WP_loop mixed_ (by kernel_rfl) I (slL b.Code).length (by rw [hI]; exact ⟨0, σ1, g1, rfl, Nat.zero_le _, S0, P0.weak (fun t _ a _ _ _ hd => by omega), rfl⟩) ?_
  intro n fr hh hi
  rw [hI] at hi
  obtain ⟨a, σ, gr, rfl, ha, S, P, rfl⟩ := hi
  apply pts_Solve_loop24
  (repeat simp -dsimp -implicitDefEqProofs (disch := omega) only [↓rP, rQ, rO, rL, ↓reduceIte, Nat.reduceEqDiff, Nat.reduceAdd, Nat.reduceLeDiff, pBuild, fillA, ↓tyr])
  refine Split_lt (fun hkl => ?_) (fun hkl => ?_)
  · obtain ⟨x, hx⟩ : ∃ x, (slL b.Code)[a]? = some x := ⟨_, List.getElem?_eq_getElem (by omega)⟩
    have hxo : x.ok := (hc.2.2.1.2 b (List.mem_of_getElem? hb)).2.1.2 x (List.mem_of_getElem? hx)
    have S1 := S.mono (Keeps.one hh (.row 58 x.cells))
    (repeat simp -dsimp -implicitDefEqProofs (disch := omega) only [↓rP, rQ, rO, rL, ↓reduceIte, Nat.reduceEqDiff, Nat.reduceAdd, Nat.reduceLeDiff, pBuild, fillA, ↓tyr, pIndexAddr_slAV hx])
    refine (step_does S1.sol wc P.bd hb (wc.ins k a b x hb hx) hxo.2.2.2.2.2.2.1).mono ?_
    rintro _ h2 ⟨rfl, q⟩
    obtain ⟨gr', q1, S2⟩ := S1.step q
    (repeat simp -dsimp -implicitDefEqProofs (disch := omega) only [↓rP, rQ, rO, rL, ↓reduceIte, Nat.reduceEqDiff, Nat.reduceAdd, Nat.reduceLeDiff, pBuild, fillA, ↓tyr, wkS a (by omega)])
    rw [loopPost_normal, hI]
    exact ⟨_, by omega, a + 1, _, gr', rfl, by omega, S2, (P.step wc hb hx q1).weak (fun t _ a' _ _ _ hd => by omega), rfl⟩
  · (repeat simp -dsimp -implicitDefEqProofs (disch := omega) only [↓rP, rQ, rO, rL, ↓reduceIte, Nat.reduceEqDiff, Nat.reduceAdd, Nat.reduceLeDiff, pBuild, fillA, ↓tyr])
    have : a = (slL b.Code).length := by omega
    subst this
    refine hQ hh σ gr S (P.weak fun t b' a' x' hb' hx' hd => ?_)
    by_cases e : t = k
    · subst e
      rw [hb] at hb'; cases hb'
      exact Or.inr ⟨rfl, (List.getElem?_eq_some_iff.1 hx').1⟩
    · left; omega
theorem solve_21 {c : Cd} (hc : c.ok) (wc : WfC c) {h h0 : AHeap} {sid i1 i2 : Nat} {A : Rw → AV} {σ0 : Sg} (S0 : SV h h0 sid c σ0 A i1 i2 false) (hl : Lw c σ0) (hbd : Bd2 c σ0) (hrg : Rg c σ0) (Q : AExit → Fr → AHeap → Prop)
    (hQ : ∀ hh σ gr, SV h hh sid c σ A i1 i2 gr → PassI c σ0 σ gr (fun _ _ => True) → Q (.exit 6) (frOf [(1, .iptr c.cells), (2, .ptr h.next 0), (3, .ptr sid 0)]) hh) :
    WP Tryd.prog 114 (.loop c_pts_Solve_21) (frOf [(1, .iptr c.cells), (2, .ptr h.next 0), (3, .ptr sid 0), (90, slAV 3 Api_Body.cells c.Threads), (91, .int .i64 (slL c.Threads).length), (92, .int .i64 0)]) h0 Q := by
  have ht := wc.thr
  obtain ⟨I, hI⟩ : ∃ I : Nat → Fr → AHeap → Prop, I = (fun n fr hh => ∃ (k : Nat) (σ : Sg) (gr : Bool), n = (slL c.Threads).length - k ∧ k ≤ (slL c.Threads).length ∧ SV h hh sid c σ A i1 i2 gr ∧ PassI c σ0 σ gr (fun t' _ => t' < k) ∧ fr = frOf [(1, .iptr c.cells), (2, .ptr h.next 0), (3, .ptr sid 0), (90, slAV 3 Api_Body.cells c.Threads), (91, .int .i64 (slL c.Threads).length), (92, .int .i64 k)]) := ⟨_, rfl⟩
  refine WP_loop mixed_ (by kernel_rfl) I (slL c.Threads).length (by rw [hI]; exact ⟨0, σ0, false, rfl, Nat.zero_le _, S0, ⟨Le.refl _, hl, hbd, hrg, by simp, fun _ t _ _ _ _ _ hd => by omega⟩, rfl⟩) ?_
  intro n fr hh hi
  rw [hI] at hi
  obtain ⟨k, σ, gr, rfl, hk, S, P, rfl⟩ := hi
  apply pts_Solve_loop21
  (repeat simp -dsimp -implicitDefEqProofs (disch := omega) only [↓rP, rQ, rO, rL, ↓reduceIte, Nat.reduceEqDiff, Nat.reduceAdd, Nat.reduceLeDiff, pBuild, fillA, ↓tyr])
  refine Split_lt (fun hkl => ?_) (fun hkl => ?_)
  · obtain ⟨b, hb⟩ : ∃ b, (slL c.Threads)[k]? = some b := ⟨_, List.getElem?_eq_getElem (by omega)⟩
    have S1 := S.mono (Keeps.one hh (.row 51 b.cells))
    (repeat simp -dsimp -implicitDefEqProofs (disch := omega) only [↓rP, rQ, rO, rL, ↓reduceIte, Nat.reduceEqDiff, Nat.reduceAdd, Nat.reduceLeDiff, pBuild, fillA, ↓tyr, pIndexAddr_slAV hb])
    refine solve_24 hc wc hb S1 P _ ?_
    intro h2 σ2 g2 S2 P2
    (repeat simp -dsimp -implicitDefEqProofs (disch := omega) only [↓rP, rQ, rO, rL, ↓reduceIte, Nat.reduceEqDiff, Nat.reduceAdd, Nat.reduceLeDiff, pBuild, fillA, ↓tyr, wkS k (by omega)])
    rw [loopPost_normal, hI]
    exact ⟨_, by omega, k + 1, σ2, g2, rfl, by omega, S2, P2, rfl⟩
  · (repeat simp -dsimp -implicitDefEqProofs (disch := omega) only [↓rP, rQ, rO, rL, ↓reduceIte, Nat.reduceEqDiff, Nat.reduceAdd, Nat.reduceLeDiff, pBuild, fillA, ↓tyr])
    have : k = (slL c.Threads).length := by omega
    subst this
    exact hQ hh σ gr S (P.weak fun t b' a' x' hb' _ _ => (List.getElem?_eq_some_iff.1 hb').1)
theorem solve_18 {c : Cd} (hc : c.ok) (wc : WfC c) {h h0 : AHeap} {sid i1 i2 : Nat} {A : Rw → AV} {σ0 : Sg} (S0 : SV h h0 sid c σ0 A i1 i2 true) (hl : Lw c σ0) (hbd : Bd2 c σ0) (hrg : Rg c σ0) (Q : AExit → Fr → AHeap → Prop)
    (hQ : ∀ hh σ, SV h hh sid c σ A i1 i2 false → Cl c σ → Lw c σ → Bd2 c σ → Rg c σ → Q (.exit 4) (frOf [(2, .ptr h.next 0), (3, .ptr sid 0)]) hh) :
    WP Tryd.prog 114 (.loop c_pts_Solve_18) (frOf [(1, .iptr c.cells), (2, .ptr h.next 0), (3, .ptr sid 0)]) h0 Q := by
  obtain ⟨I, hI⟩ : ∃ I : Nat → Fr → AHeap → Prop, I = (fun n fr hh => ∃ (σ : Sg) (gr : Bool), n = leftOf c σ + (if gr = true then 1 else 0) ∧ SV h hh sid c σ A i1 i2 gr ∧ Lw c σ ∧ Bd2 c σ ∧ Rg c σ ∧ (gr = false → Cl c σ) ∧ fr = frOf [(1, .iptr c.cells), (2, .ptr h.next 0), (3, .ptr sid 0)]) := ⟨_, rfl⟩
  refine WP_loop mixed_ (by kernel_rfl) I (leftOf c σ0 + 1) (by rw [hI]; exact ⟨σ0, true, rfl, S0, hl, hbd, hrg, fun h => (by cases h), rfl⟩) ?_
  intro n fr hh hi
  rw [hI] at hi
  obtain ⟨σ, gr, rfl, S, l1, l2, l3, l4, rfl⟩ := hi
  apply pts_Solve_loop18
  (repeat simp -dsimp -implicitDefEqProofs (disch := omega) only [↓rP, rQ, rO, rL, ↓reduceIte, Nat.reduceEqDiff, Nat.reduceAdd, Nat.reduceLeDiff, pBuild, fillA, ↓tyr, S.sol.ld, solR])
  cases gr with
  | false =>
    (repeat simp -dsimp -implicitDefEqProofs (disch := omega) only [↓rP, rQ, rO, rL, ↓reduceIte, Nat.reduceEqDiff, Nat.reduceAdd, Nat.reduceLeDiff, pBuild, fillA, ↓tyr])
    exact hQ hh σ S (l4 rfl) l1 l2 l3
  | true =>
    (repeat simp -dsimp -implicitDefEqProofs (disch := omega) only [↓rP, rQ, rO, rL, ↓reduceIte, Nat.reduceEqDiff, Nat.reduceAdd, Nat.reduceLeDiff, pBuild, fillA, ↓tyr])
    rw [pStore_ptr S.sol.obj (by rfl) (by rw [solC_len]; decide), solC_grew]
    have hs := S.sol.lt
    have S1 : SV h (hh.put sid (.row 74 (solC c A i1 i2 false))) sid c σ A i1 i2 false := by
      have hsid := S.own sid (Or.inl rfl)
      refine ⟨⟨S.sol.sets.keep (S := fun i => i = sid) ⟨Nat.le_refl _, fun i _ hi => put_old hi _⟩ (fun r id e h => S.sol.ne r (h ▸ e)), put_new _ _ _, S.sol.lt, S.sol.ne⟩, S.own, ?_, S.nx, ?_⟩
      · rw [put_old (by omega)]; exact S.res
      · exact S.keep.putNew (by omega) _
    (repeat simp -dsimp -implicitDefEqProofs (disch := omega) only [↓rP, rQ, rO, rL, ↓reduceIte, Nat.reduceEqDiff, Nat.reduceAdd, Nat.reduceLeDiff, pBuild, fillA, ↓tyr])
    refine solve_21 hc wc S1 l1 l2 l3 _ ?_
    intro h2 σ2 g2 S2 P2
    (repeat simp -dsimp -implicitDefEqProofs (disch := omega) only [↓rP, rQ, rO, rL, ↓reduceIte, Nat.reduceEqDiff, Nat.reduceAdd, Nat.reduceLeDiff, pBuild, fillA, ↓tyr])
    rw [loopPost_normal, hI]
    refine ⟨leftOf c σ2 + (if g2 = true then 1 else 0), ?_, σ2, g2, rfl, S2, P2.lw, P2.bd, P2.rg, ?_, rfl⟩
    · cases g2 with
      | false =>
        have e : σ2 = σ := by
          apply Classical.byContradiction
          intro hn
          have := P2.gr.2 hn
          cases this
        rw [e]; simp
      | true =>
        have := left_lt P2.le P2.bd P2.rg (P2.gr.1 rfl)
        simp; omega
    · rintro rfl
      have e : σ2 = σ := by
        apply Classical.byContradiction
        intro hn
        have := P2.gr.2 hn
        cases this
      intro t b a x hb hx
      rw [e]
      exact P2.cl e t b a x hb hx trivial
end Go.Proofs.YtopfjochppdnfaaDoor
end

section
/- The least sets, by the program. -/
set_option maxRecDepth 8000
set_option maxHeartbeats 1000000
namespace Go.Proofs.YtopfjochppdnfaaDoor
open Go.Abs
def SolvedQ (h : AHeap) (c : Cd) (v : AV) (h2 : AHeap) : Prop :=
  (okC c = false ∧ v = .agg [.nils, .nils, .nils] ∧ Keeps h h2 (fun _ => False)) ∨
  (okC c = true ∧ ∃ σ A i1 i2, v = .agg (setsC c A i1 i2) ∧ SetsAt h2 c σ A ∧ (∀ r id, A r = .sl id 0 (lenR c r) 1 → h.next ≤ id) ∧ Cl c σ ∧ Lw c σ ∧ Bd2 c σ ∧ Rg c σ ∧ Keeps h h2 (fun _ => False))
theorem bld_sol (c : Cd) (K : AV → Prop) : pBuild [(0, 5), (5, 3), (8, 1)] [AV.nils, AV.nils, AV.nils, AV.nils, AV.nils, AV.nils, AV.nils, AV.nils, AV.bool false] [(0, .agg c.cells), (2, .bool true)] K = K (.agg (solP c (fun _ => .nils) 0 0 0 0)) := by
  simp [pBuild, fillA, Api_Code.cells, AV.fits, AV.cells, solP, outA]
def A0g (c : Cd) (id : Nat) : Rw → AV := fun r => if r = .g then .sl id 0 (lenR c .g) 1 else .nils
theorem solP_set6 (c : Cd) (id : Nat) : (solP c (fun _ => .nils) 0 0 0 0).set 6 (.sl id 0 (lenR c .g) 1) = solP c (A0g c id) 0 0 0 0 := rfl
theorem build_first (c : Cd) (h : AHeap) : BuildAt h ((((h.push (.row 29 [.nils, .nils, .nils])).push (.row 74 (solP c (fun _ => .nils) 0 0 0 0))).push (.row 23 (rowC (fun _ => 0) (lenR c .g)))).put (h.next + 1) (.row 74 (solP c (A0g c (h.next + 2)) 0 0 0 0))) (h.next + 1) c (A0g c (h.next + 2)) 0 0 0 0 := by
  have hin : ∀ r, inB 0 0 r ↔ r = .g := fun r => by cases r <;> simp [inB]
  have ag : A0g c (h.next + 2) .g = .sl (h.next + 2) 0 (lenR c .g) 1 := by simp [A0g]
  have an : ∀ r, r ≠ .g → A0g c (h.next + 2) r = .nils := fun r hr => by simp [A0g, hr]
  refine ⟨fun r hr => ?_, fun r hr => an r (fun e => hr ((hin r).2 e)), fun r r' id e e' => ?_, put_new _ _ _, by omega, by simp, Or.inl rfl, Or.inl rfl, ?_, ?_⟩
  · obtain rfl := (hin r).1 hr
    refine ⟨h.next + 2, ag, by omega, by simp, ?_⟩
    rw [put_old (by omega)]
    exact push_new _ _
  · by_cases h1 : r = .g
    · by_cases h2 : r' = .g
      · rw [h1, h2]
      · rw [an r' h2] at e'; cases e'
    · rw [an r h1] at e; cases e
  · rw [put_old (by omega), push_old (by simp; omega), push_old (by simp), push_new]
  · exact (((Keeps.one _ _).go (Keeps.one _ _)).go (Keeps.one _ _)).putNew (by omega) _
theorem Solve_does (c : Cd) (hc : c.ok) (sm : Small c) (h : AHeap) : CallsA Tryd.prog 22 [.agg c.cells] h (fun v h2 => SolvedQ h c v h2) := by
  apply pts_Solve_wp
  (repeat simp -dsimp -implicitDefEqProofs (disch := omega) only [↓rP, rQ, rO, rL, ↓reduceIte, Nat.reduceEqDiff, Nat.reduceAdd, Nat.reduceLeDiff, pBuild, fillA, ↓tyr])
  refine CallsA.go (code_Good_s c hc sm _) ?_
  cases hg : okC c with
  | false =>
    (repeat simp -dsimp -implicitDefEqProofs (disch := omega) only [↓rP, rQ, rO, rL, ↓reduceIte, Nat.reduceEqDiff, Nat.reduceAdd, Nat.reduceLeDiff, pBuild, fillA, ↓tyr])
    rw [pStore_push (by rfl) (by rfl)]
    (repeat simp -dsimp -implicitDefEqProofs (disch := omega) only [↓rP, rQ, rO, rL, ↓reduceIte, Nat.reduceEqDiff, Nat.reduceAdd, Nat.reduceLeDiff, pBuild, fillA, ↓tyr])
    exact Or.inl ⟨hg, rfl, Keeps.one _ _⟩
  | true =>
    have wc := wf_of hg
    have hgl := wc.glo
    (repeat simp -dsimp -implicitDefEqProofs (disch := omega) only [↓rP, rQ, rO, rL, ↓reduceIte, Nat.reduceEqDiff, Nat.reduceAdd, Nat.reduceLeDiff, pBuild, fillA, ↓tyr, ↓bld_sol])
    have e1 : (h.push (AObj.row 29 [AV.nils, AV.nils, AV.nils])).next = h.next + 1 := rfl
    rw [e1]
    rw [mk_row _ (by omega)]
    have e2 : ((h.push (AObj.row 29 [AV.nils, AV.nils, AV.nils])).push (AObj.row 74 (solP c (fun _ => .nils) 0 0 0 0))).next = h.next + 2 := rfl
    rw [e2]
    (repeat simp -dsimp -implicitDefEqProofs (disch := omega) only [↓rP, rQ, rO, rL, ↓reduceIte, Nat.reduceEqDiff, Nat.reduceAdd, Nat.reduceLeDiff, pBuild, fillA, ↓tyr])
    have hlg : (slL c.Globals).length = lenR c .g := rfl
    rw [hlg]
    have ob : (((h.push (AObj.row 29 [AV.nils, AV.nils, AV.nils])).push (AObj.row 74 (solP c (fun _ => .nils) 0 0 0 0))).push (AObj.row 23 (rowC (fun _ => 0) (lenR c .g)))).objs (h.next + 1) = some (AObj.row 74 (solP c (fun _ => .nils) 0 0 0 0)) := by
      rw [push_old (by simp), ← e1, push_new]
    rw [pStore_ptr ob (by rfl) (by rw [solP_len]; decide), solP_set6]
    have B0 := build_first c h
    generalize ((((h.push (.row 29 [.nils, .nils, .nils])).push (.row 74 (solP c (fun _ => .nils) 0 0 0 0))).push (.row 23 (rowC (fun _ => 0) (lenR c .g)))).put (h.next + 1) (.row 74 (solP c (A0g c (h.next + 2)) 0 0 0 0))) = H at B0 ⊢
    (repeat simp -dsimp -implicitDefEqProofs (disch := omega) only [↓rP, rQ, rO, rL, ↓reduceIte, Nat.reduceEqDiff, Nat.reduceAdd, Nat.reduceLeDiff, pBuild, fillA, ↓tyr])
    refine solve_6 wc B0 _ ?_
    intro H2 A1 i1 B1
    (repeat simp -dsimp -implicitDefEqProofs (disch := omega) only [↓rP, rQ, rO, rL, ↓reduceIte, Nat.reduceEqDiff, Nat.reduceAdd, Nat.reduceLeDiff, pBuild, fillA, ↓tyr])
    refine solve_11 wc B1 _ ?_
    intro H3 A i2 B2
    obtain ⟨S, own⟩ := B2.start
    have SV0 : SV h H3 (h.next + 1) c (fun _ _ => 0) A i1 i2 true := ⟨S, own, B2.res, by have := B2.gt; have := B2.lt; omega, B2.keep⟩
    (repeat simp -dsimp -implicitDefEqProofs (disch := omega) only [↓rP, rQ, rO, rL, ↓reduceIte, Nat.reduceEqDiff, Nat.reduceAdd, Nat.reduceLeDiff, pBuild, fillA, ↓tyr])
    refine solve_18 hc wc SV0 (fun τ _ r n i hi => by simp at hi) (fun r n i hi => by simp at hi) (fun r n hn => absurd rfl hn) _ ?_
    intro H4 σ S4 l1 l2 l3 l4
    have ls : ∀ K : AV → Prop, pLoad (some 3) (.ptr (h.next + 1) 5) H4 K = K (.agg (setsC c A i1 i2)) := fun K => by rw [S4.sol.ld]; exact solC_sets c A i1 i2 false K
    (repeat simp -dsimp -implicitDefEqProofs (disch := omega) only [↓rP, rQ, rO, rL, ↓reduceIte, Nat.reduceEqDiff, Nat.reduceAdd, Nat.reduceLeDiff, pBuild, fillA, ↓tyr, ↓ls])
    have hst : ∀ K : AHeap → Prop, pStore 3 (.ptr h.next 0) (.agg (setsC c A i1 i2)) H4 K = K (H4.put h.next (.row 29 (setsC c A i1 i2))) := fun K => by
      simp only [pStore, S4.res]
      simp [setsC]
    rw [hst]
    have ldr : ∀ K : AV → Prop, pLoad (some 3) (.ptr h.next 0) (H4.put h.next (.row 29 (setsC c A i1 i2))) K = K (.agg (setsC c A i1 i2)) := fun K => by
      rw [pLoad_ptr (put_new _ _ _)]; exact setsC_all c A i1 i2 K
    (repeat simp -dsimp -implicitDefEqProofs (disch := omega) only [↓rP, rQ, rO, rL, ↓reduceIte, Nat.reduceEqDiff, Nat.reduceAdd, Nat.reduceLeDiff, pBuild, fillA, ↓tyr, ↓ldr])
    refine Or.inr ⟨hg, σ, A, i1, i2, rfl, ?_, ?_, l1, l2, l3, l4, S4.keep.putNew (Nat.le_refl _) _⟩
    · refine S4.sol.sets.keep (S := fun i => i = h.next) ⟨Nat.le_refl _, fun i _ hi => put_old hi _⟩ (fun r id e h => ?_)
      have := own id (Or.inr ⟨r, e⟩)
      omega
    · intro r id e
      have := own id (Or.inr ⟨r, e⟩)
      omega
end Go.Proofs.YtopfjochppdnfaaDoor
end

section
/- A code of which something is known. -/
set_option maxRecDepth 100000
set_option maxHeartbeats 1000000
namespace Go.Proofs.YtopfjochppdnfaaDoor
open Go.Abs
theorem bsl_six (e : TypeId) (sz by_ : Nat) (z c0 c1 c2 c3 c4 c5 : List AV) (h : AHeap) (K : AV → AHeap → Prop) : pBuildSl true { e := e, sz := sz, by_ := by_ } z 6 [(0, .agg c0), (1, .agg c1), (2, .agg c2), (3, .agg c3), (4, .agg c4), (5, .agg c5)] h K = (6 * sz ≤ 16777216 ∧ z.length = sz ∧ c0.length = sz ∧ c1.length = sz ∧ c2.length = sz ∧ c3.length = sz ∧ c4.length = sz ∧ c5.length = sz ∧ K (.isl sz [c0, c1, c2, c3, c4, c5]) h) := by
  simp [pBuildSl, fillE, AV.fits, AV.cells]
  by_cases h0 : c0.length = sz <;> by_cases h1 : c1.length = sz <;> by_cases h2 : c2.length = sz <;> by_cases h3 : c3.length = sz <;> by_cases h4 : c4.length = sz <;> by_cases h5 : c5.length = sz <;> simp [h0, h1, h2, h3, h4, h5, List.replicate]
theorem bsl_nil (e : TypeId) (h : AHeap) (K : AV → AHeap → Prop) : pBuildSl true { e := e, sz := 1, by_ := 24 } [AV.nils] 1 [(0, .nils)] h K = K (.isl 1 [[.nils]]) h := by
  simp [pBuildSl, fillE, AV.fits, AV.cells]
def aliveB : Bd := ⟨some [⟨4, 0, false⟩, ⟨4, 0, false⟩], some [⟨15, 0, 0, 0, 0, 0, none, none⟩, ⟨8, 0, 0, 0, 0, 0, none, none⟩, ⟨5, 0, 0, 0, 0, 0, some [⟨2, 0, 0⟩], none⟩, ⟨2, 1, 0, 0, 0, 0, none, none⟩, ⟨16, 0, 0, 0, 0, 0, none, none⟩, ⟨17, 0, 0, 0, 0, 0, none, none⟩], 0⟩
def aliveP : Cd := ⟨some [none], some [⟨4, 0, false⟩], some [aliveB], some [⟨0, 1, 0⟩], some [⟨0, 0, 4⟩]⟩
theorem aliveP_ok : aliveP.ok := by
  simp [aliveP, aliveB, Api_Code.ok, Api_Body.ok, Api_Instr.ok, Api_Local.ok, Api_Item.ok, Api_Site.ok, Api_Section.ok, okSl, okI, okT, okN, maxLen]
theorem aliveP_small : Small aliveP := small_of (by decide +kernel)
theorem aliveP_items : itemsB aliveB (some [⟨2, 0, 0⟩]) = true := by
  have hg : goodP [⟨2, 0, 0⟩] 2 := by
   refine ⟨?_, by decide, by decide⟩
   intro k hk x hx
   have : k = 0 := by simpa using hk
   subst this
   simp at hx
   subst hx
   decide
  unfold itemsB goodB
  exact @decide_eq_true _ (Classical.propDecidable _) hg
theorem aliveP_yes : okC aliveP = true := by
  have ht : threadsB aliveP = true := by
    unfold threadsB
    rw [allK_iff]
    intro t b hb
    have : t = 0 := by
      have := (List.getElem?_eq_some_iff.1 hb).1
      simpa [aliveP] using this
    subst this
    obtain rfl : aliveB = b := by simpa [aliveP] using hb
    have hi : instrsB aliveP ((0 : Nat) : Int) aliveB = true := by
      unfold instrsB
      rw [allK_iff]
      intro k x hx
      have hk : k < 6 := by
        have := (List.getElem?_eq_some_iff.1 hx).1
        simpa [aliveB] using this
      rcases (by omega : k = 0 ∨ k = 1 ∨ k = 2 ∨ k = 3 ∨ k = 4 ∨ k = 5) with rfl | rfl | rfl | rfl | rfl | rfl
      all_goals (simp [aliveB] at hx; subst hx)
      · decide +kernel
      · decide +kernel
      · have h1 : insI aliveP 0 2 = 0 := by decide +kernel
        unfold instrB storesB
        rw [if_neg (by simp [h1]), if_neg (by decide), if_neg (by decide), if_pos (by decide), if_pos (by decide), aliveP_items]
        decide +kernel
      · decide +kernel
      · decide +kernel
      · decide +kernel
    have hb : bodyB aliveP aliveB = true := by decide +kernel
    have hl : lastB aliveB = true := by decide +kernel
    unfold threadB
    rw [hb, hl, hi]; rfl
  unfold okC
  rw [ht]
  decide +kernel
theorem alive_bits {σ : Sg} (cl : Cl aliveP σ) (bd : Bd2 aliveP σ) : σ (.s 0) 0 = 1 ∧ σ (.s 0) 1 = 1 ∧ σ .g 0 = 1 := by
  have hb : (slL aliveP.Threads)[0]? = some aliveB := rfl
  have b0 : (σ (.s 0) 0).testBit 0 = true := by
    refine cl 0 aliveB 1 ⟨8, 0, 0, 0, 0, 0, none, none⟩ hb rfl (.s 0) 0 0 ?_
    rw [contr_bit]
    exact Or.inl ⟨by decide, rfl, rfl, by simp [bringsN]⟩
  have bg : (σ .g 0).testBit 0 = true := by
    refine cl 0 aliveB 2 ⟨5, 0, 0, 0, 0, 0, some [⟨2, 0, 0⟩], none⟩ hb rfl .g 0 0 ?_
    rw [contr_bit]
    exact Or.inr (Or.inl ⟨rfl, by decide, rfl, rfl, by simpa [itemsN, orF] using b0⟩)
  have b1 : (σ (.s 0) 1).testBit 0 = true := by
    refine cl 0 aliveB 3 ⟨2, 1, 0, 0, 0, 0, none, none⟩ hb rfl (.s 0) 1 0 ?_
    rw [contr_bit]
    exact Or.inl ⟨by decide, rfl, rfl, by simpa [bringsN] using bg⟩
  have one : ∀ r n, (σ r n).testBit 0 = true → σ r n = 1 := by
    intro r n h
    have h2 : σ r n < 2 := by simpa [aliveP] using bd.lt r n
    rcases (by omega : σ r n = 0 ∨ σ r n = 1) with e | e
    · rw [e] at h; simp at h
    · exact e
  exact ⟨one _ _ b0, one _ _ b1, one _ _ bg⟩
theorem alive11_does (h : AHeap) : CallsA Tryd.prog 19 [] h (fun v h2 => v = .bool true ∧ h2 = h) := by
  refine CallsA.forget (by simp [idsIn]) ?_
  apply padlocklaw11_alive_wp
  (repeat simp -dsimp -implicitDefEqProofs (disch := omega) only [↓rP, rQ, rO, rL, ↓reduceIte, Nat.reduceEqDiff, Nat.reduceAdd, Nat.reduceLeDiff, pBuild, fillA, ↓tyr, bsl_nil, bsl_one, bsl_two, bsl_six, fits_isl, cells_isl])
  refine ⟨by decide, by decide, ?_⟩
  rw [pStore_push (by rfl) (by rfl)]
  change @later (AHeap → Prop) _ _ (h.push (.row 44 aliveP.cells))
  (repeat simp -dsimp -implicitDefEqProofs (disch := omega) only [↓rP, rQ, rO, rL, ↓reduceIte, Nat.reduceEqDiff, Nat.reduceAdd, Nat.reduceLeDiff, pBuild, fillA, ↓tyr])
  refine (Solve_does aliveP aliveP_ok aliveP_small _).mono ?_
  rintro v H (⟨e, _⟩ | ⟨_, σ, A, i1, i2, rfl, S, own, cl, lw, bd, rg, kp⟩)
  · rw [aliveP_yes] at e; cases e
  obtain ⟨e0, e1, eg⟩ := alive_bits cl bd
  have kp2 : Keeps h (H.push (.row 29 (setsC aliveP A i1 i2))) (fun _ => False) := ((Keeps.one _ _).go kp).go (Keeps.one _ _)
  have S1 := S.keep (Keeps.one H (.row 29 (setsC aliveP A i1 i2))) (fun _ _ _ h => h)
  obtain ⟨r0, a0, _, _, ix0, ld0⟩ := S1.ix (r := .s 0) (n := 0) (by decide)
  obtain ⟨r1, a1, _, _, ix1, ld1⟩ := S1.ix (r := .s 0) (n := 1) (by decide)
  obtain ⟨r2, a2, _, _, ix2, ld2⟩ := S1.ix (r := .g) (n := 0) (by decide)
  have len0 : ∀ K : AV → Prop, pLen .slice (A (.s 0)) K = K (.int .i64 2) := fun K => S1.len (.s 0) K
  have leng : ∀ K : AV → Prop, pLen .slice (A .g) K = K (.int .i64 1) := fun K => S1.len .g K
  have lent : ∀ K : AV → Prop, pLen .slice (outA i1 (slL aliveP.Threads).length (fun t => A (.s t))) K = K (.int .i64 1) := fun K => outA_len _ _ _ K
  have ixt : ∀ (kk : IntKind) (K : AV → Prop), pIndexAddr (.slice 1) (outA i1 (slL aliveP.Threads).length (fun t => A (.s t))) (.int kk 0) K = K (.iptr [A (.s 0)]) := fun kk K => outA_ix (k := 0) (by decide) kk K
  have jx0 : ∀ (kk : IntKind) (K : AV → Prop), pIndexAddr (.slice 1) (A (.s 0)) (.int kk 0) K = K (.ptr r0 0) := ix0
  have jx1 : ∀ (kk : IntKind) (K : AV → Prop), pIndexAddr (.slice 1) (A (.s 0)) (.int kk 1) K = K (.ptr r1 1) := ix1
  have jx2 : ∀ (kk : IntKind) (K : AV → Prop), pIndexAddr (.slice 1) (A .g) (.int kk 0) K = K (.ptr r2 0) := ix2
  have kd0 : ∀ K : AV → Prop, pLoad none (.ptr r0 0) (H.push (.row 29 (setsC aliveP A i1 i2))) K = K (.int .u64 1) := fun K => by rw [ld0, e0]; rfl
  have kd1 : ∀ K : AV → Prop, pLoad none (.ptr r1 1) (H.push (.row 29 (setsC aliveP A i1 i2))) K = K (.int .u64 1) := fun K => by rw [ld1, e1]; rfl
  have kd2 : ∀ K : AV → Prop, pLoad none (.ptr r2 0) (H.push (.row 29 (setsC aliveP A i1 i2))) K = K (.int .u64 1) := fun K => by rw [ld2, eg]; rfl
  (repeat simp -dsimp -implicitDefEqProofs (disch := omega) only [↓rP, rQ, rO, rL, ↓reduceIte, Nat.reduceEqDiff, Nat.reduceAdd, Nat.reduceLeDiff, pBuild, fillA, ↓tyr])
  rw [pStore_push (by rfl) (by rfl)]
  (repeat simp -dsimp -implicitDefEqProofs (disch := omega) only [↓rP, rQ, rO, rL, ↓reduceIte, Nat.reduceEqDiff, Nat.reduceAdd, Nat.reduceLeDiff, pBuild, fillA, ↓tyr, pLoad_push, solR, lent, ixt, len0, leng, jx0, jx1, jx2, kd0, kd1, kd2, Int.reduceBEq])
  (first | (refine And.intro (by simp) ?_; (repeat (first | assumption | with_reducible exact Keeps.refl _ _ | with_reducible refine Keeps.go ?_ (Keeps.one _ _) | with_reducible refine Keeps.go ?_ (by assumption)))) | (repeat (first | assumption | with_reducible exact Keeps.refl _ _ | with_reducible refine Keeps.go ?_ (Keeps.one _ _) | with_reducible refine Keeps.go ?_ (by assumption))))
end Go.Proofs.YtopfjochppdnfaaDoor
end

section
/- Sets as numbers, and whether two are the same. -/
set_option maxRecDepth 8000
set_option maxHeartbeats 1000000
namespace Go.Proofs.YtopfjochppdnfaaDoor
open Go.Abs
def nsU (l : List Nat) : List AV := l.map fun (n : Nat) => AV.int .u64 n
theorem nsU_len (l : List Nat) : (nsU l).length = l.length := by simp [nsU]
def rowL (f : Nat → Nat) (n : Nat) : List Nat := (List.range n).map f
theorem rowL_len (f : Nat → Nat) (n : Nat) : (rowL f n).length = n := by simp [rowL]
theorem rowC_eq (f : Nat → Nat) (n : Nat) : rowC f n = nsU (rowL f n) := by simp [rowC, nsU, rowL]
def partL (f : Nat → Nat) (n : Nat) : List Nat := n :: rowL f n
def flatN (c : Cd) (σ : Sg) : List Nat :=
  [(slL c.Threads).length, lenR c .g, (slL c.Sites).length] ++ rowL (σ .g) (lenR c .g) ++ (List.range (slL c.Threads).length).flatMap (fun t => partL (σ (.s t)) (lenR c (.s t))) ++ (List.range (slL c.Sites).length).flatMap (fun k => partL (σ (.f k)) (lenR c (.f k)))
theorem chunk_nsU (l : List Nat) (m : List AV) : chunk 1 l.length (nsU l ++ m) = l.map fun n : Nat => [AV.int .u64 n] := by
  induction l with
  | nil => rfl
  | cons a l ih => simp only [nsU, List.map_cons, List.length_cons, chunk, List.cons_append, List.take_succ_cons, List.take_zero, List.drop_succ_cons, List.drop_zero]; rw [← ih]; rfl
theorem flatten_one (l : List Nat) : (l.map fun n : Nat => [AV.int .u64 (n : Int)]).flatten = nsU l := by
  induction l with
  | nil => rfl
  | cons a l ih => simp only [List.map_cons, List.flatten_cons, ih]; simp [nsU]
theorem src_row {h : AHeap} {av : AV} {n : Nat} {f : Nat → Nat} (r : RowAt h av n f) : srcElems 1 av h = some ((rowL f n).map fun k : Nat => [AV.int .u64 k]) := by
  rcases r with ⟨rfl, rfl⟩ | ⟨id, rfl, _, ho⟩
  · rfl
  · simp only [srcElems, ho, rowC_eq, nsU_len, rowL_len, Nat.mul_one, Nat.zero_add, Nat.le_refl, and_self, if_true, List.drop_zero]
    have := chunk_nsU (rowL f n) []
    rw [List.append_nil, rowL_len] at this
    rw [this]
theorem ap_nsU {h : AHeap} {id : Nat} {L M : List Nat} {x : AV} (ho : h.objs id = some (.row 23 (nsU L))) (hx : srcElems 1 x h = some (M.map fun k : Nat => [AV.int .u64 k])) (hL : L.length + M.length ≤ 1000000) (K : AV → AHeap → Prop) :
    pAppend true { e := 23, sz := 1, by_ := 8 } (.sl id 0 L.length 1) x h K = K (.sl h.next 0 (L ++ M).length 1) ((h.kill id).push (.row 23 (nsU (L ++ M)))) := by
  simp only [pAppend, hx, ho, List.length_map, Nat.mul_one, nsU_len, Nat.le_refl, flatten_one]
  have e : List.take L.length (nsU L) ++ nsU M = nsU (L ++ M) := by
    rw [List.take_of_length_le (by rw [nsU_len]; exact Nat.le_refl _)]; simp [nsU]
  rw [e, List.length_append]
  apply propext
  constructor
  · rintro ⟨-, -, -, -, hk⟩; exact hk
  · intro hk; exact ⟨trivial, trivial, trivial, by simp [bounded, maxLen]; omega, hk⟩
theorem ap_one {h : AHeap} {id : Nat} {L : List Nat} {m : Nat} (ho : h.objs id = some (.row 23 (nsU L))) (hL : L.length + 1 ≤ 1000000) (K : AV → AHeap → Prop) :
    pAppend true { e := 23, sz := 1, by_ := 8 } (.sl id 0 L.length 1) (.isl 1 [[.int .u64 (m : Nat)]]) h K = K (.sl h.next 0 (L ++ [m]).length 1) ((h.kill id).push (.row 23 (nsU (L ++ [m])))) :=
  ap_nsU (M := [m]) ho rfl hL K
theorem conv_u (n : Nat) (hn : n ≤ 1000000) (h : AHeap) (K : AV → Prop) : pConv (.int .u64) (.int .i64 (n : Int)) h K = K (.int .u64 (n : Int)) := by
  have : IntKind.u64.wrap (n : Int) = n := wrapN (by omega) (by omega)
  simp [pConv, this]
theorem flat_more {h0 h : AHeap} {c : Cd} {σ : Sg} {A : Rw → AV} (S0 : SetsAt h0 c σ A) {id : Nat} {L : List Nat} (hid : h0.next ≤ id) (hid2 : id < h.next) (ho : h.objs id = some (.row 23 (nsU L))) (k0 : Keeps h0 h (fun _ => False)) (r : Rw) (hL : L.length ≤ 20000) (hl : lenR c r ≤ 1000) (K : AV → AHeap → Prop)
    (hK : ∀ id2 h2, h0.next ≤ id2 → id2 < h2.next → h2.objs id2 = some (.row 23 (nsU (L ++ partL (σ r) (lenR c r)))) → Keeps h0 h2 (fun _ => False) → K (.sl id2 0 (L ++ partL (σ r) (lenR c r)).length 1) h2) :
    pAppend true { e := 23, sz := 1, by_ := 8 } (.sl h.next 0 (L ++ [lenR c r]).length 1) (A r) ((h.kill id).push (.row 23 (nsU (L ++ [lenR c r])))) K := by
  obtain ⟨h2, e2⟩ : ∃ h2, h2 = (h.kill id).push (.row 23 (nsU (L ++ [lenR c r]))) := ⟨_, rfl⟩
  have n2 : h2.next = h.next + 1 := by rw [e2]; rfl
  have k2 : Keeps h0 h2 (fun _ => False) := by rw [e2]; exact (k0.killNew hid).pushS _
  have o2 : h2.objs h.next = some (.row 23 (nsU (L ++ [lenR c r]))) := by
    rw [e2]
    have : (h.kill id).next = h.next := rfl
    rw [← this, push_new]
  have kn := k0.next
  rw [← e2]
  have S2 := S0.keep k2 (fun _ _ _ h => h)
  rw [ap_nsU o2 (src_row (S2.row r)) (by simp [rowL_len]; omega)]
  have e3 : L ++ [lenR c r] ++ rowL (σ r) (lenR c r) = L ++ partL (σ r) (lenR c r) := by simp [partL]
  rw [e3]
  refine hK h2.next _ (by omega) (by simp) ?_ ((k2.killNew (by omega)).pushS _)
  have : (h2.kill h.next).next = h2.next := rfl
  rw [← this, push_new]
theorem flat_rows_len {c : Cd} {σ : Sg} (m : Nat → Rw) (hm : ∀ k, lenR c (m k) ≤ 100) (n : Nat) : ((List.range n).flatMap fun k => partL (σ (m k)) (lenR c (m k))).length ≤ 101 * n := by
  induction n with
  | zero => simp
  | succ n ih =>
    rw [List.range_succ, List.flatMap_append, List.length_append]
    have := hm n
    have e : ([n].flatMap fun k => partL (σ (m k)) (lenR c (m k))).length = lenR c (m n) + 1 := by simp [partL, rowL_len]
    rw [e]
    omega
structure Rs (c : Cd) : Prop where
  thr : (slL c.Threads).length ≤ 10
  sit : (slL c.Sites).length ≤ 100
  rows : ∀ r, lenR c r ≤ 100
theorem WfC.rs {c : Cd} (wc : WfC c) : Rs c := by
  refine ⟨by have := wc.thr; omega, by have := wc.sit; omega, fun r => ?_⟩
  cases r with
  | g => have := wc.glo; simp only [lenR]; omega
  | s t =>
    simp only [lenR, slotsL]
    cases hb : (slL c.Threads)[t]? with
    | none => simp
    | some b => have := (wc.slo t b hb).1; simp only; omega
  | f k =>
    simp only [lenR]
    cases hk : (slL c.Sites)[k]? with
    | none => simp
    | some s =>
      simp only [recL]
      cases hr : getI (slL c.Records) s.Rec with
      | none => simp
      | some r => have := wc.recs r (getI_mem hr); simp only; omega
theorem Flat_does {h : AHeap} {c : Cd} {σ : Sg} {A : Rw → AV} (S : SetsAt h c σ A) (rs : Rs c) (i1 i2 : Nat) : CallsA Tryd.prog 29 [.agg (setsC c A i1 i2)] h (fun v h2 => ∃ id, v = .sl id 0 (flatN c σ).length 1 ∧ h.next ≤ id ∧ id < h2.next ∧ h2.objs id = some (.row 23 (nsU (flatN c σ))) ∧ Keeps h h2 (fun _ => False)) := by
  have ht := rs.thr
  have hs := rs.sit
  have hg := rs.rows .g
  have b3 : ∀ (a b d : Nat) (H : AHeap) (K : AV → AHeap → Prop), pBuildSl false { e := 23, sz := 1, by_ := 8 } [AV.int .u64 0] 3 [(0, .int .u64 (a : Nat)), (1, .int .u64 (b : Nat)), (2, .int .u64 (d : Nat))] H K = K (.sl H.next 0 [a, b, d].length 1) (H.push (.row 23 (nsU [a, b, d]))) := fun a b d H K => by
    simp [pBuildSl, fillE, AV.fits, AV.cells, nsU]
  apply padlockref11_Flat_wp
  (repeat simp -dsimp -implicitDefEqProofs (disch := omega) only [↓rP, rQ, rO, rL, ↓reduceIte, Nat.reduceEqDiff, Nat.reduceAdd, Nat.reduceLeDiff, pBuild, fillA, ↓tyr, solR, outA_len, S.len, conv_u _ (show (slL c.Threads).length ≤ 1000000 by omega), conv_u _ (show lenR c .g ≤ 1000000 by omega), conv_u _ (show (slL c.Sites).length ≤ 1000000 by omega), b3])
  have S1 := S.keep (Keeps.one h (.row 23 (nsU [(slL c.Threads).length, lenR c .g, (slL c.Sites).length]))) (fun _ _ _ h => h)
  refine Eq.mpr (ap_nsU (L := [(slL c.Threads).length, lenR c .g, (slL c.Sites).length]) (push_new _ _) (src_row (S1.row .g)) (by simp [rowL_len]; omega) _) ?_
  obtain ⟨L0, hL0⟩ : ∃ L0, L0 = [(slL c.Threads).length, lenR c .g, (slL c.Sites).length] ++ rowL (σ .g) (lenR c .g) := ⟨_, rfl⟩
  have hL0l : L0.length ≤ 103 := by rw [hL0]; simp [rowL_len]; omega
  rw [← hL0]
  obtain ⟨H, hH⟩ : ∃ H, H = ((h.push (.row 23 (nsU [(slL c.Threads).length, lenR c .g, (slL c.Sites).length]))).kill h.next).push (.row 23 (nsU L0)) := ⟨_, rfl⟩
  have kH : Keeps h H (fun _ => False) := by rw [hH]; exact ((Keeps.one _ _).killNew (Nat.le_refl _)).pushS _
  have nH : H.next = h.next + 2 := by rw [hH]; rfl
  have oH : H.objs (h.next + 1) = some (.row 23 (nsU L0)) := by
    rw [hH]
    have : ((h.push (.row 23 (nsU [(slL c.Threads).length, lenR c .g, (slL c.Sites).length]))).kill h.next).next = h.next + 1 := rfl
    rw [← this, push_new]
  have e1 : (h.push (.row 23 (nsU [(slL c.Threads).length, lenR c .g, (slL c.Sites).length]))).next = h.next + 1 := rfl
  rw [e1, ← hH]
  (repeat simp -dsimp -implicitDefEqProofs (disch := omega) only [↓rP, rQ, rO, rL, ↓reduceIte, Nat.reduceEqDiff, Nat.reduceAdd, Nat.reduceLeDiff, pBuild, fillA, ↓tyr, solR, outA_len])
  have SH := S.keep kH (fun _ _ _ h => h)
  -- slots
  obtain ⟨F1, hF1⟩ : ∃ F1 : Nat → List Nat, F1 = fun k => L0 ++ (List.range k).flatMap fun t => partL (σ (.s t)) (lenR c (.s t)) := ⟨_, rfl⟩
  have hF1l : ∀ k, k ≤ 10 → (F1 k).length ≤ 1200 := fun k hk => by
    have := flat_rows_len (σ := σ) (c := c) (fun t => .s t) (fun t => rs.rows (.s t)) k
    rw [hF1]; simp only [List.length_append]; omega
  have hF1s : ∀ k, F1 (k + 1) = F1 k ++ partL (σ (.s k)) (lenR c (.s k)) := fun k => by rw [hF1]; simp only [List.range_succ, List.flatMap_append, List.append_assoc]; simp
  obtain ⟨I, hI⟩ : ∃ I : Nat → Fr → AHeap → Prop, I = (fun n fr hh => ∃ k id : Nat, n = (slL c.Threads).length - k ∧ k ≤ (slL c.Threads).length ∧ h.next ≤ id ∧ id < hh.next ∧ hh.objs id = some (.row 23 (nsU (F1 k))) ∧ Keeps h hh (fun _ => False) ∧ fr = frOf [(1, .iptr (setsC c A i1 i2)), (3, .sl id 0 (F1 k).length 1), (26, outA i1 (slL c.Threads).length (fun t => A (.s t))), (27, .int .i64 (slL c.Threads).length), (28, .int .i64 k)]) := ⟨_, rfl⟩
  have hF10 : F1 0 = L0 := by rw [hF1]; simp
  refine WP_loop mixed_ (by kernel_rfl) I (slL c.Threads).length (by rw [hI]; exact ⟨0, h.next + 1, rfl, Nat.zero_le _, by omega, by omega, by rw [hF10]; exact oH, kH, by rw [hF10]; rfl⟩) ?_
  intro n fr hh hi
  rw [hI] at hi
  obtain ⟨k, id, rfl, hk, hid1, hid2, ho, kp, rfl⟩ := hi
  apply padlockref11_Flat_loop4
  (repeat simp -dsimp -implicitDefEqProofs (disch := omega) only [↓rP, rQ, rO, rL, ↓reduceIte, Nat.reduceEqDiff, Nat.reduceAdd, Nat.reduceLeDiff, pBuild, fillA, ↓tyr])
  refine Split_lt (fun hkl => ?_) (fun hkl => ?_)
  · have Sk := S.keep kp (fun _ _ _ h => h)
    have hr := rs.rows (.s k)
    (repeat simp -dsimp -implicitDefEqProofs (disch := omega) only [↓rP, rQ, rO, rL, ↓reduceIte, Nat.reduceEqDiff, Nat.reduceAdd, Nat.reduceLeDiff, pBuild, fillA, ↓tyr, outA_ix (show k < (slL c.Threads).length by omega), ld_one, Sk.len, conv_u _ (show lenR c (.s k) ≤ 1000000 by omega), bld1])
    rw [ap_one ho (by have := hF1l k (by omega); omega)]
    (repeat simp -dsimp -implicitDefEqProofs (disch := omega) only [↓rP, rQ, rO, rL, ↓reduceIte, Nat.reduceEqDiff, Nat.reduceAdd, Nat.reduceLeDiff, pBuild, fillA, ↓tyr])
    refine flat_more S hid1 hid2 ho kp (.s k) (by have := hF1l k (by omega); omega) (by omega) _ ?_
    intro id2 h2 q1 q2 q3 q4
    rw [← hF1s] at q3 ⊢
    (repeat simp -dsimp -implicitDefEqProofs (disch := omega) only [↓rP, rQ, rO, rL, ↓reduceIte, Nat.reduceEqDiff, Nat.reduceAdd, Nat.reduceLeDiff, pBuild, fillA, ↓tyr, wkS k (by omega)])
    rw [loopPost_normal, hI]
    exact ⟨_, by omega, k + 1, id2, rfl, by omega, q1, q2, q3, q4, rfl⟩
  have hke : k = (slL c.Threads).length := by omega
  subst hke
  (repeat simp -dsimp -implicitDefEqProofs (disch := omega) only [↓rP, rQ, rO, rL, ↓reduceIte, Nat.reduceEqDiff, Nat.reduceAdd, Nat.reduceLeDiff, pBuild, fillA, ↓tyr, solR, outA_len])
  clear hI I hk hkl
  -- fields
  obtain ⟨F2, hF2⟩ : ∃ F2 : Nat → List Nat, F2 = fun k => F1 (slL c.Threads).length ++ (List.range k).flatMap fun t => partL (σ (.f t)) (lenR c (.f t)) := ⟨_, rfl⟩
  have hF2l : ∀ k, k ≤ 100 → (F2 k).length ≤ 12000 := fun k hk => by
    have := flat_rows_len (σ := σ) (c := c) (fun t => .f t) (fun t => rs.rows (.f t)) k
    have := hF1l (slL c.Threads).length (by omega)
    rw [hF2]; simp only [List.length_append]; omega
  have hF2s : ∀ k, F2 (k + 1) = F2 k ++ partL (σ (.f k)) (lenR c (.f k)) := fun k => by rw [hF2]; simp only [List.range_succ, List.flatMap_append, List.append_assoc]; simp
  obtain ⟨I, hI⟩ : ∃ I : Nat → Fr → AHeap → Prop, I = (fun n fr hh => ∃ k id : Nat, n = (slL c.Sites).length - k ∧ k ≤ (slL c.Sites).length ∧ h.next ≤ id ∧ id < hh.next ∧ hh.objs id = some (.row 23 (nsU (F2 k))) ∧ Keeps h hh (fun _ => False) ∧ fr = frOf [(3, .sl id 0 (F2 k).length 1), (42, outA i2 (slL c.Sites).length (fun t => A (.f t))), (43, .int .i64 (slL c.Sites).length), (44, .int .i64 k)]) := ⟨_, rfl⟩
  have hF20 : F2 0 = F1 (slL c.Threads).length := by rw [hF2]; simp
  refine WP_loop mixed_ (by kernel_rfl) I (slL c.Sites).length (by rw [hI]; exact ⟨0, id, rfl, Nat.zero_le _, hid1, hid2, by rw [hF20]; exact ho, kp, by rw [hF20]; rfl⟩) ?_
  clear ho hid1 hid2 kp hF20
  intro n fr hh hi
  rw [hI] at hi
  obtain ⟨k, id, rfl, hk, hid1, hid2, ho, kp, rfl⟩ := hi
  apply padlockref11_Flat_loop9
  (repeat simp -dsimp -implicitDefEqProofs (disch := omega) only [↓rP, rQ, rO, rL, ↓reduceIte, Nat.reduceEqDiff, Nat.reduceAdd, Nat.reduceLeDiff, pBuild, fillA, ↓tyr])
  refine Split_lt (fun hkl => ?_) (fun hkl => ?_)
  · have Sk := S.keep kp (fun _ _ _ h => h)
    have hr := rs.rows (.f k)
    (repeat simp -dsimp -implicitDefEqProofs (disch := omega) only [↓rP, rQ, rO, rL, ↓reduceIte, Nat.reduceEqDiff, Nat.reduceAdd, Nat.reduceLeDiff, pBuild, fillA, ↓tyr, outA_ix (show k < (slL c.Sites).length by omega), ld_one, Sk.len, conv_u _ (show lenR c (.f k) ≤ 1000000 by omega), bld1])
    rw [ap_one ho (by have := hF2l k (by omega); omega)]
    (repeat simp -dsimp -implicitDefEqProofs (disch := omega) only [↓rP, rQ, rO, rL, ↓reduceIte, Nat.reduceEqDiff, Nat.reduceAdd, Nat.reduceLeDiff, pBuild, fillA, ↓tyr])
    refine flat_more S hid1 hid2 ho kp (.f k) (by have := hF2l k (by omega); omega) (by omega) _ ?_
    intro id2 h2 q1 q2 q3 q4
    rw [← hF2s] at q3 ⊢
    (repeat simp -dsimp -implicitDefEqProofs (disch := omega) only [↓rP, rQ, rO, rL, ↓reduceIte, Nat.reduceEqDiff, Nat.reduceAdd, Nat.reduceLeDiff, pBuild, fillA, ↓tyr, wkS k (by omega)])
    rw [loopPost_normal, hI]
    exact ⟨_, by omega, k + 1, id2, rfl, by omega, q1, q2, q3, q4, rfl⟩
  have hke : k = (slL c.Sites).length := by omega
  subst hke
  (repeat simp -dsimp -implicitDefEqProofs (disch := omega) only [↓rP, rQ, rO, rL, ↓reduceIte, Nat.reduceEqDiff, Nat.reduceAdd, Nat.reduceLeDiff, pBuild, fillA, ↓tyr])
  have hfl : F2 (slL c.Sites).length = flatN c σ := by rw [hF2, hF1, hL0]; rfl
  rw [hfl] at ho ⊢
  exact ⟨id, rfl, hid1, hid2, ho, kp⟩
end Go.Proofs.YtopfjochppdnfaaDoor
end

section
/- Whether two sets are the same. -/
set_option maxRecDepth 8000
set_option maxHeartbeats 1000000
namespace Go.Proofs.YtopfjochppdnfaaDoor
open Go.Abs
theorem flat_len {c : Cd} (rs : Rs c) (σ : Sg) : (flatN c σ).length ≤ 12000 := by
  have ht := rs.thr
  have hs := rs.sit
  have hg := rs.rows .g
  have h1 := flat_rows_len (σ := σ) (c := c) (fun t => .s t) (fun t => rs.rows (.s t)) (slL c.Threads).length
  have h2 := flat_rows_len (σ := σ) (c := c) (fun t => .f t) (fun t => rs.rows (.f t)) (slL c.Sites).length
  unfold flatN
  simp only [List.length_append, List.length_cons, List.length_nil, rowL_len]
  omega
theorem ld_nsU {h : AHeap} {id k : Nat} {L : List Nat} {v : Nat} (ho : h.objs id = some (.row 23 (nsU L))) (hk : L[k]? = some v) (K : AV → Prop) : pLoad none (.ptr id k) h K = K (.int .u64 (v : Nat)) := by
  rw [pLoad_ptr ho]
  simp [pCells, nsU, hk]
theorem ix_sl {id n k : Nat} (hk : k < n) (kk : IntKind) (K : AV → Prop) : pIndexAddr (.slice 1) (.sl id 0 n 1) (.int kk (k : Int)) K = K (.ptr id k) := by
  simp [pIndexAddr]; omega
end Go.Proofs.YtopfjochppdnfaaDoor
end

section
/- How the document lays its rows. -/
set_option maxRecDepth 8000
set_option maxHeartbeats 1000000
namespace Go.Proofs.YtopfjochppdnfaaDoor
open Go.Abs
def setP (A : Rw → AV) (i1 k1 i2 k2 : Nat) : List AV := [outA i1 k1 (fun t => A (.s t)), A .g, outA i2 k2 (fun k => A (.f k))]
structure MakeAt (h hh : AHeap) (sid : Nat) (c : Cd) (A : Rw → AV) (i1 k1 i2 k2 : Nat) : Prop where
  rows : ∀ r, inB k1 k2 r → (A r = .nils ∧ lenR c r = 0) ∨ ∃ id, A r = .sl id 0 (lenR c r) 1 ∧ h.next < id ∧ id < hh.next ∧ hh.objs id = some (.row 23 (rowC (fun _ => 0) (lenR c r)))
  none : ∀ r, ¬ inB k1 k2 r → A r = .nils
  one : ∀ r r' id, A r = .sl id 0 (lenR c r) 1 → A r' = .sl id 0 (lenR c r') 1 → r = r'
  obj : hh.objs sid = some (.row 29 (setP A i1 k1 i2 k2))
  gt : h.next < sid
  lt : sid < hh.next
  t1 : k1 = 0 ∨ k1 = (slL c.Threads).length ∨ (h.next < i1 ∧ i1 < hh.next ∧ hh.objs i1 = some (.tok 27 k1))
  t2 : k2 = 0 ∨ (h.next < i2 ∧ i2 < hh.next ∧ hh.objs i2 = some (.tok 27 k2))
  res : hh.objs h.next = some (.row 29 [.nils, .nils, .nils])
  keep : Keeps h hh (fun _ => False)
theorem MakeAt.mono {h hh h2 : AHeap} {sid : Nat} {c : Cd} {A : Rw → AV} {i1 k1 i2 k2 : Nat} (B : MakeAt h hh sid c A i1 k1 i2 k2) (k : Keeps hh h2 (fun _ => False)) : MakeAt h h2 sid c A i1 k1 i2 k2 := by
  have kk : ∀ {i : Nat}, i < hh.next → h2.objs i = hh.objs i := fun hi => k.objs _ hi (fun h => h)
  have kn := k.next
  have := B.gt
  have := B.lt
  refine ⟨fun r hr => ?_, B.none, B.one, by rw [kk B.lt]; exact B.obj, B.gt, by omega, ?_, ?_, by rw [kk (by omega)]; exact B.res, B.keep.go k⟩
  · rcases B.rows r hr with e | ⟨id, e, h1, h2, h3⟩
    · exact Or.inl e
    · exact Or.inr ⟨id, e, h1, by omega, by rw [kk h2]; exact h3⟩
  · rcases B.t1 with e | e | ⟨h1, h2, h3⟩
    · exact Or.inl e
    · exact Or.inr (Or.inl e)
    · exact Or.inr (Or.inr ⟨h1, by omega, by rw [kk h2]; exact h3⟩)
  · rcases B.t2 with e | ⟨h1, h2, h3⟩
    · exact Or.inl e
    · exact Or.inr ⟨h1, by omega, by rw [kk h2]; exact h3⟩
theorem MakeAt.more {h hA hC : AHeap} {sid : Nat} {c : Cd} {A A' : Rw → AV} {i1 k1 i2 k2 j1 l1 j2 l2 : Nat} (B : MakeAt h hA sid c A i1 k1 i2 k2) {r0 : Rw} (h0 : ¬ inB k1 k2 r0) (hin : ∀ r, inB l1 l2 r ↔ inB k1 k2 r ∨ r = r0)
    (hA' : A' = fun r => if r = r0 then .sl hA.next 0 (lenR c r0) 1 else A r) {S : Nat → Prop} (kC : Keeps (hA.push (.row 23 (rowC (fun _ => 0) (lenR c r0)))) hC S) (hS : ∀ x, S x → h.next < x ∧ x < hA.next ∧ ∃ n, hA.objs x = some (.tok 27 n))
    (t1 : l1 = 0 ∨ l1 = (slL c.Threads).length ∨ (h.next < j1 ∧ j1 < hC.next ∧ hC.objs j1 = some (.tok 27 l1))) (t2 : l2 = 0 ∨ (h.next < j2 ∧ j2 < hC.next ∧ hC.objs j2 = some (.tok 27 l2))) :
    MakeAt h (hC.put sid (.row 29 (setP A' j1 l1 j2 l2))) sid c A' j1 l1 j2 l2 := by
  have hsid : sid < hA.next := B.lt
  have hgt := B.gt
  have hnC : hA.next + 1 ≤ hC.next := kC.next
  have old : ∀ {x : Nat} {ty : TypeId} {cs : List AV}, x < hA.next → hA.objs x = some (.row ty cs) → hC.objs x = some (.row ty cs) := by
    intro x ty cs hx ho
    have nS : ¬ S x := fun hs => by
      obtain ⟨_, _, n, hn⟩ := hS x hs
      rw [ho] at hn; simp at hn
    rw [kC.objs x (by simp; omega) nS, push_old hx]; exact ho
  have oS : hC.objs sid = _ := old hsid B.obj
  have new : hC.objs hA.next = some (.row 23 (rowC (fun _ => 0) (lenR c r0))) := by
    have nS : ¬ S hA.next := fun hs => by have := (hS _ hs).2.1; omega
    rw [kC.objs _ (by simp) nS, push_new]
  have ne0 : ∀ {r}, inB k1 k2 r → r ≠ r0 := fun h e => h0 (e ▸ h)
  have aold : ∀ {r}, r ≠ r0 → A' r = A r := fun e => by rw [hA']; simp only; rw [if_neg e]
  have anew : A' r0 = .sl hA.next 0 (lenR c r0) 1 := by rw [hA']; simp
  have rlt : ∀ {r id}, A r = .sl id 0 (lenR c r) 1 → id < hA.next ∧ inB k1 k2 r := by
    intro r id e
    by_cases hr : inB k1 k2 r
    · rcases B.rows r hr with ⟨e2, _⟩ | ⟨id2, e2, _, h2, _⟩
      · rw [e] at e2; cases e2
      · rw [e] at e2; cases e2
        exact ⟨h2, hr⟩
    · have := B.none r hr
      rw [e] at this; cases this
  have nsid : ∀ {x : Nat} {cs : List AV}, x < hA.next → hA.objs x = some (.row 23 cs) → x ≠ sid := by
    rintro x cs _ ho rfl
    rw [B.obj] at ho
    simp at ho
  refine ⟨fun r hr => ?_, fun r hr => ?_, ?_, put_new _ _ _, hgt, by simp; omega, ?_, ?_, ?_, ?_⟩
  · rcases (hin r).1 hr with hr | rfl
    · rcases B.rows r hr with e | ⟨id, e, g1, g2, g3⟩
      · exact Or.inl ⟨by rw [aold (ne0 hr)]; exact e.1, e.2⟩
      · refine Or.inr ⟨id, by rw [aold (ne0 hr)]; exact e, g1, by simp; omega, ?_⟩
        rw [put_old (nsid g2 g3)]
        exact old g2 g3
    · exact Or.inr ⟨hA.next, anew, by omega, by simp; omega, by rw [put_old (by omega)]; exact new⟩
  · have h1 : ¬ inB k1 k2 r := fun h => hr ((hin r).2 (Or.inl h))
    have h2 : r ≠ r0 := fun h => hr ((hin r).2 (Or.inr h))
    rw [aold h2]; exact B.none r h1
  · intro r r' id e e'
    by_cases h1 : r = r0
    · by_cases h2 : r' = r0
      · rw [h1, h2]
      · rw [aold h2] at e'
        rw [h1, anew] at e
        cases e
        have := (rlt e').1
        omega
    · rw [aold h1] at e
      by_cases h2 : r' = r0
      · rw [h2, anew] at e'
        cases e'
        have := (rlt e).1
        omega
      · rw [aold h2] at e'
        exact B.one r r' id e e'
  · rcases t1 with e | e | ⟨g1, g2, g3⟩
    · exact Or.inl e
    · exact Or.inr (Or.inl e)
    · refine Or.inr (Or.inr ⟨g1, by simpa using g2, ?_⟩)
      rw [put_old]
      · exact g3
      · rintro rfl; rw [oS] at g3; simp at g3
  · rcases t2 with e | ⟨g1, g2, g3⟩
    · exact Or.inl e
    · refine Or.inr ⟨g1, by simpa using g2, ?_⟩
      rw [put_old]
      · exact g3
      · rintro rfl; rw [oS] at g3; simp at g3
  · rw [put_old (by omega)]
    exact old (by omega) B.res
  · refine ⟨by have := B.keep.next; simp; omega, fun i hi _ => ?_⟩
    have hi2 := B.keep.next
    rw [put_old (by omega), kC.objs i (by simp; omega) (fun hs => by have := (hS i hs).1; omega), push_old (by omega)]
    exact B.keep.objs i hi (fun h => h)
theorem MakeAt.nil {h hA hC : AHeap} {sid : Nat} {c : Cd} {A : Rw → AV} {i1 k1 i2 k2 j1 l1 j2 l2 : Nat} (B : MakeAt h hA sid c A i1 k1 i2 k2) {r0 : Rw} (hl : lenR c r0 = 0) (h0 : ¬ inB k1 k2 r0) (hin : ∀ r, inB l1 l2 r ↔ inB k1 k2 r ∨ r = r0)
    {S : Nat → Prop} (kC : Keeps hA hC S) (hS : ∀ x, S x → h.next < x ∧ x < hA.next ∧ ∃ n, hA.objs x = some (.tok 27 n))
    (t1 : l1 = 0 ∨ l1 = (slL c.Threads).length ∨ (h.next < j1 ∧ j1 < hC.next ∧ hC.objs j1 = some (.tok 27 l1))) (t2 : l2 = 0 ∨ (h.next < j2 ∧ j2 < hC.next ∧ hC.objs j2 = some (.tok 27 l2))) :
    MakeAt h (hC.put sid (.row 29 (setP A j1 l1 j2 l2))) sid c A j1 l1 j2 l2 := by
  have hsid : sid < hA.next := B.lt
  have hgt := B.gt
  have hnC := kC.next
  have old : ∀ {x : Nat} {ty : TypeId} {cs : List AV}, x < hA.next → hA.objs x = some (.row ty cs) → hC.objs x = some (.row ty cs) := by
    intro x ty cs hx ho
    have nS : ¬ S x := fun hs => by
      obtain ⟨_, _, n, hn⟩ := hS x hs
      rw [ho] at hn; simp at hn
    rw [kC.objs x hx nS]; exact ho
  have oS : hC.objs sid = _ := old hsid B.obj
  have nsid : ∀ {x : Nat} {cs : List AV}, x < hA.next → hA.objs x = some (.row 23 cs) → x ≠ sid := by
    rintro x cs _ ho rfl
    rw [B.obj] at ho
    simp at ho
  refine ⟨fun r hr => ?_, fun r hr => B.none r (fun h => hr ((hin r).2 (Or.inl h))), B.one, put_new _ _ _, hgt, by simp; omega, ?_, ?_, ?_, ?_⟩
  · rcases (hin r).1 hr with hr | rfl
    · rcases B.rows r hr with e | ⟨id, e, g1, g2, g3⟩
      · exact Or.inl e
      · refine Or.inr ⟨id, e, g1, by simp; omega, ?_⟩
        rw [put_old (nsid g2 g3)]
        exact old g2 g3
    · exact Or.inl ⟨B.none _ h0, hl⟩
  · rcases t1 with e | e | ⟨g1, g2, g3⟩
    · exact Or.inl e
    · exact Or.inr (Or.inl e)
    · refine Or.inr (Or.inr ⟨g1, by simpa using g2, ?_⟩)
      rw [put_old]
      · exact g3
      · rintro rfl; rw [oS] at g3; simp at g3
  · rcases t2 with e | ⟨g1, g2, g3⟩
    · exact Or.inl e
    · refine Or.inr ⟨g1, by simpa using g2, ?_⟩
      rw [put_old]
      · exact g3
      · rintro rfl; rw [oS] at g3; simp at g3
  · rw [put_old (by omega)]
    exact old (by omega) B.res
  · refine ⟨by have := B.keep.next; simp; omega, fun i hi _ => ?_⟩
    have hi2 := B.keep.next
    rw [put_old (by omega), kC.objs i (by omega) (fun hs => by have := (hS i hs).1; omega)]
    exact B.keep.objs i hi (fun h => h)
theorem MakeAt.start {h hh : AHeap} {sid : Nat} {c : Cd} {A : Rw → AV} {i1 i2 : Nat} (B : MakeAt h hh sid c A i1 (slL c.Threads).length i2 (slL c.Sites).length) : SetsAt hh c (fun _ _ => 0) A ∧ (∀ r id, A r = .sl id 0 (lenR c r) 1 → h.next < id) := by
  have hin : ∀ r, ¬ inB (slL c.Threads).length (slL c.Sites).length r → lenR c r = 0 := by
    intro r hr
    cases r with
    | g => exact absurd trivial hr
    | s t => simp only [inB] at hr; simp only [lenR, slotsL]; rw [List.getElem?_eq_none (by omega)]; rfl
    | f k => simp only [inB] at hr; exact lenR_f hr
  refine ⟨⟨fun r => ?_, B.one⟩, fun r id e => ?_⟩
  · by_cases hr : inB (slL c.Threads).length (slL c.Sites).length r
    · rcases B.rows r hr with e | ⟨id, e, g1, g2, g3⟩
      · exact Or.inl e
      · exact Or.inr ⟨id, e, g2, g3⟩
    · exact Or.inl ⟨B.none r hr, hin r hr⟩
  · by_cases hr : inB (slL c.Threads).length (slL c.Sites).length r
    · rcases B.rows r hr with ⟨e2, _⟩ | ⟨id2, e2, g1, g2, g3⟩
      · rw [e] at e2; cases e2
      · rw [e] at e2; cases e2
        exact g1
    · have := B.none r hr
      rw [e] at this; cases this
end Go.Proofs.YtopfjochppdnfaaDoor
end

section
/- The document's sets with nothing. -/
set_option maxRecDepth 8000
set_option maxHeartbeats 1000000
namespace Go.Proofs.YtopfjochppdnfaaDoor
open Go.Abs
section
variable (A : Rw → AV) (i1 k1 i2 k2 : Nat) (K : AV → Prop)
end
end Go.Proofs.YtopfjochppdnfaaDoor
end

section
/- What an instruction brings, by the document. -/
set_option maxRecDepth 8000
set_option maxHeartbeats 1000000
namespace Go.Proofs.YtopfjochppdnfaaDoor
open Go.Abs
end Go.Proofs.YtopfjochppdnfaaDoor
end

section
/- The document's round: what lies there; the sets copied. -/
set_option maxRecDepth 8000
set_option maxHeartbeats 1000000
namespace Go.Proofs.YtopfjochppdnfaaDoor
open Go.Abs
structure RV (h hh : AHeap) (oid : Nat) (c : Cd) (σ ρ : Sg) (A B : Rw → AV) (j1 j2 : Nat) : Prop where
  src : SetsAt hh c σ A
  dst : SetsAt hh c ρ B
  obj : hh.objs oid = some (.row 29 (setsC c B j1 j2))
  own : ∀ r id, B r = .sl id 0 (lenR c r) 1 → h.next < id
  old : ∀ r id, A r = .sl id 0 (lenR c r) 1 → id < h.next
  res : hh.objs h.next = some (.row 29 [.nils, .nils, .nils])
  gt : h.next < oid
  lt : oid < hh.next
  keep : Keeps h hh (fun _ => False)
theorem RV.mono {h hh h2 : AHeap} {oid : Nat} {c : Cd} {σ ρ : Sg} {A B : Rw → AV} {j1 j2 : Nat} (R : RV h hh oid c σ ρ A B j1 j2) (k : Keeps hh h2 (fun _ => False)) : RV h h2 oid c σ ρ A B j1 j2 := by
  have h1 := R.gt
  have h3 := R.lt
  exact ⟨R.src.keep k (fun _ _ _ h => h), R.dst.keep k (fun _ _ _ h => h), by rw [k.objs _ R.lt (fun h => h)]; exact R.obj, R.own, R.old, by rw [k.objs _ (by omega) (fun h => h)]; exact R.res, R.gt, Nat.lt_of_lt_of_le R.lt k.next, R.keep.go k⟩
theorem RV.ld {h hh : AHeap} {oid : Nat} {c : Cd} {σ ρ : Sg} {A B : Rw → AV} {j1 j2 : Nat} (R : RV h hh oid c σ ρ A B j1 j2) (off : Nat) (q : Option Nat) (K : AV → Prop) : pLoad q (.ptr oid off) hh K = pCells q (setsC c B j1 j2) off K := pLoad_ptr R.obj q K
theorem RV.put {h hh : AHeap} {oid : Nat} {c : Cd} {σ ρ : Sg} {A B : Rw → AV} {j1 j2 : Nat} (R : RV h hh oid c σ ρ A B j1 j2) {r : Rw} {n id : Nat} (hn : n < lenR c r) (e : B r = .sl id 0 (lenR c r) 1) (v : Nat) :
    (∀ K : AHeap → Prop, pStore 1 (.ptr id n) (.int .u64 (v : Nat)) hh K = K (hh.put id (.row 23 (rowC (fun j => if j = n then v else ρ r j) (lenR c r))))) ∧ RV h (hh.put id (.row 23 (rowC (fun j => if j = n then v else ρ r j) (lenR c r)))) oid c σ (updS ρ r n v) A B j1 j2 := by
  obtain ⟨id2, e2, hid, ho, -, -⟩ := R.dst.ix hn
  obtain rfl : id2 = id := by rw [e] at e2; cases e2; rfl
  have hno : id2 ≠ oid := by
    rintro rfl
    rw [R.obj] at ho; simp at ho
  have hgt := R.own r id2 e
  refine ⟨fun K => by rw [pStore_ptr ho (by rfl) (by rw [rowC_len]; exact hn), rowC_set], ?_, R.dst.put (v := v) hn e, ?_, R.own, R.old, ?_, R.gt, R.lt, R.keep.putNew (by omega) _⟩
  · refine R.src.keep (S := fun i => i = id2) ⟨Nat.le_refl _, fun i _ hi => put_old hi _⟩ (fun q id3 h3 h4 => ?_)
    have := R.old q id3 h3
    omega
  · rw [put_old (Ne.symm hno)]; exact R.obj
  · rw [put_old (by omega)]; exact R.res
end Go.Proofs.YtopfjochppdnfaaDoor
end

section
/- The document's round: the fields copied. -/
set_option maxRecDepth 8000
set_option maxHeartbeats 1000000
namespace Go.Proofs.YtopfjochppdnfaaDoor
open Go.Abs
end Go.Proofs.YtopfjochppdnfaaDoor
end

section
/- The document's round: what an instruction adds, plainly; the fields that a store reaches. -/
set_option maxRecDepth 8000
set_option maxHeartbeats 1000000
namespace Go.Proofs.YtopfjochppdnfaaDoor
open Go.Abs
def stepR (c : Cd) (t : Nat) (x : In) (σ ρ : Sg) : Sg := fun r n => ρ r n ||| contr c t x σ r n
def IsR (c : Cd) (σ ρ : Sg) (done : Nat → Nat → Prop) : Prop := ∀ r n i, (ρ r n).testBit i = true ↔ (σ r n).testBit i = true ∨ ∃ (t : Nat) (b : Bd) (a : Nat) (x : In), (slL c.Threads)[t]? = some b ∧ (slL b.Code)[a]? = some x ∧ done t a ∧ (contr c t x σ r n).testBit i = true
theorem IsR.start (c : Cd) (σ : Sg) : IsR c σ σ (fun _ _ => False) := fun r n i => by simp
theorem IsR.step {c : Cd} {σ ρ : Sg} {done : Nat → Nat → Prop} (R : IsR c σ ρ done) {t a : Nat} {b : Bd} {x : In} (hb : (slL c.Threads)[t]? = some b) (hx : (slL b.Code)[a]? = some x) : IsR c σ (stepR c t x σ ρ) (fun t' a' => done t' a' ∨ (t' = t ∧ a' = a)) := fun r n i => by
  unfold stepR
  rw [Nat.testBit_or, Bool.or_eq_true, R r n i]
  constructor
  · rintro ((h | ⟨t', b', a', x', h1, h2, h3, h4⟩) | h)
    · exact Or.inl h
    · exact Or.inr ⟨t', b', a', x', h1, h2, Or.inl h3, h4⟩
    · exact Or.inr ⟨t, b, a, x, hb, hx, Or.inr ⟨rfl, rfl⟩, h⟩
  · rintro (h | ⟨t', b', a', x', h1, h2, h3 | ⟨rfl, rfl⟩, h4⟩)
    · exact Or.inl (Or.inl h)
    · exact Or.inl (Or.inr ⟨t', b', a', x', h1, h2, h3, h4⟩)
    · rw [hb] at h1; cases h1
      rw [hx] at h2; cases h2
      exact Or.inr h4
theorem IsR.weak {c : Cd} {σ ρ : Sg} {done d2 : Nat → Nat → Prop} (R : IsR c σ ρ done) (h : ∀ (t : Nat) (b : Bd) (a : Nat) (x : In), (slL c.Threads)[t]? = some b → (slL b.Code)[a]? = some x → (done t a ↔ d2 t a)) : IsR c σ ρ d2 := fun r n i => by
  rw [R r n i]
  constructor
  · rintro (e | ⟨t, b, a, x, h1, h2, h3, h4⟩)
    · exact Or.inl e
    · exact Or.inr ⟨t, b, a, x, h1, h2, (h t b a x h1 h2).1 h3, h4⟩
  · rintro (e | ⟨t, b, a, x, h1, h2, h3, h4⟩)
    · exact Or.inl e
    · exact Or.inr ⟨t, b, a, x, h1, h2, (h t b a x h1 h2).2 h3, h4⟩
theorem contr_bd {c : Cd} {σ : Sg} (h : Bd2 c σ) {b : Bd} {x : In} (w : Wf c b x) {t : Nat} {r : Rw} {n i : Nat} (hi : (contr c t x σ r n).testBit i = true) : i < (slL c.Sites).length := by
  rw [contr_bit] at hi
  rcases hi with ⟨_, _, _, hi⟩ | ⟨_, _, _, _, hi⟩ | ⟨_, _, _, _, hi⟩
  · exact brings_bd h w hi
  · exact items_bd h hi
  · exact items_bd h hi
theorem IsR.bd {c : Cd} {σ ρ : Sg} {done : Nat → Nat → Prop} (R : IsR c σ ρ done) (wc : WfC c) (h : Bd2 c σ) : Bd2 c ρ := fun r n i hi => by
  rcases (R r n i).1 hi with e | ⟨t, b, a, x, h1, h2, _, h4⟩
  · exact h _ _ _ e
  · exact contr_bd h (wc.ins t a b x h1 h2) h4
theorem IsR.rg {c : Cd} {σ ρ : Sg} {done : Nat → Nat → Prop} (R : IsR c σ ρ done) (wc : WfC c) (h : Rg c σ) : Rg c ρ := fun r n hn => by
  obtain ⟨i, hi⟩ := ne_zero_bit hn
  rcases (R r n i).1 hi with e | ⟨t, b, a, x, h1, h2, _, h4⟩
  · exact h r n (fun e0 => by rw [e0] at e; simp at e)
  · exact contr_rg h h1 (wc.ins t a b x h1 h2) h4
theorem IsR.le {c : Cd} {σ ρ : Sg} {done : Nat → Nat → Prop} (R : IsR c σ ρ done) : Le σ ρ := fun r n i h => (R r n i).2 (Or.inl h)
theorem IsR.lw {c : Cd} {σ ρ : Sg} {done : Nat → Nat → Prop} (R : IsR c σ ρ done) (h : Lw c σ) : Lw c ρ := fun τ hτ r n i hi => by
  rcases (R r n i).1 hi with e | ⟨t, b, a, x, h1, h2, _, h4⟩
  · exact h τ hτ r n i e
  · exact hτ t b a x h1 h2 r n i (contr_mono (h τ hτ) t x r n i h4)
end Go.Proofs.YtopfjochppdnfaaDoor
end

section
/- The document's round. -/
set_option maxRecDepth 8000
set_option maxHeartbeats 1000000
namespace Go.Proofs.YtopfjochppdnfaaDoor
open Go.Abs
end Go.Proofs.YtopfjochppdnfaaDoor
end

section
/- The least sets, by the document: round by round. -/
set_option maxRecDepth 8000
set_option maxHeartbeats 1000000
namespace Go.Proofs.YtopfjochppdnfaaDoor
open Go.Abs
end Go.Proofs.YtopfjochppdnfaaDoor
end

section
/- The conditions of the functions, computed: each theorem says what suffices for a call's contract, or for a loop's round. -/
set_option maxRecDepth 100000
namespace Go.Proofs.YtopfjochppdnfaaDoor
open Go.Abs
/- padlock/padlocklaw11.PtsLess -/
noncomputable def c_padlocklaw11_PtsLessR : Code := (Tryd.f10.body).getD .skip
noncomputable def g_padlocklaw11_PtsLessR : Cfg := { ch := fun d => List.contains [3, 14, 17, 20, 31, 46, 70, 98, 102, 104, 106, 108, 110, 113] d, lv := fun k => ((List.lookup k ([(8, [1, 2, 3]), (18, [11, 12, 113, 114])] : List (Nat × List Nat))).getD []), cut := fun k => List.contains [8] k, rc := fun i n => ((List.lookup i ([(3, [(15, [1, 2, 3, 38, 47])])] : List (Nat × List (Nat × List Nat)))).getD []).lookup n }
noncomputable def c_padlocklaw11_PtsLessR_18 : Code := (loopOf 18 c_padlocklaw11_PtsLessR).getD .skip
def padlocklaw11_PtsLessR_wp_p1 (R : AV → AHeap → Prop) (fr' : Fr) (v69 : AV) (v73 : AV) (h83 : AHeap) : Prop :=
 true = true ∧ pFieldAddr 2 v73 (later (fun v84 =>
 pLoad none v84 h83 (later (fun v85 =>
 (0 = 0 → ([] : List (Nat × Operand)) = []) ∧ pBuildSl false { e := 58, sz := 8, by_ := 96 } [.int .i64 0, .int .i64 0, .int .i64 0, .int .i64 0, .int .i64 0, .int .i64 0, .nils, .nils] 0 [] h83 (later (fun v86 h87 =>
 pFieldAddr 2 (fr' 3) (later (fun v88 =>
 pLoad none v88 h87 (later (fun v89 =>
 pIndexAddr (.slice 3) v89 (fr' 1) (later (fun v90 =>
 pFieldAddr 1 v90 (later (fun v91 =>
 pLoad none v91 h87 (later (fun v92 =>
 true = true ∧ pAppend false { e := 58, sz := 8, by_ := 96 } v86 v92 h87 (later (fun v93 h94 =>
 (pLoad none v84 h94 (later (fun v95 =>
 v95 = v85 ∧ h94 = h94) ())) ∧ pIndexAddr (.slice 3) v85 (fr' 1) (later (fun v96 =>
 pFieldAddr 1 v96 (later (fun v97 =>
 pStore 1 v97 v93 h94 (later (fun h98 =>
 True ∧ pFieldAddr 2 v73 (later (fun v99 =>
 pLoad none v99 h98 (later (fun v100 =>
 pIndexAddr (.slice 3) v100 (fr' 1) (later (fun v101 =>
 pFieldAddr 1 v101 (later (fun v102 =>
 pLoad none v102 h98 (later (fun v103 =>
 pBuild [(0, 1), (1, 1), (2, 1)] [.int .i64 0, .int .i64 0, .int .u64 0] [(0, .int .i64 1)] (later (fun v104 =>
 (1 = 0 → [(0, Operand.tmp 97)] = []) ∧ pBuildSl true { e := 60, sz := 3, by_ := 24 } [.int .i64 0, .int .i64 0, .int .u64 0] 1 [(0, v104)] h98 (later (fun v105 h106 =>
 pIndexAddr (.slice 8) v103 (fr' 2) (later (fun v107 =>
 pFieldAddr 6 v107 (later (fun v108 =>
 pStore 1 v108 v105 h106 (later (fun h109 =>
 pLoad (some 5) v73 h109 (later (fun v110 =>
 CallsA Tryd.prog 22 [v110] h109 (later (fun v111 h112 =>
 pAlloc 29 [.nils, .nils, .nils] h112 (later (fun v113 h114 =>
 pStore 3 v113 v111 h114 (later (fun h115 =>
 true = true ∧ pLoad (some 3) v69 h115 (later (fun v116 =>
 pLoad (some 3) v113 h115 (later (fun v117 =>
 CallsA Tryd.prog 29 [v116] h115 (later (fun v118 h119 =>
 (pLoad (some 3) v113 h119 (later (fun v120 =>
 v120 = v117 ∧ h119 = h119) ())) ∧ CallsA Tryd.prog 29 [v117] h119 (later (fun v121 h122 =>
 True ∧ pLen .slice v118 (later (fun v123 =>
 pLen .slice v121 (later (fun v124 =>
 obind (binA .other .neq v123 v124) (later (fun v125 =>
 pCond v125 (R (.bool false) h122) (pLen .slice v118 (later (fun v126 =>
 WP Tryd.prog 128 (Code.loop c_padlocklaw11_PtsLessR_18) (frOf [(11, v118), (12, v121), (113, v126), (114, .int .i64 0)]) h122 (exitQ (later (fun fr127 h128 =>
 False) ()) (later (fun x129 fr130 h131 =>
 pIdx x129 0 (pIdx 0 0 (R (.bool true) h131) False) False) ()) (later (fun fr132 h133 =>
 R (fr132 6) h133) ()))) ()))) ())) ())) ())) ())) ())) ())) ())) ())) ())) ())) ())) ())) ())) ())) ())) ())) ())) ())) ())) ())) ())) ())) ())) ())) ())) ())) ())) ())) ())) ())) ())) ())) ())
theorem padlocklaw11_PtsLessR_wp (a0 a1 a2 : AV) (h : AHeap) (R : AV → AHeap → Prop) (H :
 pBox true 44 a0 h (later (fun v1 h2 =>
 CallsA Tryd.prog 19 [] h2 (later (fun v3 h4 =>
 obind (unA .not v3) (later (fun v5 =>
 pCond v5 (R (.bool false) h4) (pLoad (some 5) v1 h4 (later (fun v6 =>
 CallsA Tryd.prog 20 [v6] h4 (later (fun v7 h8 =>
 pJoin (later (fun x9 =>
 pGuard v7 false (pLoad (some 5) v1 h8 (later (fun v10 =>
 CallsA Tryd.prog 24 [v10] h8 (later (fun v11 h12 =>
 obind (unA .not v11) (later (fun v13 =>
 x9 [v10, v11, v13] h12) ())) ())) ())) (x9 [.tup [], .tup [], .tup []] h8)) ()) (later (fun x14 h15 =>
 pPick v7 (.bool true) (nth x14 2) (later (fun v16 =>
 pJoin (later (fun x17 =>
 pGuard v16 false (obind (binA .other .lss a1 (.int .i64 0)) (later (fun v18 =>
 x17 [a1, v18] h15) ())) (x17 [.tup [], .tup []] h15)) ()) (later (fun x19 h20 =>
 pPick v16 (.bool true) (nth x19 1) (later (fun v21 =>
 pJoin (later (fun x22 =>
 pGuard v21 false (pFieldAddr 2 v1 (later (fun v23 =>
 pLoad none v23 h20 (later (fun v24 =>
 pLen .slice v24 (later (fun v25 =>
 obind (binA .other .geq a1 v25) (later (fun v26 =>
 x22 [a1, v23, v24, v25, v26] h20) ())) ())) ())) ())) (x22 [.tup [], .tup [], .tup [], .tup [], .tup []] h20)) ()) (later (fun x27 h28 =>
 pPick v21 (.bool true) (nth x27 4) (later (fun v29 =>
 pJoin (later (fun x30 =>
 pGuard v29 false (obind (binA .other .lss a2 (.int .i64 0)) (later (fun v31 =>
 x30 [a2, v31] h28) ())) (x30 [.tup [], .tup []] h28)) ()) (later (fun x32 h33 =>
 pPick v29 (.bool true) (nth x32 1) (later (fun v34 =>
 pJoin (later (fun x35 =>
 pGuard v34 false (pFieldAddr 2 v1 (later (fun v36 =>
 pLoad none v36 h33 (later (fun v37 =>
 pIndexAddr (.slice 3) v37 a1 (later (fun v38 =>
 pFieldAddr 1 v38 (later (fun v39 =>
 pLoad none v39 h33 (later (fun v40 =>
 pLen .slice v40 (later (fun v41 =>
 obind (binA .other .geq a2 v41) (later (fun v42 =>
 x35 [a2, v36, v37, a1, v38, v39, v40, v41, v42] h33) ())) ())) ())) ())) ())) ())) ())) (x35 [.tup [], .tup [], .tup [], .tup [], .tup [], .tup [], .tup [], .tup [], .tup []] h33)) ()) (later (fun x43 h44 =>
 pChunk [a1, a2, v1, v34, nth x43 8] (later (fun x45 =>
 pPick (nth x45 3) (.bool true) (nth x45 4) (later (fun v46 =>
 pCond v46 (R (.bool true) h44) (Cut (later (fun J =>
 pFieldAddr 2 (nth x45 2) (later (fun v47 =>
 pLoad none v47 h44 (later (fun v48 =>
 pIndexAddr (.slice 3) v48 (nth x45 0) (later (fun v49 =>
 pFieldAddr 1 v49 (later (fun v50 =>
 pLoad none v50 h44 (later (fun v51 =>
 pIndexAddr (.slice 8) v51 (nth x45 1) (later (fun v52 =>
 pFieldAddr 0 v52 (later (fun v53 =>
 pLoad none v53 h44 (later (fun v54 =>
 obind (binA .other .neq v54 (.int .i64 1)) (later (fun v55 =>
 pJoin (later (fun x56 =>
 pGuard v55 true (obind (binA .other .neq v54 (.int .i64 5)) (later (fun v57 =>
 x56 [v54, v57] h44) ())) (x56 [.tup [], .tup []] h44)) ()) (later (fun x58 h59 =>
 pPick v55 (nth x58 1) (.bool false) (later (fun v60 =>
 pJoin (later (fun x61 =>
 pGuard v60 true (obind (binA .other .neq v54 (.int .i64 6)) (later (fun v62 =>
 x61 [v54, v62] h59) ())) (x61 [.tup [], .tup []] h59)) ()) (later (fun x63 h64 =>
 pPick v60 (nth x63 1) (.bool false) (later (fun v65 =>
 pCond v65 (R (.bool true) h64) (J (frOf [(1, nth x45 0), (2, nth x45 1), (3, nth x45 2)]) h64)) ())) ())) ())) ())) ())) ())) ())) ())) ())) ())) ())) ())) ())) ()) (later (fun fr' h' =>
 pLoad (some 5) (fr' 3) h' (later (fun v66 =>
 CallsA Tryd.prog 22 [v66] h' (later (fun v67 h68 =>
 pAlloc 29 [.nils, .nils, .nils] h68 (later (fun v69 h70 =>
 pStore 3 v69 v67 h70 (later (fun h71 =>
 pLoad (some 5) (fr' 3) h71 (later (fun v72 =>
 pAlloc 44 [.nils, .nils, .nils, .nils, .nils] h71 (later (fun v73 h74 =>
 pStore 5 v73 v72 h74 (later (fun h75 =>
 (0 = 0 → ([] : List (Nat × Operand)) = []) ∧ pBuildSl false { e := 51, sz := 3, by_ := 56 } [.nils, .nils, .int .i64 0] 0 [] h75 (later (fun v76 h77 =>
 pFieldAddr 2 (fr' 3) (later (fun v78 =>
 pLoad none v78 h77 (later (fun v79 =>
 true = true ∧ pAppend false { e := 51, sz := 3, by_ := 56 } v76 v79 h77 (later (fun v80 h81 =>
 pFieldAddr 2 v73 (later (fun v82 =>
 pStore 1 v82 v80 h81 (later (fun h83 =>
 padlocklaw11_PtsLessR_wp_p1 R fr' v69 v73 h83) ())) ())) ())) ())) ())) ())) ())) ())) ())) ())) ())) ())) ())) ()))) ())) ())) ())) ())) ())) ())) ())) ())) ())) ())) ())) ())) ()))) ())) ())) ())) : CallsA Tryd.prog 10 [a0, a1, a2] h R :=
 CallsA_intro g_padlocklaw11_PtsLessR mixed_ Tryd.func10 (show Tryd.f10.body = some c_padlocklaw11_PtsLessR by kernel_rfl) Tryd.ntmps10 (by kernel_rfl) (Nat.le_of_ble_eq_true rfl) Tryd.call10 (Eq.mpr (by kernel_rfl) H)
theorem padlocklaw11_PtsLessR_loop18 (s11 s12 s113 s114 : AV) (h : AHeap) (Q : AExit → Fr → AHeap → Prop) (H :
 obind (binA .other .lss s114 s113) (later (fun v1 =>
 pCond v1 (true = true ∧ pIndexAddr (.slice 1) s12 s114 (later (fun v2 =>
 pLoad none v2 h (later (fun v3 =>
 pIndexAddr (.slice 1) s11 s114 (later (fun v4 =>
 pLoad none v4 h (later (fun v5 =>
 obind (binA .other .andNot v3 v5) (later (fun v6 =>
 obind (binA .other .neq v6 (.int .u64 0)) (later (fun v7 =>
 pCond v7 (Q .ret (frOf [(6, .bool false)]) h) (obind (binA .other .add s114 (.int .i64 1)) (later (fun v8 =>
 Q .normal (frOf [(11, s11), (12, s12), (113, s113), (114, v8)]) h) ()))) ())) ())) ())) ())) ())) ())) (Q (.exit 0) (frOf []) h)) ())) : WP Tryd.prog 128 c_padlocklaw11_PtsLessR_18 (frOf [(11, s11), (12, s12), (113, s113), (114, s114)]) h Q :=
 WP_body g_padlocklaw11_PtsLessR [0] [11, 12, 113, 114] [] [6] mixed_ (by kernel_rfl) (Eq.mpr (by kernel_rfl) H)
end Go.Proofs.YtopfjochppdnfaaDoor
end

section
/- One's own row, wherever it stands within arguments, becomes read-only from a call on. -/
namespace Go.Abs
open Go.RowKit
def Fz (id n sz : Nat) (es : List (List AV)) (c c' : Ctx) (w : World) : Prop := (∀ v, VRel c w (.sl id 0 n sz) v → VRel c' w (.isl sz es) v) ∧ ∃ B, Ext B c w c' w
def FzV (id n sz : Nat) (es : List (List AV)) (a b : AV) : Prop := ∀ c c' w, Fz id n sz es c c' w → ∀ v, VRel c w a v → VRel c' w b v
def FzL (id n sz : Nat) (es : List (List AV)) (xs bs : List AV) : Prop := ∀ c c' w, Fz id n sz es c c' w → ∀ vs, LRel c w xs vs → LRel c' w bs vs
def FzM (id n sz : Nat) (es : List (List AV)) (xs bs : List AV) : Prop := xs.length = bs.length ∧ ∀ c c' w, Fz id n sz es c c' w → ∀ b off, MRel c w xs b off → MRel c' w bs b off
def FzE (id n sz : Nat) (es : List (List AV)) (k : Nat) (xs bs : List (List AV)) : Prop := xs.length = bs.length ∧ ∀ c c' w, Fz id n sz es c c' w → ∀ b off, ERel c w k xs b off → ERel c' w k bs b off
section
variable {id n sz : Nat} {es : List (List AV)}
theorem FzV.here : FzV id n sz es (.sl id 0 n sz) (.isl sz es) := fun c c' w F v h => F.1 v h
theorem FzV.same (a : AV) : FzV id n sz es a a := fun c c' w F v h => by obtain ⟨_, B, E⟩ := F; exact VRel.mono E h
theorem FzL.nil : FzL id n sz es [] [] := fun c c' w F vs h => by simpa [LRel] using h
theorem FzL.cons {a b : AV} {xs bs : List AV} (h1 : FzV id n sz es a b) (h2 : FzL id n sz es xs bs) : FzL id n sz es (a :: xs) (b :: bs) := fun c c' w F vs h => by
  simp only [LRel] at h ⊢
  obtain ⟨v, vs', e, hv, hl⟩ := h
  exact ⟨v, vs', e, h1 c c' w F v hv, h2 c c' w F vs' hl⟩
theorem FzL.same (xs : List AV) : FzL id n sz es xs xs := fun c c' w F vs h => by obtain ⟨_, B, E⟩ := F; exact LRel.mono E h
theorem FzM.nil : FzM id n sz es [] [] := ⟨rfl, fun c c' w F b off h => by simp [MRel]⟩
theorem FzM.cons {a b : AV} {xs bs : List AV} (h1 : FzV id n sz es a b) (h2 : FzM id n sz es xs bs) : FzM id n sz es (a :: xs) (b :: bs) := ⟨by simp [h2.1], fun c c' w F k off h => by
  have F' := F
  obtain ⟨_, B, E⟩ := F'
  simp only [MRel] at h ⊢
  obtain ⟨hi, ⟨u, hu, ho, hv⟩, hm⟩ := h
  exact ⟨E.im _ _ hi, ⟨u, hu, ho, h1 c c' w F u hv⟩, h2.2 c c' w F k _ hm⟩⟩
theorem FzM.same (xs : List AV) : FzM id n sz es xs xs := ⟨rfl, fun c c' w F b off h => by obtain ⟨_, B, E⟩ := F; exact MRel.mono E h⟩
theorem FzE.nil (k : Nat) : FzE id n sz es k [] [] := ⟨rfl, fun c c' w F b off h => by simp [ERel]⟩
theorem FzE.cons {k : Nat} {a b : List AV} {xs bs : List (List AV)} (h1 : FzM id n sz es a b) (h2 : FzE id n sz es k xs bs) : FzE id n sz es k (a :: xs) (b :: bs) := ⟨by simp [h2.1], fun c c' w F o off h => by
  simp only [ERel] at h ⊢
  exact ⟨h1.1 ▸ h.1, h1.2 c c' w F o off h.2.1, h2.2 c c' w F o _ h.2.2⟩⟩
theorem FzE.same (k : Nat) (xs : List (List AV)) : FzE id n sz es k xs xs := ⟨rfl, fun c c' w F b off h => by obtain ⟨_, B, E⟩ := F; exact ERel.mono E h⟩
theorem FzV.isl {k : Nat} {xs bs : List (List AV)} (h : FzE id n sz es k xs bs) : FzV id n sz es (.isl k xs) (.isl k bs) := fun c c' w F v hv => by
  simp only [VRel] at hv ⊢
  obtain ⟨a, cap, e1, e2, e3, e4⟩ := hv
  refine ⟨a, cap, by rw [← h.1]; exact e1, by rw [← h.1]; exact e2, by rw [← h.1]; exact e3, fun hne => ?_⟩
  obtain ⟨b, off, e5, e6⟩ := e4 (fun e0 => hne (List.length_eq_zero_iff.1 (by rw [← h.1, e0]; rfl)))
  exact ⟨b, off, e5, h.2 c c' w F b off e6⟩
theorem FzV.agg {xs bs : List AV} (h : FzL id n sz es xs bs) : FzV id n sz es (.agg xs) (.agg bs) := fun c c' w F v hv => by
  simp only [VRel] at hv ⊢
  obtain ⟨vs, e1, e2, e3⟩ := hv
  exact ⟨vs, e1, h c c' w F _ e2, e3⟩
end
theorem freeze_any {B : Nat} {c : Ctx} {h : AHeap} {w : World} {id n sz : Nat} {ty : TypeId} {cs xs bs : List AV} {vs : List Value} (ho : h.objs id = some (.row ty cs)) (hn : n * sz ≤ cs.length) (hm : n ≤ 1000000) (hab : FzL id n sz (chunk sz n cs) xs bs) (W : WRel B c h w) (L : LRel c w xs vs) :
    ∃ c', Ext B c w c' w ∧ WRel B c' (h.kill id) w ∧ LRel c' w bs vs := by
  cases hcm : c.m id with
  | none =>
    refine ⟨c, Ext.refl _ _ _, W.kill id, hab c c w ⟨fun v hv => ?_, B, Ext.refl _ _ _⟩ vs L⟩
    simp only [VRel] at hv
    obtain ⟨b, _, _, hb, _⟩ := hv
    rw [hcm] at hb; cases hb
  | some b =>
    have W1 := W.kill id
    obtain ⟨E, W2⟩ := W1.freeze (fun k _ => k = b) (by rintro k x rfl; exact (W.mlt id _ hcm).2.2) (by
      rintro k x rfl i o hi hio
      simp only [AHeap.kill_objs] at hio
      split at hio
      · cases hio
      · rename_i hne
        exact absurd (W.inj i id _ hi hcm (by rw [hio]; simp) (by rw [ho]; simp)) hne)
    refine ⟨_, E, W2, hab c _ w ⟨fun v hv => ?_, B, E⟩ vs L⟩
    simp only [VRel] at hv ⊢
    obtain ⟨b', cap, ty', hb, rfl, hc1, hc2, -⟩ := hv
    rw [hcm] at hb; cases hb
    have hcl : (chunk sz n cs).length = n := chunk_length sz n cs
    refine ⟨some ⟨b, 0, none⟩, cap, by rw [hcl], by rw [hcl]; exact hc1, by rw [hcl]; omega, fun _ => ⟨b, 0, rfl, ?_⟩⟩
    refine erel_chunk n cs 0 hn (MRel.ofFn fun i a hi => ⟨Or.inr rfl, ?_⟩)
    obtain ⟨u, hu, hone, hr⟩ := W.row_get hcm ho hi
    exact ⟨u, by rw [Nat.zero_add]; exact hu, hone, VRel.mono E hr⟩
theorem CallsA.freezeAny {P : Program} {f : FuncId} {xs bs : List AV} {h : AHeap} {R : AV → AHeap → Prop} {id n sz : Nat} {ty : TypeId} {cs : List AV} (ho : h.objs id = some (.row ty cs)) (hn : n * sz ≤ cs.length) (hm : n ≤ 1000000) (hab : FzL id n sz (chunk sz n cs) xs bs) (H : CallsA P f bs (h.kill id) R) : CallsA P f xs h R := by
  rcases H with H | H
  · refine Or.inl ⟨H.1, fun B c w vs W L => ?_⟩
    obtain ⟨c', E, W', L'⟩ := freeze_any ho hn hm hab W L
    refine (H.2 B c' w vs W' L').mono fun e w' ⟨c2, u, v, h', h1, E2, h3, h4, h5⟩ => ⟨c2, u, v, h', h1, E.trans E2, h3, h4, h5⟩
  · refine Or.inr fun B c w vs W L => ?_
    obtain ⟨c', E, W', L'⟩ := freeze_any ho hn hm hab W L
    obtain ⟨c2, u, v, h', w', h1, E2, h3, h4, h5⟩ := H B c' w vs W' L'
    exact ⟨c2, u, v, h', w', h1, E.trans E2, h3, h4, h5⟩
end Go.Abs
end

