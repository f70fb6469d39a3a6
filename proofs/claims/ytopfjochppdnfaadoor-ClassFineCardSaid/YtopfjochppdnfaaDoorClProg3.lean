/- All sets, and the classes that the program finds. -/
import Derived.Test.YtopfjochppdnfaaDoorClProg2
set_option linter.unusedVariables false
set_option linter.unusedSimpArgs false
set_option maxRecDepth 100000
set_option maxHeartbeats 1000000
namespace Go.Proofs.YtopfjochppdnfaaDoor
open Go.Abs

abbrev St := Api_Sets
def rowsOf (s : St) : List (Option (List Nat)) := s.Globals :: (slL s.Slots ++ slL s.Fields)
def setsIn (l : List (Option (List Nat))) : List Nat := l.flatMap slL
def setsOf (s : St) : List Nat := setsIn (rowsOf s)
def rowsAV (l : List (Option (List Nat))) : List AV := l.map fun o => slAV 1 encN o
theorem wk1 (k : Nat) (hk : k ≤ 1000000) : IntKind.i64.wrap ((k : Int) + 1) = ((k + 1 : Nat) : Int) := by rw [wrapI (by omega) (by omega)]; omega

theorem bsl1 {e : TypeId} {by_ : Nat} {z v : AV} (hv : v.leafy = true) (h : AHeap) (K : AV → AHeap → Prop) : pBuildSl false { e := e, sz := 1, by_ := by_ } [z] 1 [(0, v)] h K = K (.sl h.next 0 1 1) (h.push (.row e [v])) := by
  have hc : v.cells = [v] := by cases v <;> simp_all [AV.cells, AV.leafy]
  have hf : v.fits = true := by cases v <;> simp_all [AV.fits, AV.leafy]
  simp [pBuildSl, fillE, hc, hf]
theorem slAV_leafy (o : Option (List Nat)) : (slAV 1 encN o).leafy = true := by cases o <;> rfl
theorem flat_rows (l : List (Option (List Nat))) : (l.map fun o => [slAV 1 encN o]).flatten = rowsAV l := by
  induction l with
  | nil => rfl
  | cons a l ih => simp only [List.map_cons, List.flatten_cons, ih, rowsAV, List.singleton_append]
theorem rowsAV_len (l : List (Option (List Nat))) : (rowsAV l).length = l.length := by simp [rowsAV]
/-- Rows behind one's own rows. -/
theorem app_rows {gr : Bool} {T : TypeId} {h : AHeap} {id : Nat} {l : List (Option (List Nat))} {o : Option (List (Option (List Nat)))} (ho : h.objs id = some (.row T (rowsAV l))) (hb : l.length + (slL o).length ≤ 1000000) (K : AV → AHeap → Prop) :
    pAppend gr { e := T, sz := 1, by_ := 24 } (.sl id 0 l.length 1) (slAV 1 (fun o => [slAV 1 encN o]) o) h K = K (.sl h.next 0 (l ++ slL o).length 1) ((h.kill id).push (.row T (rowsAV (l ++ slL o)))) := by
  unfold pAppend
  rw [srcElems_slAV]
  simp only [ho]
  have e1 : (rowsAV l).take (l.length * 1) = rowsAV l := by rw [Nat.mul_one, ← rowsAV_len l, List.take_length]
  have e2 : rowsAV l ++ rowsAV (slL o) = rowsAV (l ++ slL o) := by simp [rowsAV]
  rw [flat_rows, e1, e2, List.length_map, List.length_append, Nat.mul_one]
  apply propext
  constructor
  · rintro ⟨-, -, -, -, hk⟩; exact hk
  · intro hk; exact ⟨trivial, trivial, by rw [rowsAV_len]; exact Nat.le_refl _, by simp [bounded, maxLen]; omega, hk⟩

theorem all_does (s : St) (hs : (slL s.Slots).length ≤ 100000) (hf : (slL s.Fields).length ≤ 100000) (h : AHeap) : CallsA Tryd.prog 30 [.agg s.cells] h (fun v h2 => ∃ id, v = .sl id 0 (rowsOf s).length 1 ∧ h2.objs id = some (.row 27 (rowsAV (rowsOf s))) ∧ h.next ≤ id ∧ id < h2.next ∧ Keeps h h2 (fun _ => False)) := by
  apply class_all_wp
  (repeat (first | simp -dsimp -implicitDefEqProofs (disch := omega) only [↓gp0, ↓gp1, ↓gp2, gq0, gq1, gq2, gq3, gq4, gq5, gq6, gq7, gq8, gq9, go0, go1, gl0, gl1, gl2, gl3, ↓reduceIte, Nat.reduceEqDiff, Nat.reduceAdd, Nat.reduceLeDiff, pBuild, fillA, ↓Api_Sets.r] | refine Cut.go ?_))
  rw [bsl1 (slAV_leafy _)]
  (repeat (first | simp -dsimp -implicitDefEqProofs (disch := omega) only [↓gp0, ↓gp1, ↓gp2, gq0, gq1, gq2, gq3, gq4, gq5, gq6, gq7, gq8, gq9, go0, go1, gl0, gl1, gl2, gl3, ↓reduceIte, Nat.reduceEqDiff, Nat.reduceAdd, Nat.reduceLeDiff, pBuild, fillA, ↓Api_Sets.r] | refine Cut.go ?_))
  have e0 : [slAV 1 encN s.Globals] = rowsAV [s.Globals] := rfl
  rw [e0]
  refine Eq.mpr (app_rows (l := [s.Globals]) (push_new _ _) (by simp; omega) _) ?_
  (repeat (first | simp -dsimp -implicitDefEqProofs (disch := omega) only [↓gp0, ↓gp1, ↓gp2, gq0, gq1, gq2, gq3, gq4, gq5, gq6, gq7, gq8, gq9, go0, go1, gl0, gl1, gl2, gl3, ↓reduceIte, Nat.reduceEqDiff, Nat.reduceAdd, Nat.reduceLeDiff, pBuild, fillA, ↓Api_Sets.r] | refine Cut.go ?_))
  refine Eq.mpr (app_rows (push_new _ _) (by simp; omega) _) ?_
  (repeat (first | simp -dsimp -implicitDefEqProofs (disch := omega) only [↓gp0, ↓gp1, ↓gp2, gq0, gq1, gq2, gq3, gq4, gq5, gq6, gq7, gq8, gq9, go0, go1, gl0, gl1, gl2, gl3, ↓reduceIte, Nat.reduceEqDiff, Nat.reduceAdd, Nat.reduceLeDiff, pBuild, fillA, ↓Api_Sets.r] | refine Cut.go ?_))
  refine ⟨_, ?_, push_new _ _, by simp; omega, by simp, ?_⟩
  · simp [rowsOf, Nat.add_comm, Nat.add_left_comm]
  · refine ((((Keeps.one _ _).killNew (Nat.le_refl _)).pushS _).killNew ?_).pushS _
    simp

theorem mk_ns (n : Nat) (hn : n ≤ 1000000) (T : TypeId) (h : AHeap) (K : AV → AHeap → Prop) : pMakeSl { e := T, sz := 1, by_ := 8 } [.int .i64 0] (.int .i64 (n : Int)) (.int .i64 (n : Int)) h K = K (.sl h.next 0 n 1) (h.push (.row T (nsAV (List.replicate n 0)))) := by
  have e : repC n [AV.int .i64 0] = nsAV (List.replicate n 0) := by simp [repC, nsAV]
  simp only [pMakeSl, Int.toNat_natCast, e]
  apply propext
  constructor
  · rintro ⟨-, -, -, -, -, hk⟩; exact hk
  · intro hk; exact ⟨by omega, by omega, by omega, by omega, rfl, hk⟩

theorem prs_snoc (l : List Nat) (x : Nat) : prsOf (l ++ [x]) = prsOf l ++ (bitsOf x).map fun k => (firstB x, k) := by
  simp [prsOf]
theorem setsIn_snoc (l : List (Option (List Nat))) (o : Option (List Nat)) : setsIn (l ++ [o]) = setsIn l ++ slL o := by
  simp [setsIn]

/-- The classes that the program finds. -/
def IsCls (n : Nat) (S : List Nat) (out : List Nat) : Prop := ∃ f, Says f (prsOf S) ∧ f.length = n ∧ out = (List.range n).map (clsOf f)

theorem split_row {fid m : Nat} (hm : m ≤ 1000) {o : Option (List Nat)} (ho : (slL o).length ≤ 100000) (hx : ∀ x ∈ slL o, x < 18446744073709551616 ∧ ∀ k ∈ bitsOf x, k < m) {L0 : List Nat} {f : List Nat} (hs : Says f (prsOf L0)) (hfl : f.length = m) {h0 : AHeap} (hfid : fid < h0.next) (hob : h0.objs fid = some (.row 3 (nsAV f))) (A29 A30 A31 : AV) (Q : AExit → Fr → AHeap → Prop)
    (hQ : ∀ h2 g, h2.objs fid = some (.row 3 (nsAV g)) → Says g (prsOf (L0 ++ slL o)) → g.length = m → Keeps h0 h2 (fun i => i = fid) → Q (.exit 4) (frOf [(5, .sl fid 0 m 1), (29, A29), (30, A30), (31, A31)]) h2) :
    WP Tryd.prog 75 (.loop c_class_Split_11) (frOf [(5, .sl fid 0 m 1), (29, A29), (30, A30), (31, A31), (35, slAV 1 encN o), (36, .int .i64 (slL o).length), (37, .int .i64 0)]) h0 Q := by
  obtain ⟨I, hI⟩ : ∃ I : Nat → Fr → AHeap → Prop, I = (fun r fr hh => ∃ (j : Nat) (g : List Nat), r = (slL o).length - j ∧ j ≤ (slL o).length ∧ hh.objs fid = some (.row 3 (nsAV g)) ∧ Says g (prsOf (L0 ++ (slL o).take j)) ∧ g.length = m ∧ Keeps h0 hh (fun i => i = fid) ∧ fr = frOf [(5, .sl fid 0 m 1), (29, A29), (30, A30), (31, A31), (35, slAV 1 encN o), (36, .int .i64 (slL o).length), (37, .int .i64 j)]) := ⟨_, rfl⟩
  refine WP_loop mixed_ (by kernel_rfl) I (slL o).length (by rw [hI]; exact ⟨0, f, rfl, Nat.zero_le _, hob, by simpa using hs, hfl, Keeps.refl _ _, rfl⟩) ?_
  intro r fr hh hi
  rw [hI] at hi
  obtain ⟨j, g, rfl, hj, ho1, hsy, hgl, kp, rfl⟩ := hi
  apply class_Split_loop11
  (repeat (first | simp -dsimp -implicitDefEqProofs (disch := omega) only [↓gp0, ↓gp1, ↓gp2, gq0, gq1, gq2, gq3, gq4, gq5, gq6, gq7, gq8, gq9, go0, go1, gl0, gl1, gl2, gl3, ↓reduceIte, Nat.reduceEqDiff, Nat.reduceAdd, Nat.reduceLeDiff, pBuild, fillA, ↓Api_Sets.r] | refine Cut.go ?_))
  refine Split_lt (fun hjl => ?_) (fun hjl => ?_)
  · obtain ⟨x, hxj⟩ : ∃ x, (slL o)[j]? = some x := ⟨_, List.getElem?_eq_getElem (by omega)⟩
    obtain ⟨hx1, hx2⟩ := hx x (List.mem_of_getElem? hxj)
    have ld : ∀ (H : AHeap) (K : AV → Prop), pLoad none (.iptr (encN x)) H K = K (.int .u64 (x : Nat)) := fun H K => by rw [pLoad_iptr]; simp [pCells, encN]
    (repeat (first | simp -dsimp -implicitDefEqProofs (disch := omega) only [↓gp0, ↓gp1, ↓gp2, gq0, gq1, gq2, gq3, gq4, gq5, gq6, gq7, gq8, gq9, go0, go1, gl0, gl1, gl2, gl3, ↓reduceIte, Nat.reduceEqDiff, Nat.reduceAdd, Nat.reduceLeDiff, pBuild, fillA, ↓Api_Sets.r, pIndexAddr_slAV hxj, ld] | refine Cut.go ?_))
    have hn := kp.next
    refine Eq.mpr (by rw [← hgl]) ((join_does hsy hx1 (fun k hk => by rw [hgl]; exact hx2 k hk) (by omega) (show fid < hh.next by omega) ho1).mono ?_)
    rintro v h2 ⟨g', q1, q2, q3, q4⟩
    (repeat (first | simp -dsimp -implicitDefEqProofs (disch := omega) only [↓gp0, ↓gp1, ↓gp2, gq0, gq1, gq2, gq3, gq4, gq5, gq6, gq7, gq8, gq9, go0, go1, gl0, gl1, gl2, gl3, ↓reduceIte, Nat.reduceEqDiff, Nat.reduceAdd, Nat.reduceLeDiff, pBuild, fillA, ↓Api_Sets.r, wk1 j (by omega)] | refine Cut.go ?_))
    rw [loopPost_normal, hI]
    refine ⟨(slL o).length - (j + 1), by omega, j + 1, g', rfl, by omega, q1, ?_, by omega, kp.trans q2 (fun _ _ e => e), by rw [hgl]⟩
    rw [List.take_add_one, hxj, ← List.append_assoc]
    exact (prs_snoc _ _) ▸ q3
  · (repeat (first | simp -dsimp -implicitDefEqProofs (disch := omega) only [↓gp0, ↓gp1, ↓gp2, gq0, gq1, gq2, gq3, gq4, gq5, gq6, gq7, gq8, gq9, go0, go1, gl0, gl1, gl2, gl3, ↓reduceIte, Nat.reduceEqDiff, Nat.reduceAdd, Nat.reduceLeDiff, pBuild, fillA, ↓Api_Sets.r] | refine Cut.go ?_))
    have e : j = (slL o).length := by omega
    subst e
    rw [List.take_length] at hsy
    exact hQ hh g ho1 hsy hgl kp

theorem split_does (n : Int) (s : St) (hn : n ≤ 1000) (hs : (slL s.Slots).length ≤ 100000) (hf : (slL s.Fields).length ≤ 100000) (hl : ∀ o ∈ rowsOf s, (slL o).length ≤ 100000) (hx : ∀ x ∈ setsOf s, x < 18446744073709551616 ∧ ∀ k ∈ bitsOf x, k < n.toNat) (h : AHeap) :
    CallsA Tryd.prog 13 [.int .i64 n, .agg s.cells] h (fun v h2 => ∃ id out, v = .sl id 0 out.length 1 ∧ h2.objs id = some (.row 3 (nsAV out)) ∧ h.next ≤ id ∧ id < h2.next ∧ Keeps h h2 (fun _ => False) ∧ IsCls n.toNat (setsOf s) out) := by
  obtain ⟨m, hm⟩ : ∃ m, m = n.toNat := ⟨_, rfl⟩
  have hmx : max n 0 = ((m : Nat) : Int) := by omega
  rw [← hm] at hx ⊢
  apply class_Split_wp
  (repeat (first | simp -dsimp -implicitDefEqProofs (disch := omega) only [↓gp0, ↓gp1, ↓gp2, gq0, gq1, gq2, gq3, gq4, gq5, gq6, gq7, gq8, gq9, go0, go1, gl0, gl1, gl2, gl3, ↓reduceIte, Nat.reduceEqDiff, Nat.reduceAdd, Nat.reduceLeDiff, pBuild, fillA, ↓Api_Sets.r] | refine Cut.go ?_))
  rw [maxA_two, hmx]
  (repeat (first | simp -dsimp -implicitDefEqProofs (disch := omega) only [↓gp0, ↓gp1, ↓gp2, gq0, gq1, gq2, gq3, gq4, gq5, gq6, gq7, gq8, gq9, go0, go1, gl0, gl1, gl2, gl3, ↓reduceIte, Nat.reduceEqDiff, Nat.reduceAdd, Nat.reduceLeDiff, pBuild, fillA, ↓Api_Sets.r] | refine Cut.go ?_))
  rw [mk_ns m (by omega)]
  (repeat (first | simp -dsimp -implicitDefEqProofs (disch := omega) only [↓gp0, ↓gp1, ↓gp2, gq0, gq1, gq2, gq3, gq4, gq5, gq6, gq7, gq8, gq9, go0, go1, gl0, gl1, gl2, gl3, ↓reduceIte, Nat.reduceEqDiff, Nat.reduceAdd, Nat.reduceLeDiff, pBuild, fillA, ↓Api_Sets.r] | refine Cut.go ?_))
  -- each site by itself
  obtain ⟨I, hI⟩ : ∃ I : Nat → Fr → AHeap → Prop, I = (fun r fr hh => ∃ (k : Nat) (g : List Nat), r = m - k ∧ k ≤ m ∧ g.length = m ∧ g.take k = List.range k ∧ hh.objs h.next = some (.row 3 (nsAV g)) ∧ hh.next = h.next + 1 ∧ Keeps h hh (fun _ => False) ∧ fr = frOf [(3, .iptr s.cells), (5, .sl h.next 0 m 1), (19, .int .i64 m), (20, .int .i64 k)]) := ⟨_, rfl⟩
  refine WP_loop mixed_ (by kernel_rfl) I m (by rw [hI]; exact ⟨0, List.replicate m 0, rfl, Nat.zero_le _, by simp, by simp, by simp, rfl, Keeps.one _ _, rfl⟩) ?_
  intro r fr hh hi
  rw [hI] at hi
  obtain ⟨k, g, rfl, hk, hgl, hgt, hob, hnx, kp, rfl⟩ := hi
  apply class_Split_loop3
  (repeat (first | simp -dsimp -implicitDefEqProofs (disch := omega) only [↓gp0, ↓gp1, ↓gp2, gq0, gq1, gq2, gq3, gq4, gq5, gq6, gq7, gq8, gq9, go0, go1, gl0, gl1, gl2, gl3, ↓reduceIte, Nat.reduceEqDiff, Nat.reduceAdd, Nat.reduceLeDiff, pBuild, fillA, ↓Api_Sets.r] | refine Cut.go ?_))
  refine Split_lt (fun hkm => ?_) (fun hkm => ?_)
  · (repeat (first | simp -dsimp -implicitDefEqProofs (disch := omega) only [↓gp0, ↓gp1, ↓gp2, gq0, gq1, gq2, gq3, gq4, gq5, gq6, gq7, gq8, gq9, go0, go1, gl0, gl1, gl2, gl3, ↓reduceIte, Nat.reduceEqDiff, Nat.reduceAdd, Nat.reduceLeDiff, pBuild, fillA, ↓Api_Sets.r, ix_ns (show k < m by omega), st_ns hob (show k < g.length by omega), wk1 k (by omega)] | refine Cut.go ?_))
    rw [loopPost_normal, hI]
    refine ⟨m - (k + 1), by omega, k + 1, g.set k k, rfl, by omega, by simpa using hgl, ?_, put_new _ _ _, hnx, kp.putNew (Nat.le_refl _) _, rfl⟩
    rw [List.take_add_one, List.take_set_of_le (Nat.le_refl _), hgt, List.getElem?_set_self (by omega), List.range_succ]; rfl
  have hkm2 : k = m := by omega
  subst hkm2
  have hgr : g = List.range k := by rw [← hgt, ← hgl, List.take_length]
  subst hgr
  (repeat (first | simp -dsimp -implicitDefEqProofs (disch := omega) only [↓gp0, ↓gp1, ↓gp2, gq0, gq1, gq2, gq3, gq4, gq5, gq6, gq7, gq8, gq9, go0, go1, gl0, gl1, gl2, gl3, ↓reduceIte, Nat.reduceEqDiff, Nat.reduceAdd, Nat.reduceLeDiff, pBuild, fillA, ↓Api_Sets.r] | refine Cut.go ?_))
  clear hI I hgt
  refine (all_does s hs hf hh).mono ?_
  rintro _ h14 ⟨rid, rfl, hro, hrn, hrl, kp2⟩
  have kp14 := kp.go kp2
  have hob14 : h14.objs h.next = some (.row 3 (nsAV (List.range k))) := by rw [kp2.objs _ (by omega) (by simp)]; exact hob
  have hn14 := kp2.next
  (repeat (first | simp -dsimp -implicitDefEqProofs (disch := omega) only [↓gp0, ↓gp1, ↓gp2, gq0, gq1, gq2, gq3, gq4, gq5, gq6, gq7, gq8, gq9, go0, go1, gl0, gl1, gl2, gl3, ↓reduceIte, Nat.reduceEqDiff, Nat.reduceAdd, Nat.reduceLeDiff, pBuild, fillA, ↓Api_Sets.r] | refine Cut.go ?_))
  -- row by row
  obtain ⟨R, hR⟩ : ∃ R, R = rowsOf s := ⟨_, rfl⟩
  have hset : setsOf s = setsIn R := by rw [hR]; rfl
  rw [← hR] at hro hl ⊢
  rw [hset] at hx ⊢
  have hRl : R.length ≤ 200001 := by rw [hR]; simp [rowsOf]; omega
  obtain ⟨I, hI⟩ : ∃ I : Nat → Fr → AHeap → Prop, I = (fun r fr h8 => ∃ (i : Nat) (g : List Nat), r = R.length - i ∧ i ≤ R.length ∧ h8.objs h.next = some (.row 3 (nsAV g)) ∧ Says g (prsOf (setsIn (R.take i))) ∧ g.length = k ∧ Keeps h14 h8 (fun i => i = h.next) ∧ fr = frOf [(5, .sl h.next 0 k 1), (29, .sl rid 0 R.length 1), (30, .int .i64 R.length), (31, .int .i64 i)]) := ⟨_, rfl⟩
  refine WP_loop mixed_ (by kernel_rfl) I R.length (by rw [hI]; exact ⟨0, List.range k, rfl, Nat.zero_le _, hob14, Says.start k, by simp, Keeps.refl _ _, rfl⟩) ?_
  intro r fr h8 hi
  rw [hI] at hi
  obtain ⟨i, g, rfl, hi, ho8, hsy, hgl8, kp8, rfl⟩ := hi
  apply class_Split_loop8
  (repeat (first | simp -dsimp -implicitDefEqProofs (disch := omega) only [↓gp0, ↓gp1, ↓gp2, gq0, gq1, gq2, gq3, gq4, gq5, gq6, gq7, gq8, gq9, go0, go1, gl0, gl1, gl2, gl3, ↓reduceIte, Nat.reduceEqDiff, Nat.reduceAdd, Nat.reduceLeDiff, pBuild, fillA, ↓Api_Sets.r] | refine Cut.go ?_))
  refine Split_lt (fun hil => ?_) (fun hil => ?_)
  · obtain ⟨o, hxo⟩ : ∃ o, R[i]? = some o := ⟨_, List.getElem?_eq_getElem (by omega)⟩
    have hro8 : h8.objs rid = some (.row 27 (rowsAV R)) := by rw [kp8.objs _ hrl (by omega)]; exact hro
    have ld : ∀ (K : AV → Prop), pLoad none (.ptr rid i) h8 K = K (slAV 1 encN o) := fun K => by
      rw [pLoad_ptr hro8, pCells_none_some (v := slAV 1 encN o) (by simp [rowsAV, hxo])]
    have hmem : o ∈ R := List.mem_of_getElem? hxo
    (repeat (first | simp -dsimp -implicitDefEqProofs (disch := omega) only [↓gp0, ↓gp1, ↓gp2, gq0, gq1, gq2, gq3, gq4, gq5, gq6, gq7, gq8, gq9, go0, go1, gl0, gl1, gl2, gl3, ↓reduceIte, Nat.reduceEqDiff, Nat.reduceAdd, Nat.reduceLeDiff, pBuild, fillA, ↓Api_Sets.r, ix_ns (show i < R.length by omega), ↓ld] | refine Cut.go ?_))
    refine split_row (by omega) (hl o hmem) (fun x hxx => hx x (List.mem_flatMap.2 ⟨o, hmem, hxx⟩)) hsy hgl8 (by have := kp8.next; omega) ho8 _ _ _ _ ?_
    intro h2 g' q1 q2 q3 q4
    (repeat (first | simp -dsimp -implicitDefEqProofs (disch := omega) only [↓gp0, ↓gp1, ↓gp2, gq0, gq1, gq2, gq3, gq4, gq5, gq6, gq7, gq8, gq9, go0, go1, gl0, gl1, gl2, gl3, ↓reduceIte, Nat.reduceEqDiff, Nat.reduceAdd, Nat.reduceLeDiff, pBuild, fillA, ↓Api_Sets.r, wk1 i (by omega)] | refine Cut.go ?_))
    rw [loopPost_normal, hI]
    refine ⟨R.length - (i + 1), by omega, i + 1, g', rfl, by omega, q1, ?_, q3, kp8.trans q4 (fun _ _ e => e), rfl⟩
    rw [List.take_add_one, hxo]
    exact (setsIn_snoc _ _) ▸ q2
  have hil2 : i = R.length := by omega
  subst hil2
  rw [List.take_length] at hsy
  (repeat (first | simp -dsimp -implicitDefEqProofs (disch := omega) only [↓gp0, ↓gp1, ↓gp2, gq0, gq1, gq2, gq3, gq4, gq5, gq6, gq7, gq8, gq9, go0, go1, gl0, gl1, gl2, gl3, ↓reduceIte, Nat.reduceEqDiff, Nat.reduceAdd, Nat.reduceLeDiff, pBuild, fillA, ↓Api_Sets.r] | refine Cut.go ?_))
  clear hI I hi
  rw [mk_ns k (by omega)]
  (repeat (first | simp -dsimp -implicitDefEqProofs (disch := omega) only [↓gp0, ↓gp1, ↓gp2, gq0, gq1, gq2, gq3, gq4, gq5, gq6, gq7, gq8, gq9, go0, go1, gl0, gl1, gl2, gl3, ↓reduceIte, Nat.reduceEqDiff, Nat.reduceAdd, Nat.reduceLeDiff, pBuild, fillA, ↓Api_Sets.r] | refine Cut.go ?_))
  -- the classes
  have hoid := kp8.next
  obtain ⟨I, hI⟩ : ∃ I : Nat → Fr → AHeap → Prop, I = (fun r fr hh => ∃ (i : Nat) (g' out : List Nat), r = k - i ∧ i ≤ k ∧ hh.objs h.next = some (.row 3 (nsAV g')) ∧ Low g' ∧ g'.length = k ∧ (∀ x, root g' x = root g x) ∧ hh.objs h8.next = some (.row 3 (nsAV out)) ∧ out.length = k ∧ out.take i = (List.range i).map (clsOf g) ∧ Keeps h8 hh (fun i => i = h.next) ∧ h8.next < hh.next ∧ fr = frOf [(5, .sl h.next 0 k 1), (11, .sl h8.next 0 k 1), (12, .int .i64 (leadsB g i : Nat)), (50, .int .i64 k), (51, .int .i64 i)]) := ⟨_, rfl⟩
  refine WP_loop mixed_ (by kernel_rfl) I k (by rw [hI]; exact ⟨0, g, List.replicate k 0, rfl, Nat.zero_le _, by rw [push_old (by omega)]; exact ho8, hsy.1, hgl8, fun _ => rfl, push_new _ _, by simp, by simp, (Keeps.refl _ _).pushS _, by simp, rfl⟩) ?_
  intro r fr h9 hi
  rw [hI] at hi
  obtain ⟨i, g', out, rfl, hik, q1, q2, q3, q4, q5, q6, q7, q8, q8n, rfl⟩ := hi
  apply class_Split_loop18
  (repeat (first | simp -dsimp -implicitDefEqProofs (disch := omega) only [↓gp0, ↓gp1, ↓gp2, gq0, gq1, gq2, gq3, gq4, gq5, gq6, gq7, gq8, gq9, go0, go1, gl0, gl1, gl2, gl3, ↓reduceIte, Nat.reduceEqDiff, Nat.reduceAdd, Nat.reduceLeDiff, pBuild, fillA, ↓Api_Sets.r] | refine Cut.go ?_))
  refine Split_lt (fun hil => ?_) (fun hil => ?_)
  · have hil3 : i < k := by omega
    (repeat (first | simp -dsimp -implicitDefEqProofs (disch := omega) only [↓gp0, ↓gp1, ↓gp2, gq0, gq1, gq2, gq3, gq4, gq5, gq6, gq7, gq8, gq9, go0, go1, gl0, gl1, gl2, gl3, ↓reduceIte, Nat.reduceEqDiff, Nat.reduceAdd, Nat.reduceLeDiff, pBuild, fillA, ↓Api_Sets.r] | refine Cut.go ?_))
    have htd := top_does q2 (k := i) (by omega) q1
    rw [q3] at htd
    refine htd.mono ?_
    rintro _ h10 ⟨rfl, g2, rfl, r2, r3, r4⟩
    have hti : root g' i ≤ i := root_le i
    have q5' : (h9.put h.next (.row 3 (nsAV g2))).objs h8.next = some (.row 3 (nsAV out)) := by rw [put_old (by omega)]; exact q5
    have hroots : ∀ x, root g2 x = root g x := fun x => by rw [r4, q4]
    have hcls_i : clsOf g i = leadsB g (root g i) + 1 := rfl
    have hl10 : leadsB g i ≤ 1000 := by
      have h1 := leadsB_mono g (Nat.le_of_lt hil3)
      have h2 : leadsB g k ≤ (List.range k).length := List.countP_le_length
      simp at h2; omega
    (repeat (first | simp -dsimp -implicitDefEqProofs (disch := omega) only [↓gp0, ↓gp1, ↓gp2, gq0, gq1, gq2, gq3, gq4, gq5, gq6, gq7, gq8, gq9, go0, go1, gl0, gl1, gl2, gl3, ↓reduceIte, Nat.reduceEqDiff, Nat.reduceAdd, Nat.reduceLeDiff, pBuild, fillA, ↓Api_Sets.r] | refine Cut.go ?_))
    refine Split_lt (fun htl => ?_) (fun htl => ?_)
    · have htl2 : root g' i < i := by omega
      have hget : out[root g' i]? = some (clsOf g i) := by
        have h1 := congrArg (fun l => l[root g' i]?) q7
        simp only [List.getElem?_take, List.getElem?_map] at h1
        rw [if_pos htl2, List.getElem?_range htl2] at h1
        rw [h1, q4]
        simp only [Option.map_some, Option.some.injEq]
        exact clsOf_eq.2 (root_root i)
      (repeat (first | simp -dsimp -implicitDefEqProofs (disch := omega) only [↓gp0, ↓gp1, ↓gp2, gq0, gq1, gq2, gq3, gq4, gq5, gq6, gq7, gq8, gq9, go0, go1, gl0, gl1, gl2, gl3, ↓reduceIte, Nat.reduceEqDiff, Nat.reduceAdd, Nat.reduceLeDiff, pBuild, fillA, ↓Api_Sets.r, ix_ns (show root g' i < k by omega), ld_ns q5' hget, ix_ns hil3, st_ns q5' (show i < out.length by omega), wk1 i (by omega)] | refine Cut.go ?_))
      rw [loopPost_normal, hI]
      refine ⟨k - (i + 1), by omega, i + 1, g2, out.set i (clsOf g i), rfl, by omega, by rw [put_old (by omega), put_new], r2, by omega, hroots, put_new _ _ _, by simpa using q6, ?_, (q8.putS rfl _).putNew (Nat.le_refl _) _, q8n, ?_⟩
      · rw [List.take_add_one, List.take_set_of_le (Nat.le_refl _), q7, List.getElem?_set_self (by omega), List.range_succ, List.map_append]; rfl
      · rw [leadsB_succ, if_neg (by rw [← q4]; omega)]; rfl
    · have hte : root g i = i := by rw [← q4]; omega
      have hcls : clsOf g i = leadsB g i + 1 := by rw [hcls_i, hte]
      (repeat (first | simp -dsimp -implicitDefEqProofs (disch := omega) only [↓gp0, ↓gp1, ↓gp2, gq0, gq1, gq2, gq3, gq4, gq5, gq6, gq7, gq8, gq9, go0, go1, gl0, gl1, gl2, gl3, ↓reduceIte, Nat.reduceEqDiff, Nat.reduceAdd, Nat.reduceLeDiff, pBuild, fillA, ↓Api_Sets.r, wk1 (leadsB g i) (by omega), ix_ns hil3, st_ns q5' (show i < out.length by omega), wk1 i (by omega)] | refine Cut.go ?_))
      rw [loopPost_normal, hI]
      refine ⟨k - (i + 1), by omega, i + 1, g2, out.set i (clsOf g i), rfl, by omega, by rw [put_old (by omega), put_new], r2, by omega, hroots, by rw [hcls]; exact put_new _ _ _, by simpa using q6, ?_, (q8.putS rfl _).putNew (Nat.le_refl _) _, q8n, ?_⟩
      · rw [List.take_add_one, List.take_set_of_le (Nat.le_refl _), q7, List.getElem?_set_self (by omega), List.range_succ, List.map_append]; rfl
      · rw [leadsB_succ, if_pos hte]
  · (repeat (first | simp -dsimp -implicitDefEqProofs (disch := omega) only [↓gp0, ↓gp1, ↓gp2, gq0, gq1, gq2, gq3, gq4, gq5, gq6, gq7, gq8, gq9, go0, go1, gl0, gl1, gl2, gl3, ↓reduceIte, Nat.reduceEqDiff, Nat.reduceAdd, Nat.reduceLeDiff, pBuild, fillA, ↓Api_Sets.r] | refine Cut.go ?_))
    have hik2 : i = k := by omega
    subst hik2
    rw [← q6, List.take_length] at q7
    refine ⟨h8.next, out, by rw [q6], q5, by omega, q8n, ?_, g, hsy, hgl8, by rw [q7, q6]⟩
    refine ⟨by have := q8.next; omega, fun j hj _ => ?_⟩
    rw [q8.objs j (by omega) (by omega), kp8.objs j (by omega) (by omega), kp14.objs j hj (by simp)]
end Go.Proofs.YtopfjochppdnfaaDoor
