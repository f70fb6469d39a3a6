/- No partition is finer: the law. -/
import Derived.Test.YtopfjochppdnfaaDoorClIs
set_option linter.unusedVariables false
set_option linter.unusedSimpArgs false
set_option maxRecDepth 100000
set_option maxHeartbeats 1000000
namespace Go.Proofs.YtopfjochppdnfaaDoor
open Go.Abs

def bsAV (l : List Bool) : List AV := l.map AV.bool
def bRow (m : Nat) (T : Nat → Bool) : AObj := .row 4 (bsAV ((List.range m).map T))
theorem ld_bs {m j k : Nat} {T : Nat → Bool} {hh : AHeap} (ho : hh.objs j = some (bRow m T)) (hk : k < m) (K : AV → Prop) : pLoad none (.ptr j k) hh K = K (.bool (T k)) := by
  rw [pLoad_ptr ho, pCells_none_some (v := .bool (T k)) (by simp [bsAV, List.getElem?_range hk])]
theorem bs_set {m k : Nat} (T : Nat → Bool) (v : Bool) : (bsAV ((List.range m).map T)).set k (.bool v) = bsAV ((List.range m).map fun j => if j = k then v else T j) := by
  apply List.ext_getElem?
  intro i
  unfold bsAV
  rw [List.getElem?_set, List.getElem?_map, List.getElem?_map, List.getElem?_map, List.getElem?_map]
  by_cases hi : i < m
  · rw [List.getElem?_range hi]
    by_cases e : k = i
    · subst e; simp [hi]
    · rw [if_neg e]; simp [Ne.symm e]
  · rw [List.getElem?_eq_none (by simpa using hi)]
    by_cases e : k = i
    · subst e; simp [hi]
    · rw [if_neg e]; rfl
theorem st_bs {m j k : Nat} {T : Nat → Bool} {hh : AHeap} (ho : hh.objs j = some (bRow m T)) (hk : k < m) (v : Bool) (K : AHeap → Prop) : pStore 1 (.ptr j k) (.bool v) hh K = K (hh.put j (bRow m fun i => if i = k then v else T i)) := by
  rw [pStore_ptr ho (by rfl) (by simp [bsAV]; exact hk), bs_set]; rfl
theorem mk_bs (m : Nat) (hm : m ≤ 1000) (h : AHeap) (K : AV → AHeap → Prop) : pMakeSl { e := 4, sz := 1, by_ := 1 } [.bool false] (.int .i64 (m : Int)) (.int .i64 (m : Int)) h K = K (.sl h.next 0 m 1) (h.push (bRow m fun _ => false)) := by
  have e : repC m [AV.bool false] = bsAV ((List.range m).map fun _ => false) := by
    simp only [repC, bsAV, List.map_map]
    apply List.ext_getElem?
    intro i
    rw [List.getElem?_replicate, List.getElem?_map]
    by_cases hi : i < m
    · rw [if_pos hi, List.getElem?_range hi]; rfl
    · rw [if_neg hi, List.getElem?_eq_none (by simpa using hi)]; rfl
  simp only [pMakeSl, Int.toNat_natCast, e]
  apply propext
  constructor
  · rintro ⟨-, -, -, -, -, hk⟩; exact hk
  · intro hk; exact ⟨by omega, by omega, by omega, by omega, rfl, hk⟩

/-- The first one of its class. -/
def firstOf (out : List Nat) (k : Nat) : Bool := (List.range k).all fun i => decide (out[i]? ≠ out[k]?)
theorem firstOf_iff {m : Nat} {f : List Nat} (k : Nat) (hk : k < m) : firstOf ((List.range m).map (clsOf f)) k = true ↔ root f k = k := by
  have get : ∀ i, i < m → ((List.range m).map (clsOf f))[i]? = some (clsOf f i) := fun i hi => map_range_get _ hi
  unfold firstOf
  rw [List.all_eq_true]
  constructor
  · intro h
    apply Classical.byContradiction
    intro hne
    have hr : root f k < k := by have := root_le (f := f) k; omega
    have := h (root f k) (List.mem_range.2 hr)
    rw [decide_eq_true_eq, get _ (by omega), get _ hk] at this
    exact this (by rw [clsOf_eq.2 (root_root k)])
  · intro h i hi
    have hik := List.mem_range.1 hi
    rw [decide_eq_true_eq, get _ (by omega), get _ hk]
    intro e
    have := clsOf_eq.1 (Option.some.inj e)
    rw [h] at this
    have := root_le (f := f) i
    omega

/-- What a round adds. -/
structure Grow (m : Nat) (R : Nat → Nat → Bool) (T0 T : Nat → Bool) : Prop where
  up : ∀ j, T0 j = true → T j = true
  least : ∀ X : Nat → Bool, (∀ j, j < m → T0 j = true → X j = true) → (∀ a b, a < m → b < m → X a = true → R a b = true → X b = true) → ∀ j, j < m → T j = true → X j = true
theorem Grow.refl (m : Nat) (R : Nat → Nat → Bool) (T : Nat → Bool) : Grow m R T T := ⟨fun _ h => h, fun X h1 _ j hj h => h1 j hj h⟩
theorem Grow.add {m a b : Nat} {R : Nat → Nat → Bool} {T0 T : Nat → Bool} (g : Grow m R T0 T) (ha : a < m) (hTa : T a = true) (hab : R a b = true) : Grow m R T0 (fun j => if j = b then true else T j) := by
  refine ⟨fun j hj => ?_, fun X h1 h2 j hjm hj => ?_⟩
  · by_cases e : j = b
    · rw [if_pos e]
    · rw [if_neg e]; exact g.up j hj
  · by_cases e : j = b
    · subst e; exact h2 a j ha hjm (g.least X h1 h2 a ha hTa) hab
    · rw [if_neg e] at hj; exact g.least X h1 h2 j hjm hj

theorem meets_sub {m : Nat} {s : St} (fw : Few m s) {cs : List AV} (hs : Sub cs s.cells) (a b : Nat) (ha : a ≤ 1000000) (hb : b ≤ 1000000) (h : AHeap) : CallsA Tryd.prog 18 [.int .i64 m, .agg cs, .int .i64 (a : Nat), .int .i64 (b : Nat)] h (fun v h2 => v = .bool (meetR m s a b) ∧ h2 = h) :=
  CallsA.args (Sub.same (Sub.cons (agg_sub hs) (Sub.same (Sub.same Sub.nil)))) (meets_does m s fw.slots fw.fields fw.rows fw.sets a b ha hb h)

section
variable {m sid id1 jid : Nat} {s : St} {cs : List AV} {out : List Nat}

/-- What stands through the rounds. -/
structure Stands (m sid id1 jid : Nat) (s : St) (cs : List AV) (out : List Nat) (hh : AHeap) : Prop where
  sets : hh.objs sid = some (.row 29 cs)
  len3 : cs.length = 3
  sub : Sub cs s.cells
  cls : hh.objs id1 = some (.row 3 (nsAV out))
  len : out.length = m
  ne1 : sid ≠ jid
  ne2 : id1 ≠ jid
theorem Stands.put {hh : AHeap} (st : Stands m sid id1 jid s cs out hh) (o : AObj) : Stands m sid id1 jid s cs out (hh.put jid o) :=
  ⟨by rw [put_old st.ne1]; exact st.sets, st.len3, st.sub, by rw [put_old st.ne2]; exact st.cls, st.len, st.ne1, st.ne2⟩

theorem fine_b (fw : Few m s) (hm : m ≤ 12) (hsame : ∀ a b, a < m → b < m → meetR m s a b = true → out[a]? = out[b]?) {a : Nat} (ha : a < m) {T0 T : Nat → Bool} (g0 : Grow m (meetR m s) T0 T) {h0 : AHeap} (st : Stands m sid id1 jid s cs out h0) (hj : h0.objs jid = some (bRow m T)) (A15 : AV) (Q : AExit → Fr → AHeap → Prop)
    (hQ : ∀ (h2 : AHeap) (T2 : Nat → Bool), Stands m sid id1 jid s cs out h2 → h2.objs jid = some (bRow m T2) → Grow m (meetR m s) T0 T2 → (∀ j, T j = true → T2 j = true) → (T a = true → ∀ b, b < m → meetR m s a b = true → T2 b = true) → Q (.exit 12) (frOf [(0, .int .i64 m), (9, .ptr sid 0), (10, .sl id1 0 m 1), (11, .sl jid 0 m 1), (15, A15), (16, .int .i64 a)]) h2) :
    WP Tryd.prog 144 (.loop c_padlocklaw12_ClassFine_37) (frOf [(0, .int .i64 m), (9, .ptr sid 0), (10, .sl id1 0 m 1), (11, .sl jid 0 m 1), (15, A15), (16, .int .i64 a), (17, .int .i64 0)]) h0 Q := by
  obtain ⟨I, hI⟩ : ∃ I : Nat → Fr → AHeap → Prop, I = (fun r fr hh => ∃ (b : Nat) (T1 : Nat → Bool), r = m - b ∧ b ≤ m ∧ Stands m sid id1 jid s cs out hh ∧ hh.objs jid = some (bRow m T1) ∧ Grow m (meetR m s) T0 T1 ∧ (∀ j, T j = true → T1 j = true) ∧ (T a = true → ∀ b', b' < b → meetR m s a b' = true → T1 b' = true) ∧ fr = frOf [(0, .int .i64 m), (9, .ptr sid 0), (10, .sl id1 0 m 1), (11, .sl jid 0 m 1), (15, A15), (16, .int .i64 a), (17, .int .i64 b)]) := ⟨_, rfl⟩
  refine WP_loop mixed_ (by kernel_rfl) I m (by rw [hI]; exact ⟨0, T, rfl, Nat.zero_le _, st, hj, g0, fun _ h => h, fun _ b' hb' => by omega, rfl⟩) ?_
  intro r fr hh hi
  rw [hI] at hi
  obtain ⟨b, T1, rfl, hb, st1, hj1, g1, up1, cl1, rfl⟩ := hi
  apply padlocklaw12_ClassFine_loop37
  (repeat (first | simp -dsimp -implicitDefEqProofs (disch := omega) only [↓gp0, ↓gp1, ↓gp2, gq0, gq1, gq2, gq3, gq4, gq5, gq6, gq7, gq8, gq9, go0, go1, gl0, gl1, gl2, gl3, ↓reduceIte, Nat.reduceEqDiff, Nat.reduceAdd, Nat.reduceLeDiff, pBuild, fillA, ↓Api_Sets.r] | refine Cut.go ?_))
  refine Split_lt (fun hbm => ?_) (fun hbm => ?_)
  · have hbm2 : b < m := by omega
    have hlen := st1.len
    obtain ⟨oa, hoa⟩ : ∃ x, out[a]? = some x := ⟨_, List.getElem?_eq_getElem (by omega)⟩
    obtain ⟨ob, hob⟩ : ∃ x, out[b]? = some x := ⟨_, List.getElem?_eq_getElem (by omega)⟩
    have ea : ∀ x y : Nat, ((x : Int) == (y : Int)) = decide (x = y) := fun x y => by rw [Bool.eq_iff_iff]; simp; omega
    have step : ∀ (T2 : Nat → Bool) (h2 : AHeap), Stands m sid id1 jid s cs out h2 → h2.objs jid = some (bRow m T2) → Grow m (meetR m s) T0 T2 → (∀ j, T1 j = true → T2 j = true) → (T a = true → meetR m s a b = true → T2 b = true) →
        loopPost I (m - b) Q .normal (frOf [(0, .int .i64 m), (9, .ptr sid 0), (10, .sl id1 0 m 1), (11, .sl jid 0 m 1), (15, A15), (16, .int .i64 a), (17, .int .i64 ((b + 1 : Nat) : Int))]) h2 := by
      intro T2 h2 q1 q2 q3 q4 q5
      rw [loopPost_normal, hI]
      refine ⟨m - (b + 1), by omega, b + 1, T2, rfl, by omega, q1, q2, q3, fun j hj => q4 j (up1 j hj), fun hTa b' hb' hm' => ?_, rfl⟩
      by_cases e : b' = b
      · subst e; exact q5 hTa hm'
      · exact q4 _ (cl1 hTa b' (by omega) hm')
    have lds : ∀ (K : AV → Prop), pLoad (some 3) (.ptr sid 0) hh K = K (.agg cs) := fun K => by
      rw [pLoad_ptr st1.sets]
      have := st1.len3
      simp [pCells, this]
      have : cs.take 3 = cs := List.take_of_length_le (by omega)
      rw [this]
    (repeat (first | simp -dsimp -implicitDefEqProofs (disch := omega) only [↓gp0, ↓gp1, ↓gp2, gq0, gq1, gq2, gq3, gq4, gq5, gq6, gq7, gq8, gq9, go0, go1, gl0, gl1, gl2, gl3, ↓reduceIte, Nat.reduceEqDiff, Nat.reduceAdd, Nat.reduceLeDiff, pBuild, fillA, ↓Api_Sets.r, ix_ns ha, ix_ns hbm2, ld_bs hj1 ha, ld_ns st1.cls hoa, ld_ns st1.cls hob, ea] | refine Cut.go ?_))
    rcases hTa : T1 a with _ | _
    · (repeat (first | simp -dsimp -implicitDefEqProofs (disch := omega) only [↓gp0, ↓gp1, ↓gp2, gq0, gq1, gq2, gq3, gq4, gq5, gq6, gq7, gq8, gq9, go0, go1, gl0, gl1, gl2, gl3, ↓reduceIte, Nat.reduceEqDiff, Nat.reduceAdd, Nat.reduceLeDiff, pBuild, fillA, ↓Api_Sets.r, wk1 b (by omega)] | refine Cut.go ?_))
      exact step T1 hh st1 hj1 g1 (fun _ h => h) (fun hT _ => by rw [up1 a hT] at hTa; cases hTa)
    (repeat (first | simp -dsimp -implicitDefEqProofs (disch := omega) only [↓gp0, ↓gp1, ↓gp2, gq0, gq1, gq2, gq3, gq4, gq5, gq6, gq7, gq8, gq9, go0, go1, gl0, gl1, gl2, gl3, ↓reduceIte, Nat.reduceEqDiff, Nat.reduceAdd, Nat.reduceLeDiff, pBuild, fillA, ↓Api_Sets.r, ix_ns ha, ix_ns hbm2, ld_bs hj1 ha, ld_ns st1.cls hoa, ld_ns st1.cls hob, ea] | refine Cut.go ?_))
    by_cases e : oa = ob
    · rw [decide_eq_true e]
      (repeat (first | simp -dsimp -implicitDefEqProofs (disch := omega) only [↓gp0, ↓gp1, ↓gp2, gq0, gq1, gq2, gq3, gq4, gq5, gq6, gq7, gq8, gq9, go0, go1, gl0, gl1, gl2, gl3, ↓reduceIte, Nat.reduceEqDiff, Nat.reduceAdd, Nat.reduceLeDiff, pBuild, fillA, ↓Api_Sets.r, ↓lds] | refine Cut.go ?_))
      refine CallsA.go (meets_sub fw st1.sub a b (by omega) (by omega) _) ?_
      rcases hme : meetR m s a b with _ | _
      · (repeat (first | simp -dsimp -implicitDefEqProofs (disch := omega) only [↓gp0, ↓gp1, ↓gp2, gq0, gq1, gq2, gq3, gq4, gq5, gq6, gq7, gq8, gq9, go0, go1, gl0, gl1, gl2, gl3, ↓reduceIte, Nat.reduceEqDiff, Nat.reduceAdd, Nat.reduceLeDiff, pBuild, fillA, ↓Api_Sets.r, wk1 b (by omega)] | refine Cut.go ?_))
        exact step T1 hh st1 hj1 g1 (fun _ h => h) (fun _ h => by rw [hme] at h; cases h)
      · (repeat (first | simp -dsimp -implicitDefEqProofs (disch := omega) only [↓gp0, ↓gp1, ↓gp2, gq0, gq1, gq2, gq3, gq4, gq5, gq6, gq7, gq8, gq9, go0, go1, gl0, gl1, gl2, gl3, ↓reduceIte, Nat.reduceEqDiff, Nat.reduceAdd, Nat.reduceLeDiff, pBuild, fillA, ↓Api_Sets.r, ix_ns hbm2, st_bs hj1 hbm2, wk1 b (by omega)] | refine Cut.go ?_))
        exact step _ _ (st1.put _) (put_new _ _ _) (g1.add ha hTa hme) (fun j hj => by by_cases e : j = b <;> simp [e, hj]) (fun _ _ => by simp)
    · rw [decide_eq_false e]
      (repeat (first | simp -dsimp -implicitDefEqProofs (disch := omega) only [↓gp0, ↓gp1, ↓gp2, gq0, gq1, gq2, gq3, gq4, gq5, gq6, gq7, gq8, gq9, go0, go1, gl0, gl1, gl2, gl3, ↓reduceIte, Nat.reduceEqDiff, Nat.reduceAdd, Nat.reduceLeDiff, pBuild, fillA, ↓Api_Sets.r, wk1 b (by omega)] | refine Cut.go ?_))
      exact step T1 hh st1 hj1 g1 (fun _ h => h) (fun _ hme => by
        have := hsame a b ha hbm2 hme
        rw [hoa, hob] at this
        exact absurd (Option.some.inj this) e)
  · (repeat (first | simp -dsimp -implicitDefEqProofs (disch := omega) only [↓gp0, ↓gp1, ↓gp2, gq0, gq1, gq2, gq3, gq4, gq5, gq6, gq7, gq8, gq9, go0, go1, gl0, gl1, gl2, gl3, ↓reduceIte, Nat.reduceEqDiff, Nat.reduceAdd, Nat.reduceLeDiff, pBuild, fillA, ↓Api_Sets.r] | refine Cut.go ?_))
    have e : b = m := by omega
    subst e
    exact hQ hh T1 st1 hj1 g1 up1 (fun h b' hb' hm' => cl1 h b' hb' hm')

theorem fine_a (fw : Few m s) (hm : m ≤ 12) (hsame : ∀ a b, a < m → b < m → meetR m s a b = true → out[a]? = out[b]?) {T : Nat → Bool} {h0 : AHeap} (st : Stands m sid id1 jid s cs out h0) (hj : h0.objs jid = some (bRow m T)) (A15 : AV) (Q : AExit → Fr → AHeap → Prop)
    (hQ : ∀ (h2 : AHeap) (T2 : Nat → Bool), Stands m sid id1 jid s cs out h2 → h2.objs jid = some (bRow m T2) → Grow m (meetR m s) T T2 → (∀ a b, a < m → b < m → T a = true → meetR m s a b = true → T2 b = true) → Q (.exit 10) (frOf [(0, .int .i64 m), (9, .ptr sid 0), (10, .sl id1 0 m 1), (11, .sl jid 0 m 1), (15, A15)]) h2) :
    WP Tryd.prog 144 (.loop c_padlocklaw12_ClassFine_34) (frOf [(0, .int .i64 m), (9, .ptr sid 0), (10, .sl id1 0 m 1), (11, .sl jid 0 m 1), (15, A15), (16, .int .i64 0)]) h0 Q := by
  obtain ⟨I, hI⟩ : ∃ I : Nat → Fr → AHeap → Prop, I = (fun r fr hh => ∃ (a : Nat) (T1 : Nat → Bool), r = m - a ∧ a ≤ m ∧ Stands m sid id1 jid s cs out hh ∧ hh.objs jid = some (bRow m T1) ∧ Grow m (meetR m s) T T1 ∧ (∀ a' b, a' < a → b < m → T a' = true → meetR m s a' b = true → T1 b = true) ∧ fr = frOf [(0, .int .i64 m), (9, .ptr sid 0), (10, .sl id1 0 m 1), (11, .sl jid 0 m 1), (15, A15), (16, .int .i64 a)]) := ⟨_, rfl⟩
  refine WP_loop mixed_ (by kernel_rfl) I m (by rw [hI]; exact ⟨0, T, rfl, Nat.zero_le _, st, hj, Grow.refl _ _ _, fun _ _ h => by omega, rfl⟩) ?_
  intro r fr hh hi
  rw [hI] at hi
  obtain ⟨a, T1, rfl, ha, st1, hj1, g1, cl1, rfl⟩ := hi
  apply padlocklaw12_ClassFine_loop34
  (repeat (first | simp -dsimp -implicitDefEqProofs (disch := omega) only [↓gp0, ↓gp1, ↓gp2, gq0, gq1, gq2, gq3, gq4, gq5, gq6, gq7, gq8, gq9, go0, go1, gl0, gl1, gl2, gl3, ↓reduceIte, Nat.reduceEqDiff, Nat.reduceAdd, Nat.reduceLeDiff, pBuild, fillA, ↓Api_Sets.r] | refine Cut.go ?_))
  refine Split_lt (fun ham => ?_) (fun ham => ?_)
  · (repeat (first | simp -dsimp -implicitDefEqProofs (disch := omega) only [↓gp0, ↓gp1, ↓gp2, gq0, gq1, gq2, gq3, gq4, gq5, gq6, gq7, gq8, gq9, go0, go1, gl0, gl1, gl2, gl3, ↓reduceIte, Nat.reduceEqDiff, Nat.reduceAdd, Nat.reduceLeDiff, pBuild, fillA, ↓Api_Sets.r] | refine Cut.go ?_))
    refine fine_b fw hm hsame (by omega : a < m) g1 st1 hj1 _ _ ?_
    intro h2 T2 q1 q2 q3 q4 q5
    (repeat (first | simp -dsimp -implicitDefEqProofs (disch := omega) only [↓gp0, ↓gp1, ↓gp2, gq0, gq1, gq2, gq3, gq4, gq5, gq6, gq7, gq8, gq9, go0, go1, gl0, gl1, gl2, gl3, ↓reduceIte, Nat.reduceEqDiff, Nat.reduceAdd, Nat.reduceLeDiff, pBuild, fillA, ↓Api_Sets.r, wk1 a (by omega)] | refine Cut.go ?_))
    rw [loopPost_normal, hI]
    refine ⟨m - (a + 1), by omega, a + 1, T2, rfl, by omega, q1, q2, q3, fun a' b ha' hb hTa hm' => ?_, rfl⟩
    by_cases e : a' = a
    · subst e; exact q5 (g1.up _ hTa) b hb hm'
    · exact q4 _ (cl1 a' b (by omega) hb hTa hm')
  · (repeat (first | simp -dsimp -implicitDefEqProofs (disch := omega) only [↓gp0, ↓gp1, ↓gp2, gq0, gq1, gq2, gq3, gq4, gq5, gq6, gq7, gq8, gq9, go0, go1, gl0, gl1, gl2, gl3, ↓reduceIte, Nat.reduceEqDiff, Nat.reduceAdd, Nat.reduceLeDiff, pBuild, fillA, ↓Api_Sets.r] | refine Cut.go ?_))
    have e : a = m := by omega
    subst e
    exact hQ hh T1 st1 hj1 g1 (fun a' b ha' hb => cl1 a' b ha' hb)

theorem fine_rounds (fw : Few m s) (hm : m ≤ 12) (hm0 : 0 < m) {f : List Nat} (hs : Says f (prsOf (setsOf s))) (ho : out = (List.range m).map (clsOf f)) {h0 : AHeap} (st : Stands m sid id1 jid s cs out h0) (hj : h0.objs jid = some (bRow m (firstOf out))) (Q : AExit → Fr → AHeap → Prop)
    (hQ : ∀ (h2 : AHeap) (T2 : Nat → Bool), h2.objs jid = some (bRow m T2) → (∀ j, j < m → T2 j = true) → Q (.exit 8) (frOf [(11, .sl jid 0 m 1)]) h2) :
    WP Tryd.prog 144 (.loop c_padlocklaw12_ClassFine_31) (frOf [(0, .int .i64 m), (9, .ptr sid 0), (10, .sl id1 0 m 1), (11, .sl jid 0 m 1), (15, .int .i64 0)]) h0 Q := by
  have hsame : ∀ a b, a < m → b < m → meetR m s a b = true → out[a]? = out[b]? := fun a b ha hb h => by
    rw [ho, map_range_get _ ha, map_range_get _ hb, clsOf_eq.2 (meetR_root fw hs a b h)]
  have hfirst : ∀ k, k < m → (firstOf out k = true ↔ root f k = k) := fun k hk => by rw [ho]; exact firstOf_iff k hk
  obtain ⟨I, hI⟩ : ∃ I : Nat → Fr → AHeap → Prop, I = (fun r fr hh => ∃ (q : Nat) (T1 : Nat → Bool), r = m - q ∧ q ≤ m ∧ Stands m sid id1 jid s cs out hh ∧ hh.objs jid = some (bRow m T1) ∧ (∀ j, j < m → root f j = j → T1 j = true) ∧ Come m (fun a b => meetR m s a b = true) q T1 ∧ fr = frOf [(0, .int .i64 m), (9, .ptr sid 0), (10, .sl id1 0 m 1), (11, .sl jid 0 m 1), (15, .int .i64 q)]) := ⟨_, rfl⟩
  have r0 : root f 0 = 0 := by have := root_le (f := f) 0; omega
  refine WP_loop mixed_ (by kernel_rfl) I m (by
    rw [hI]
    refine ⟨0, _, rfl, Nat.zero_le _, st, hj, fun j hj h => (hfirst j hj).2 h, Or.inr ?_, rfl⟩
    rw [Nat.zero_add]
    exact List.countP_pos_iff.2 ⟨0, List.mem_range.2 hm0, (hfirst 0 hm0).2 r0⟩) ?_
  intro r fr hh hi
  rw [hI] at hi
  obtain ⟨q, T1, rfl, hq, st1, hj1, lead1, come1, rfl⟩ := hi
  apply padlocklaw12_ClassFine_loop31
  (repeat (first | simp -dsimp -implicitDefEqProofs (disch := omega) only [↓gp0, ↓gp1, ↓gp2, gq0, gq1, gq2, gq3, gq4, gq5, gq6, gq7, gq8, gq9, go0, go1, gl0, gl1, gl2, gl3, ↓reduceIte, Nat.reduceEqDiff, Nat.reduceAdd, Nat.reduceLeDiff, pBuild, fillA, ↓Api_Sets.r] | refine Cut.go ?_))
  refine Split_lt (fun hqm => ?_) (fun hqm => ?_)
  · (repeat (first | simp -dsimp -implicitDefEqProofs (disch := omega) only [↓gp0, ↓gp1, ↓gp2, gq0, gq1, gq2, gq3, gq4, gq5, gq6, gq7, gq8, gq9, go0, go1, gl0, gl1, gl2, gl3, ↓reduceIte, Nat.reduceEqDiff, Nat.reduceAdd, Nat.reduceLeDiff, pBuild, fillA, ↓Api_Sets.r] | refine Cut.go ?_))
    refine fine_a fw hm hsame st1 hj1 _ _ ?_
    intro h2 T2 q1 q2 q3 q4
    (repeat (first | simp -dsimp -implicitDefEqProofs (disch := omega) only [↓gp0, ↓gp1, ↓gp2, gq0, gq1, gq2, gq3, gq4, gq5, gq6, gq7, gq8, gq9, go0, go1, gl0, gl1, gl2, gl3, ↓reduceIte, Nat.reduceEqDiff, Nat.reduceAdd, Nat.reduceLeDiff, pBuild, fillA, ↓Api_Sets.r, wk1 q (by omega)] | refine Cut.go ?_))
    rw [loopPost_normal, hI]
    refine ⟨m - (q + 1), by omega, q + 1, T2, rfl, by omega, q1, q2, fun j hj h => q3.up j (lead1 j hj h), come1.next (fun j _ h => q3.up j h) (fun a b ha hb h1 h2 => q4 a b ha hb h1 h2) (fun hcl j hj => ?_), rfl⟩
    have := q3.least T1 (fun j _ h => h) hcl j hj
    cases h1 : T1 j with
    | true => exact q3.up j h1
    | false =>
      cases h2 : T2 j with
      | false => rfl
      | true => rw [this h2] at h1; cases h1
  · (repeat (first | simp -dsimp -implicitDefEqProofs (disch := omega) only [↓gp0, ↓gp1, ↓gp2, gq0, gq1, gq2, gq3, gq4, gq5, gq6, gq7, gq8, gq9, go0, go1, gl0, gl1, gl2, gl3, ↓reduceIte, Nat.reduceEqDiff, Nat.reduceAdd, Nat.reduceLeDiff, pBuild, fillA, ↓Api_Sets.r] | refine Cut.go ?_))
    have e : q = m := by omega
    subst e
    have hcl := come1.end_
    refine hQ hh T1 hj1 (fun j hj => ?_)
    have hle := root_le (f := f) j
    have hc : Conn (MeetP (setsOf s)) (root f j) j := (says_conn fw hs _ _).1 (root_root j)
    have := hc.closed (T := fun j => j < q ∧ T1 j = true) (fun a b hT hab => by
      have hr2 := (meetR_iff fw).2 hab
      have hbq : b < q := by
        obtain ⟨x, _, h⟩ := List.any_eq_true.1 hr2
        simp [meetT] at h
        exact h.2
      exact ⟨hbq, hcl a b hT.1 hbq hT.2 hr2⟩) ⟨by omega, lead1 _ (by omega) (root_root j)⟩
    exact this.2

/-- The first ones. -/
theorem fine_in {k : Nat} (hk : k < m) (hm : m ≤ 12) {hh : AHeap} (st : Stands m sid id1 jid s cs out hh) (A69 : AV) (Q : AExit → Fr → AHeap → Prop)
    (hQ : Q (.exit 6) (frOf [(0, .int .i64 m), (9, .ptr sid 0), (10, .sl id1 0 m 1), (11, .sl jid 0 m 1), (12, .int .i64 k), (13, .bool (firstOf out k)), (69, A69), (70, .int .i64 k)]) hh) :
    WP Tryd.prog 144 (.loop c_padlocklaw12_ClassFine_25) (frOf [(0, .int .i64 m), (9, .ptr sid 0), (10, .sl id1 0 m 1), (11, .sl jid 0 m 1), (12, .int .i64 k), (13, .bool true), (14, .int .i64 0), (69, A69), (70, .int .i64 k)]) hh Q := by
  obtain ⟨I, hI⟩ : ∃ I : Nat → Fr → AHeap → Prop, I = (fun r fr h2 => ∃ (i : Nat), r = k - i ∧ i ≤ k ∧ h2 = hh ∧ fr = frOf [(0, .int .i64 m), (9, .ptr sid 0), (10, .sl id1 0 m 1), (11, .sl jid 0 m 1), (12, .int .i64 k), (13, .bool ((List.range i).all fun i => decide (out[i]? ≠ out[k]?))), (14, .int .i64 i), (69, A69), (70, .int .i64 k)]) := ⟨_, rfl⟩
  refine WP_loop mixed_ (by kernel_rfl) I k (by rw [hI]; exact ⟨0, rfl, Nat.zero_le _, rfl, rfl⟩) ?_
  intro r fr h2 hi
  rw [hI] at hi
  obtain ⟨i, rfl, hi, rfl, rfl⟩ := hi
  apply padlocklaw12_ClassFine_loop25
  (repeat (first | simp -dsimp -implicitDefEqProofs (disch := omega) only [↓gp0, ↓gp1, ↓gp2, gq0, gq1, gq2, gq3, gq4, gq5, gq6, gq7, gq8, gq9, go0, go1, gl0, gl1, gl2, gl3, ↓reduceIte, Nat.reduceEqDiff, Nat.reduceAdd, Nat.reduceLeDiff, pBuild, fillA, ↓Api_Sets.r] | refine Cut.go ?_))
  refine Split_lt (fun hik => ?_) (fun hik => ?_)
  · have hlen := st.len
    have hik2 : i < k := by omega
    obtain ⟨oi, hoi⟩ : ∃ x, out[i]? = some x := ⟨_, List.getElem?_eq_getElem (by omega)⟩
    obtain ⟨ok, hok⟩ : ∃ x, out[k]? = some x := ⟨_, List.getElem?_eq_getElem (by omega)⟩
    have eb : ∀ x y : Nat, ((x : Int) != (y : Int)) = !decide (x = y) := fun x y => by rw [bne]; congr 1; rw [Bool.eq_iff_iff]; simp; omega
    have hstep : ((List.range (i + 1)).all fun i => decide (out[i]? ≠ out[k]?)) = (((List.range i).all fun i => decide (out[i]? ≠ out[k]?)) && !decide (oi = ok)) := by
      rw [List.range_succ, List.all_append]
      simp [hoi, hok]
    rcases hb : (List.range i).all fun i => decide (out[i]? ≠ out[k]?) with _ | _
    · (repeat (first | simp -dsimp -implicitDefEqProofs (disch := omega) only [↓gp0, ↓gp1, ↓gp2, gq0, gq1, gq2, gq3, gq4, gq5, gq6, gq7, gq8, gq9, go0, go1, gl0, gl1, gl2, gl3, ↓reduceIte, Nat.reduceEqDiff, Nat.reduceAdd, Nat.reduceLeDiff, pBuild, fillA, ↓Api_Sets.r, wk1 i (by omega)] | refine Cut.go ?_))
      rw [loopPost_normal, hI]
      exact ⟨k - (i + 1), by omega, i + 1, rfl, by omega, rfl, by rw [hstep, hb]; rfl⟩
    · (repeat (first | simp -dsimp -implicitDefEqProofs (disch := omega) only [↓gp0, ↓gp1, ↓gp2, gq0, gq1, gq2, gq3, gq4, gq5, gq6, gq7, gq8, gq9, go0, go1, gl0, gl1, gl2, gl3, ↓reduceIte, Nat.reduceEqDiff, Nat.reduceAdd, Nat.reduceLeDiff, pBuild, fillA, ↓Api_Sets.r, ix_ns (show i < m by omega), ix_ns hk, ld_ns st.cls hoi, ld_ns st.cls hok, eb, wk1 i (by omega)] | refine Cut.go ?_))
      rw [loopPost_normal, hI]
      exact ⟨k - (i + 1), by omega, i + 1, rfl, by omega, rfl, by rw [hstep, hb, Bool.true_and]⟩
  · (repeat (first | simp -dsimp -implicitDefEqProofs (disch := omega) only [↓gp0, ↓gp1, ↓gp2, gq0, gq1, gq2, gq3, gq4, gq5, gq6, gq7, gq8, gq9, go0, go1, gl0, gl1, gl2, gl3, ↓reduceIte, Nat.reduceEqDiff, Nat.reduceAdd, Nat.reduceLeDiff, pBuild, fillA, ↓Api_Sets.r] | refine Cut.go ?_))
    have e : i = k := by omega
    subst e
    exact hQ
end

theorem ClassFine_does (n : Int) (rows : Option Rws) (hn : okI n) (hr : okSl (okSl okN) rows) (h : AHeap) : CallsA Tryd.prog 4 [.int .i64 n, slAV 1 (fun o => [slAV 1 encN o]) rows] h (fun v h2 => v = .bool true) := by
  apply padlocklaw12_ClassFine_wp
  (repeat (first | simp -dsimp -implicitDefEqProofs (disch := omega) only [↓gp0, ↓gp1, ↓gp2, gq0, gq1, gq2, gq3, gq4, gq5, gq6, gq7, gq8, gq9, go0, go1, gl0, gl1, gl2, gl3, ↓reduceIte, Nat.reduceEqDiff, Nat.reduceAdd, Nat.reduceLeDiff, pBuild, fillA, ↓Api_Sets.r] | refine Cut.go ?_))
  refine CallsA.go (alive_does _) ?_
  have hrl : (slL rows).length ≤ 9223372036854775807 := Nat.le_trans hr.1 (by decide)
  (repeat (first | simp -dsimp -implicitDefEqProofs (disch := omega) only [↓gp0, ↓gp1, ↓gp2, gq0, gq1, gq2, gq3, gq4, gq5, gq6, gq7, gq8, gq9, go0, go1, gl0, gl1, gl2, gl3, ↓reduceIte, Nat.reduceEqDiff, Nat.reduceAdd, Nat.reduceLeDiff, pBuild, fillA, ↓Api_Sets.r, Bool.not_true] | refine Cut.go ?_))
  refine Split_lt (fun h1 => ?_) (fun h1 => ?_)
  · (repeat (first | simp -dsimp -implicitDefEqProofs (disch := omega) only [↓gp0, ↓gp1, ↓gp2, gq0, gq1, gq2, gq3, gq4, gq5, gq6, gq7, gq8, gq9, go0, go1, gl0, gl1, gl2, gl3, ↓reduceIte, Nat.reduceEqDiff, Nat.reduceAdd, Nat.reduceLeDiff, pBuild, fillA, ↓Api_Sets.r] | refine Cut.go ?_))
  (repeat (first | simp -dsimp -implicitDefEqProofs (disch := omega) only [↓gp0, ↓gp1, ↓gp2, gq0, gq1, gq2, gq3, gq4, gq5, gq6, gq7, gq8, gq9, go0, go1, gl0, gl1, gl2, gl3, ↓reduceIte, Nat.reduceEqDiff, Nat.reduceAdd, Nat.reduceLeDiff, pBuild, fillA, ↓Api_Sets.r] | refine Cut.go ?_))
  refine Split_lt (fun h2 => ?_) (fun h2 => ?_)
  · (repeat (first | simp -dsimp -implicitDefEqProofs (disch := omega) only [↓gp0, ↓gp1, ↓gp2, gq0, gq1, gq2, gq3, gq4, gq5, gq6, gq7, gq8, gq9, go0, go1, gl0, gl1, gl2, gl3, ↓reduceIte, Nat.reduceEqDiff, Nat.reduceAdd, Nat.reduceLeDiff, pBuild, fillA, ↓Api_Sets.r] | refine Cut.go ?_))
  (repeat (first | simp -dsimp -implicitDefEqProofs (disch := omega) only [↓gp0, ↓gp1, ↓gp2, gq0, gq1, gq2, gq3, gq4, gq5, gq6, gq7, gq8, gq9, go0, go1, gl0, gl1, gl2, gl3, ↓reduceIte, Nat.reduceEqDiff, Nat.reduceAdd, Nat.reduceLeDiff, pBuild, fillA, ↓Api_Sets.r] | refine Cut.go ?_))
  refine Split_lt (fun h3 => ?_) (fun h3 => ?_)
  · (repeat (first | simp -dsimp -implicitDefEqProofs (disch := omega) only [↓gp0, ↓gp1, ↓gp2, gq0, gq1, gq2, gq3, gq4, gq5, gq6, gq7, gq8, gq9, go0, go1, gl0, gl1, gl2, gl3, ↓reduceIte, Nat.reduceEqDiff, Nat.reduceAdd, Nat.reduceLeDiff, pBuild, fillA, ↓Api_Sets.r] | refine Cut.go ?_))
  obtain ⟨m, rfl⟩ : ∃ m : Nat, n = m := ⟨n.toNat, by omega⟩
  have hm : m ≤ 12 := by omega
  (repeat (first | simp -dsimp -implicitDefEqProofs (disch := omega) only [↓gp0, ↓gp1, ↓gp2, gq0, gq1, gq2, gq3, gq4, gq5, gq6, gq7, gq8, gq9, go0, go1, gl0, gl1, gl2, gl3, ↓reduceIte, Nat.reduceEqDiff, Nat.reduceAdd, Nat.reduceLeDiff, pBuild, fillA, ↓Api_Sets.r] | refine Cut.go ?_))
  refine ClassFine_rows hm rows (by omega) hr h _ ?_ (fun hall => ?_)
  · (repeat (first | simp -dsimp -implicitDefEqProofs (disch := omega) only [↓gp0, ↓gp1, ↓gp2, gq0, gq1, gq2, gq3, gq4, gq5, gq6, gq7, gq8, gq9, go0, go1, gl0, gl1, gl2, gl3, ↓reduceIte, Nat.reduceEqDiff, Nat.reduceAdd, Nat.reduceLeDiff, pBuild, fillA, ↓Api_Sets.r] | refine Cut.go ?_))
  have fw := few_of hm (by omega : (slL rows).length ≤ 1000) hall
  (repeat (first | simp -dsimp -implicitDefEqProofs (disch := omega) only [↓gp0, ↓gp1, ↓gp2, gq0, gq1, gq2, gq3, gq4, gq5, gq6, gq7, gq8, gq9, go0, go1, gl0, gl1, gl2, gl3, ↓reduceIte, Nat.reduceEqDiff, Nat.reduceAdd, Nat.reduceLeDiff, pBuild, fillA, ↓Api_Sets.r] | refine Cut.go ?_))
  refine (sets_does rows (by omega) _).mono ?_
  rintro _ H1 ⟨cs, rfl, l1, f1, y1, s1, k1⟩
  (repeat (first | simp -dsimp -implicitDefEqProofs (disch := omega) only [↓gp0, ↓gp1, ↓gp2, gq0, gq1, gq2, gq3, gq4, gq5, gq6, gq7, gq8, gq9, go0, go1, gl0, gl1, gl2, gl3, ↓reduceIte, Nat.reduceEqDiff, Nat.reduceAdd, Nat.reduceLeDiff, pBuild, fillA, ↓Api_Sets.r] | refine Cut.go ?_))
  have st1 : ∀ (K : AHeap → Prop), pStore 3 (.ptr H1.next 0) (.agg cs) (H1.push (.row 29 [AV.nils, AV.nils, AV.nils])) K = K (H1.push (.row 29 cs)) := fun K => pStore_push (by rfl) l1 K
  have ld1 : ∀ (K : AV → Prop), pLoad (some 3) (.ptr H1.next 0) (H1.push (.row 29 cs)) K = K (.agg cs) := fun K => by
    rw [pLoad_ptr (push_new _ _)]
    simp [pCells, l1]
    have : cs.take 3 = cs := List.take_of_length_le (by omega)
    rw [this]
  (repeat (first | simp -dsimp -implicitDefEqProofs (disch := omega) only [↓gp0, ↓gp1, ↓gp2, gq0, gq1, gq2, gq3, gq4, gq5, gq6, gq7, gq8, gq9, go0, go1, gl0, gl1, gl2, gl3, ↓reduceIte, Nat.reduceEqDiff, Nat.reduceAdd, Nat.reduceLeDiff, pBuild, fillA, ↓Api_Sets.r, ↓st1, ↓ld1] | refine Cut.go ?_))
  refine (split_sub hm fw s1 _).mono ?_
  rintro _ H2 ⟨id1, out, rfl, ho1, n1, lt1, k2, c1, e1⟩
  rw [e1]
  obtain ⟨f, hsay, hfl, hout⟩ := c1
  (repeat (first | simp -dsimp -implicitDefEqProofs (disch := omega) only [↓gp0, ↓gp1, ↓gp2, gq0, gq1, gq2, gq3, gq4, gq5, gq6, gq7, gq8, gq9, go0, go1, gl0, gl1, gl2, gl3, ↓reduceIte, Nat.reduceEqDiff, Nat.reduceAdd, Nat.reduceLeDiff, pBuild, fillA, ↓Api_Sets.r, bne_self_eq_false] | refine Cut.go ?_))
  rw [mk_bs m (by omega)]
  (repeat (first | simp -dsimp -implicitDefEqProofs (disch := omega) only [↓gp0, ↓gp1, ↓gp2, gq0, gq1, gq2, gq3, gq4, gq5, gq6, gq7, gq8, gq9, go0, go1, gl0, gl1, gl2, gl3, ↓reduceIte, Nat.reduceEqDiff, Nat.reduceAdd, Nat.reduceLeDiff, pBuild, fillA, ↓Api_Sets.r] | refine Cut.go ?_))
  have hsid : H2.objs H1.next = some (.row 29 cs) := by rw [k2.objs _ (by simp) (by simp)]; exact push_new _ _
  have hn2 := k2.next
  simp only [AHeap.push_next] at hn2 n1
  have stA : Stands m H1.next id1 H2.next (setsS (slL rows)) cs out (H2.push (bRow m fun _ => false)) := ⟨by rw [push_old (by omega)]; exact hsid, l1, s1, by rw [push_old lt1]; exact ho1, e1, by omega, by omega⟩
  obtain ⟨I, hI⟩ : ∃ I : Nat → Fr → AHeap → Prop, I = (fun r fr hh => ∃ (k : Nat) (T : Nat → Bool), r = m - k ∧ k ≤ m ∧ Stands m H1.next id1 H2.next (setsS (slL rows)) cs out hh ∧ hh.objs H2.next = some (bRow m T) ∧ (∀ j, j < k → T j = firstOf out j) ∧ fr = frOf [(0, .int .i64 m), (9, .ptr H1.next 0), (10, .sl id1 0 m 1), (11, .sl H2.next 0 m 1), (69, .int .i64 m), (70, .int .i64 k)]) := ⟨_, rfl⟩
  refine WP_loop mixed_ (by kernel_rfl) I m (by rw [hI]; exact ⟨0, _, rfl, Nat.zero_le _, stA, push_new _ _, by omega, rfl⟩) ?_
  intro r fr hh hi
  rw [hI] at hi
  obtain ⟨k, T, rfl, hk, st, hj, hT, rfl⟩ := hi
  apply padlocklaw12_ClassFine_loop21
  (repeat (first | simp -dsimp -implicitDefEqProofs (disch := omega) only [↓gp0, ↓gp1, ↓gp2, gq0, gq1, gq2, gq3, gq4, gq5, gq6, gq7, gq8, gq9, go0, go1, gl0, gl1, gl2, gl3, ↓reduceIte, Nat.reduceEqDiff, Nat.reduceAdd, Nat.reduceLeDiff, pBuild, fillA, ↓Api_Sets.r] | refine Cut.go ?_))
  refine Split_lt (fun hkm => ?_) (fun hkm => ?_)
  · have hk2 : k < m := by omega
    (repeat (first | simp -dsimp -implicitDefEqProofs (disch := omega) only [↓gp0, ↓gp1, ↓gp2, gq0, gq1, gq2, gq3, gq4, gq5, gq6, gq7, gq8, gq9, go0, go1, gl0, gl1, gl2, gl3, ↓reduceIte, Nat.reduceEqDiff, Nat.reduceAdd, Nat.reduceLeDiff, pBuild, fillA, ↓Api_Sets.r] | refine Cut.go ?_))
    refine fine_in hk2 hm st _ _ ?_
    (repeat (first | simp -dsimp -implicitDefEqProofs (disch := omega) only [↓gp0, ↓gp1, ↓gp2, gq0, gq1, gq2, gq3, gq4, gq5, gq6, gq7, gq8, gq9, go0, go1, gl0, gl1, gl2, gl3, ↓reduceIte, Nat.reduceEqDiff, Nat.reduceAdd, Nat.reduceLeDiff, pBuild, fillA, ↓Api_Sets.r, ix_ns hk2, st_bs hj hk2, wk1 k (by omega)] | refine Cut.go ?_))
    rw [loopPost_normal, hI]
    refine ⟨m - (k + 1), by omega, k + 1, _, rfl, by omega, st.put _, put_new _ _ _, fun j hj => ?_, rfl⟩
    by_cases e : j = k
    · rw [if_pos e, e]
    · rw [if_neg e]; exact hT j (by omega)
  have ek : k = m := by omega
  subst ek
  (repeat (first | simp -dsimp -implicitDefEqProofs (disch := omega) only [↓gp0, ↓gp1, ↓gp2, gq0, gq1, gq2, gq3, gq4, gq5, gq6, gq7, gq8, gq9, go0, go1, gl0, gl1, gl2, gl3, ↓reduceIte, Nat.reduceEqDiff, Nat.reduceAdd, Nat.reduceLeDiff, pBuild, fillA, ↓Api_Sets.r] | refine Cut.go ?_))
  have hj2 : hh.objs H2.next = some (bRow k (firstOf out)) := by
    rw [hj]
    unfold bRow
    congr 3
    apply List.map_congr_left
    intro j hjj
    exact hT j (List.mem_range.1 hjj)
  refine fine_rounds fw hm (by omega) hsay hout st hj2 _ ?_
  intro h5 T2 q1 q2
  (repeat (first | simp -dsimp -implicitDefEqProofs (disch := omega) only [↓gp0, ↓gp1, ↓gp2, gq0, gq1, gq2, gq3, gq4, gq5, gq6, gq7, gq8, gq9, go0, go1, gl0, gl1, gl2, gl3, ↓reduceIte, Nat.reduceEqDiff, Nat.reduceAdd, Nat.reduceLeDiff, pBuild, fillA, ↓Api_Sets.r] | refine Cut.go ?_))
  obtain ⟨J, hJ⟩ : ∃ J : Nat → Fr → AHeap → Prop, J = (fun r fr hh => ∃ (i : Nat), r = k - i ∧ i ≤ k ∧ hh = h5 ∧ fr = frOf [(135, .sl H2.next 0 k 1), (136, .int .i64 k), (137, .int .i64 i)]) := ⟨_, rfl⟩
  refine WP_loop mixed_ (by kernel_rfl) J k (by rw [hJ]; exact ⟨0, rfl, Nat.zero_le _, rfl, rfl⟩) ?_
  intro r fr h6 hi
  rw [hJ] at hi
  obtain ⟨i, rfl, hi, rfl, rfl⟩ := hi
  apply padlocklaw12_ClassFine_loop42
  (repeat (first | simp -dsimp -implicitDefEqProofs (disch := omega) only [↓gp0, ↓gp1, ↓gp2, gq0, gq1, gq2, gq3, gq4, gq5, gq6, gq7, gq8, gq9, go0, go1, gl0, gl1, gl2, gl3, ↓reduceIte, Nat.reduceEqDiff, Nat.reduceAdd, Nat.reduceLeDiff, pBuild, fillA, ↓Api_Sets.r] | refine Cut.go ?_))
  refine Split_lt (fun hik => ?_) (fun hik => ?_)
  · have hi2 : i < k := by omega
    (repeat (first | simp -dsimp -implicitDefEqProofs (disch := omega) only [↓gp0, ↓gp1, ↓gp2, gq0, gq1, gq2, gq3, gq4, gq5, gq6, gq7, gq8, gq9, go0, go1, gl0, gl1, gl2, gl3, ↓reduceIte, Nat.reduceEqDiff, Nat.reduceAdd, Nat.reduceLeDiff, pBuild, fillA, ↓Api_Sets.r, ix_ns hi2, ld_bs q1 hi2, q2 i hi2, wk1 i (by omega)] | refine Cut.go ?_))
    rw [loopPost_normal, hJ]
    exact ⟨_, by omega, i + 1, rfl, by omega, rfl, rfl⟩
  · (repeat (first | simp -dsimp -implicitDefEqProofs (disch := omega) only [↓gp0, ↓gp1, ↓gp2, gq0, gq1, gq2, gq3, gq4, gq5, gq6, gq7, gq8, gq9, go0, go1, gl0, gl1, gl2, gl3, ↓reduceIte, Nat.reduceEqDiff, Nat.reduceAdd, Nat.reduceLeDiff, pBuild, fillA, ↓Api_Sets.r] | refine Cut.go ?_))
end Go.Proofs.YtopfjochppdnfaaDoor
