/- The document's Split: round by round. -/
import Derived.Test.YtopfjochppdnfaaDoorClRef
set_option linter.unusedVariables false
set_option linter.unusedSimpArgs false
set_option maxRecDepth 100000
set_option maxHeartbeats 1000000
namespace Go.Proofs.YtopfjochppdnfaaDoor
open Go.Abs

theorem meets_does (n : Int) (s : St) (hs : (slL s.Slots).length ≤ 100000) (hf : (slL s.Fields).length ≤ 100000) (hl : ∀ o ∈ rowsOf s, (slL o).length ≤ 100000) (hx : ∀ x ∈ setsOf s, x < 18446744073709551616) (a b : Nat) (ha : a ≤ 1000000) (hb : b ≤ 1000000) (h : AHeap) :
    CallsA Tryd.prog 18 [.int .i64 n, .agg s.cells, .int .i64 (a : Nat), .int .i64 (b : Nat)] h (fun v h2 => v = .bool ((setsOf s).any (meetT n a b)) ∧ h2 = h) :=
  CallsA.forget (by simp [idsIn]) (meets_k n s hs hf hl hx a b ha hb h)

/-! ### Forests that say the same -/
theorem says_unique {f g : List Nat} {P : List (Nat × Nat)} (hf : Says f P) (hg : Says g P) (x : Nat) : root f x = root g x := by
  have key : ∀ {f g : List Nat}, Says f P → Says g P → root f x ≤ root g x := fun {f g} hf hg => by
    have h1 : root g (root g x) = root g x := root_root x
    have h2 := (hf.2 _ _).2 ((hg.2 _ _).1 h1)
    rw [← h2]; exact root_le _
  exact Nat.le_antisymm (key hf hg) (key hg hf)
theorem says_exists (m : Nat) : ∀ (P : List (Nat × Nat)), (∀ p ∈ P, p.1 < m ∧ p.2 < m) → ∃ f, Says f P ∧ f.length = m := by
  intro P
  obtain ⟨Q, hQ⟩ : ∃ Q, Q = P.reverse := ⟨_, rfl⟩
  have hP : P = Q.reverse := by rw [hQ, List.reverse_reverse]
  subst hP
  clear hQ
  induction Q with
  | nil => intro _; exact ⟨List.range m, Says.start m, by simp⟩
  | cons p Q ih =>
    intro h
    rw [List.reverse_cons] at h ⊢
    obtain ⟨f, h1, h2⟩ := ih (fun q hq => h q (by simp at hq ⊢; exact Or.inl hq))
    obtain ⟨p1, p2⟩ := h p (by simp)
    exact ⟨_, h1.link (by omega) (by omega), by simpa using h2⟩
theorem prs_lt {S : List Nat} {m : Nat} (hx : ∀ x ∈ S, ∀ k ∈ bitsOf x, k < m) : ∀ p ∈ prsOf S, p.1 < m ∧ p.2 < m := by
  intro p hp
  simp only [prsOf, List.mem_flatten, List.mem_map] at hp
  obtain ⟨l, ⟨x, hx1, rfl⟩, h⟩ := hp
  simp only [List.mem_map] at h
  obtain ⟨k, hk, rfl⟩ := h
  exact ⟨hx x hx1 _ (firstB_mem hk), hx x hx1 k hk⟩
theorem says_get {S : List Nat} {m : Nat} (hx : ∀ x ∈ S, ∀ k ∈ bitsOf x, k < m) : ∃ f, Says f (prsOf S) ∧ f.length = m := says_exists m _ (prs_lt hx)
theorem isCls_of {S out : List Nat} {m : Nat} {f : List Nat} (hf : Says f (prsOf S)) (h : IsCls m S out) : out = (List.range m).map (clsOf f) := by
  obtain ⟨g, h1, h2, rfl⟩ := h
  have : clsOf g = clsOf f := by funext k; exact clsOf_congr (says_unique h1 hf) k
  rw [this]

/-! ### Lists by their places -/
theorem map_range_set {m k : Nat} (g : Nat → Nat) (v : Nat) : ((List.range m).map g).set k v = (List.range m).map (fun j => if j = k then v else g j) := by
  apply List.ext_getElem?
  intro i
  rw [List.getElem?_set, List.getElem?_map, List.getElem?_map]
  by_cases hi : i < m
  · rw [List.getElem?_range hi]
    by_cases e : k = i
    · subst e; simp [hi]
    · rw [if_neg e]; simp [Ne.symm e]
  · rw [List.getElem?_eq_none (by simpa using hi)]
    by_cases e : k = i
    · subst e; simp [hi]
    · rw [if_neg e]; rfl
theorem map_range_get {m k : Nat} (g : Nat → Nat) (hk : k < m) : ((List.range m).map g)[k]? = some (g k) := by
  rw [List.getElem?_map, List.getElem?_range hk]; rfl

/-- The row of classes while the class of site k is gathered. -/
def mkO (f : List Nat) (k : Nat) (T : Nat → Bool) (j : Nat) : Nat := if root f j < k then clsOf f j else if T j then leadsB f k + 1 else 0
theorem cls_lt {f : List Nat} {k j : Nat} (h : root f j < k) : clsOf f j ≤ leadsB f k := by
  unfold clsOf
  have h1 := leadsB_mono f (show root f j + 1 ≤ k from h)
  rw [leadsB_succ, if_pos (root_root j)] at h1
  omega
theorem mkO_eq {f : List Nat} {k j : Nat} {T : Nat → Bool} (hT : T j = true → root f j = k) : (mkO f k T j = leadsB f k + 1) ↔ T j = true := by
  unfold mkO
  by_cases h : root f j < k
  · rw [if_pos h]
    have := cls_lt h
    constructor
    · intro e; omega
    · intro e; have := hT e; omega
  · rw [if_neg h]
    cases T j <;> simp
theorem mkO_zero {f : List Nat} {k j : Nat} {T : Nat → Bool} : (mkO f k T j = 0) ↔ ¬ root f j < k ∧ T j = false := by
  unfold mkO
  by_cases h : root f j < k
  · rw [if_pos h]; simp [clsOf, h]
  · rw [if_neg h]
    cases T j <;> simp [h]
theorem mkO_set {f : List Nat} {k m b : Nat} {T : Nat → Bool} (hb : ¬ root f b < k) : ((List.range m).map (mkO f k T)).set b (leadsB f k + 1) = (List.range m).map (mkO f k fun j => T j || decide (j = b)) := by
  rw [map_range_set]
  congr 1
  funext j
  by_cases e : j = b
  · subst e; rw [if_pos rfl]; unfold mkO; rw [if_neg hb]; simp
  · rw [if_neg e]; unfold mkO; simp [e]

/-- What is known of the gathered set. -/
structure Gath (f : List Nat) (m k : Nat) (R : Nat → Nat → Bool) (T0 T : Nat → Bool) : Prop where
  own : ∀ j, T j = true → root f j = k
  up : ∀ j, T0 j = true → T j = true
  least : ∀ X : Nat → Bool, (∀ j, j < m → T0 j = true → X j = true) → (∀ a b, a < m → b < m → X a = true → R a b = true → X b = true) → ∀ j, j < m → T j = true → X j = true
theorem Gath.add {f : List Nat} {m k a b : Nat} {R : Nat → Nat → Bool} {T0 T : Nat → Bool} (g : Gath f m k R T0 T) (hR : ∀ a b, R a b = true → root f a = root f b) (ha : a < m) (hb : b < m) (hTa : T a = true) (hab : R a b = true) : Gath f m k R T0 (fun j => T j || decide (j = b)) := by
  refine ⟨fun j hj => ?_, fun j hj => by simp [g.up j hj], fun X h1 h2 j hjm hj => ?_⟩
  · simp at hj
    rcases hj with hj | rfl
    · exact g.own j hj
    · rw [← hR a j hab]; exact g.own a hTa
  · simp at hj
    rcases hj with hj | rfl
    · exact g.least X h1 h2 j hjm hj
    · exact h2 a j ha hb (g.least X h1 h2 a ha hTa) hab

section
variable {s : St} {m : Nat} {f : List Nat}

/-- One site a against all sites b. -/
theorem ref_b (hs : (slL s.Slots).length ≤ 100000) (hf : (slL s.Fields).length ≤ 100000) (hl : ∀ o ∈ rowsOf s, (slL o).length ≤ 100000) (hx : ∀ x ∈ setsOf s, x < 18446744073709551616) (hm : m ≤ 1000) (hR : ∀ a b, (setsOf s).any (meetT m a b) = true → root f a = root f b)
    {k a : Nat} (ha : a < m) {T0 T : Nat → Bool} (g0 : Gath f m k (fun a b => (setsOf s).any (meetT m a b)) T0 T) {oid : Nat} {h0 : AHeap} (ho : h0.objs oid = some (.row 3 (nsAV ((List.range m).map (mkO f k T))))) (A8 A9 : AV) (Q : AExit → Fr → AHeap → Prop)
    (hQ : ∀ (h2 : AHeap) (T2 : Nat → Bool), h2.objs oid = some (.row 3 (nsAV ((List.range m).map (mkO f k T2)))) → Gath f m k (fun a b => (setsOf s).any (meetT m a b)) T0 T2 → (∀ j, T j = true → T2 j = true) → (T a = true → ∀ b, b < m → (setsOf s).any (meetT m a b) = true → T2 b = true) → Keeps h0 h2 (fun i => i = oid) → Q (.exit 8) (frOf [(0, .int .i64 m), (3, .iptr s.cells), (5, .sl oid 0 m 1), (6, .int .i64 ((leadsB f k + 1 : Nat) : Int)), (8, A8), (9, A9), (10, .int .i64 a)]) h2) :
    WP Tryd.prog 76 (.loop c_padlockref12_Split_20) (frOf [(0, .int .i64 m), (3, .iptr s.cells), (5, .sl oid 0 m 1), (6, .int .i64 ((leadsB f k + 1 : Nat) : Int)), (8, A8), (9, A9), (10, .int .i64 a), (11, .int .i64 0)]) h0 Q := by
  obtain ⟨I, hI⟩ : ∃ I : Nat → Fr → AHeap → Prop, I = (fun r fr hh => ∃ (b : Nat) (T1 : Nat → Bool), r = m - b ∧ b ≤ m ∧ hh.objs oid = some (.row 3 (nsAV ((List.range m).map (mkO f k T1)))) ∧ Gath f m k (fun a b => (setsOf s).any (meetT m a b)) T0 T1 ∧ (∀ j, T j = true → T1 j = true) ∧ (T a = true → ∀ b', b' < b → (setsOf s).any (meetT m a b') = true → T1 b' = true) ∧ Keeps h0 hh (fun i => i = oid) ∧ fr = frOf [(0, .int .i64 m), (3, .iptr s.cells), (5, .sl oid 0 m 1), (6, .int .i64 ((leadsB f k + 1 : Nat) : Int)), (8, A8), (9, A9), (10, .int .i64 a), (11, .int .i64 b)]) := ⟨_, rfl⟩
  refine WP_loop mixed_ (by kernel_rfl) I m (by rw [hI]; exact ⟨0, T, rfl, Nat.zero_le _, ho, g0, fun _ h => h, fun _ b' hb' => by omega, Keeps.refl _ _, rfl⟩) ?_
  intro r fr hh hi
  rw [hI] at hi
  obtain ⟨b, T1, rfl, hb, ho1, g1, up1, cl1, kp, rfl⟩ := hi
  apply padlockref12_Split_loop20
  (repeat (first | simp -dsimp -implicitDefEqProofs (disch := omega) only [↓gp0, ↓gp1, ↓gp2, gq0, gq1, gq2, gq3, gq4, gq5, gq6, gq7, gq8, gq9, go0, go1, gl0, gl1, gl2, gl3, ↓reduceIte, Nat.reduceEqDiff, Nat.reduceAdd, Nat.reduceLeDiff, pBuild, fillA, ↓Api_Sets.r] | refine Cut.go ?_))
  refine Split_lt (fun hbm => ?_) (fun hbm => ?_)
  · have hbm2 : b < m := by omega
    have step : ∀ (T2 : Nat → Bool) (h2 : AHeap), h2.objs oid = some (.row 3 (nsAV ((List.range m).map (mkO f k T2)))) → Gath f m k (fun a b => (setsOf s).any (meetT m a b)) T0 T2 → (∀ j, T1 j = true → T2 j = true) → (T a = true → (setsOf s).any (meetT m a b) = true → T2 b = true) → Keeps h0 h2 (fun i => i = oid) →
        loopPost I (m - b) Q .normal (frOf [(0, .int .i64 m), (3, .iptr s.cells), (5, .sl oid 0 m 1), (6, .int .i64 ((leadsB f k + 1 : Nat) : Int)), (8, A8), (9, A9), (10, .int .i64 a), (11, .int .i64 ((b + 1 : Nat) : Int))]) h2 := by
      intro T2 h2 q1 q2 q3 q4 q5
      rw [loopPost_normal, hI]
      refine ⟨m - (b + 1), by omega, b + 1, T2, rfl, by omega, q1, q2, fun j hj => q3 j (up1 j hj), fun hTa b' hb' hm' => ?_, q5, rfl⟩
      by_cases e : b' = b
      · subst e; exact q4 hTa hm'
      · exact q3 _ (cl1 hTa b' (by omega) hm')
    have beq : ∀ x y : Nat, ((x : Int) == (y : Int)) = decide (x = y) := fun x y => by rw [Bool.eq_iff_iff]; simp; omega
    have beq0 : ∀ x : Nat, ((x : Int) == 0) = decide (x = 0) := fun x => by rw [Bool.eq_iff_iff]; simp
    (repeat (first | simp -dsimp -implicitDefEqProofs (disch := omega) only [↓gp0, ↓gp1, ↓gp2, gq0, gq1, gq2, gq3, gq4, gq5, gq6, gq7, gq8, gq9, go0, go1, gl0, gl1, gl2, gl3, ↓reduceIte, Nat.reduceEqDiff, Nat.reduceAdd, Nat.reduceLeDiff, pBuild, fillA, ↓Api_Sets.r, ix_ns ha, ix_ns hbm2, ld_ns ho1 (map_range_get _ ha), ld_ns ho1 (map_range_get _ hbm2), beq, beq0] | refine Cut.go ?_))
    by_cases h1 : mkO f k T1 a = leadsB f k + 1
    · have hTa := (mkO_eq (g1.own a)).1 h1
      rw [decide_eq_true h1]
      (repeat (first | simp -dsimp -implicitDefEqProofs (disch := omega) only [↓gp0, ↓gp1, ↓gp2, gq0, gq1, gq2, gq3, gq4, gq5, gq6, gq7, gq8, gq9, go0, go1, gl0, gl1, gl2, gl3, ↓reduceIte, Nat.reduceEqDiff, Nat.reduceAdd, Nat.reduceLeDiff, pBuild, fillA, ↓Api_Sets.r, ix_ns ha, ix_ns hbm2, ld_ns ho1 (map_range_get _ ha), ld_ns ho1 (map_range_get _ hbm2), beq, beq0] | refine Cut.go ?_))
      by_cases h2 : mkO f k T1 b = 0
      · obtain ⟨h3, h4⟩ := mkO_zero.1 h2
        rw [decide_eq_true h2]
        (repeat (first | simp -dsimp -implicitDefEqProofs (disch := omega) only [↓gp0, ↓gp1, ↓gp2, gq0, gq1, gq2, gq3, gq4, gq5, gq6, gq7, gq8, gq9, go0, go1, gl0, gl1, gl2, gl3, ↓reduceIte, Nat.reduceEqDiff, Nat.reduceAdd, Nat.reduceLeDiff, pBuild, fillA, ↓Api_Sets.r] | refine Cut.go ?_))
        refine CallsA.go (meets_does m s hs hf hl hx a b (by omega) (by omega) _) ?_
        rcases hme : (setsOf s).any (meetT m a b) with _ | _
        · (repeat (first | simp -dsimp -implicitDefEqProofs (disch := omega) only [↓gp0, ↓gp1, ↓gp2, gq0, gq1, gq2, gq3, gq4, gq5, gq6, gq7, gq8, gq9, go0, go1, gl0, gl1, gl2, gl3, ↓reduceIte, Nat.reduceEqDiff, Nat.reduceAdd, Nat.reduceLeDiff, pBuild, fillA, ↓Api_Sets.r, wk1 b (by omega)] | refine Cut.go ?_))
          exact step T1 hh ho1 g1 (fun _ h => h) (fun _ h => by rw [hme] at h; cases h) kp
        · have hl1 : leadsB f k + 1 = leadsB f k + 1 := rfl
          (repeat (first | simp -dsimp -implicitDefEqProofs (disch := omega) only [↓gp0, ↓gp1, ↓gp2, gq0, gq1, gq2, gq3, gq4, gq5, gq6, gq7, gq8, gq9, go0, go1, gl0, gl1, gl2, gl3, ↓reduceIte, Nat.reduceEqDiff, Nat.reduceAdd, Nat.reduceLeDiff, pBuild, fillA, ↓Api_Sets.r, ix_ns hbm2, st_ns ho1 (show b < ((List.range m).map (mkO f k T1)).length by simpa using hbm2), wk1 b (by omega)] | refine Cut.go ?_))
          refine step _ _ (by rw [put_new, mkO_set h3]) (g1.add hR ha hbm2 hTa hme) (fun j hj => by simp [hj]) (fun _ _ => by simp) (kp.putS rfl _)
      · rw [decide_eq_false h2]
        (repeat (first | simp -dsimp -implicitDefEqProofs (disch := omega) only [↓gp0, ↓gp1, ↓gp2, gq0, gq1, gq2, gq3, gq4, gq5, gq6, gq7, gq8, gq9, go0, go1, gl0, gl1, gl2, gl3, ↓reduceIte, Nat.reduceEqDiff, Nat.reduceAdd, Nat.reduceLeDiff, pBuild, fillA, ↓Api_Sets.r, wk1 b (by omega)] | refine Cut.go ?_))
        refine step T1 hh ho1 g1 (fun _ h => h) (fun _ hme => ?_) kp
        cases hTb : T1 b with
        | true => rfl
        | false =>
          have hrb := hR a b hme
          rw [g1.own a hTa] at hrb
          exact absurd (mkO_zero.2 ⟨by omega, hTb⟩) h2
    · rw [decide_eq_false h1]
      (repeat (first | simp -dsimp -implicitDefEqProofs (disch := omega) only [↓gp0, ↓gp1, ↓gp2, gq0, gq1, gq2, gq3, gq4, gq5, gq6, gq7, gq8, gq9, go0, go1, gl0, gl1, gl2, gl3, ↓reduceIte, Nat.reduceEqDiff, Nat.reduceAdd, Nat.reduceLeDiff, pBuild, fillA, ↓Api_Sets.r, wk1 b (by omega)] | refine Cut.go ?_))
      exact step T1 hh ho1 g1 (fun _ h => h) (fun hTa _ => absurd ((mkO_eq (g1.own a)).2 (up1 a hTa)) h1) kp
  · (repeat (first | simp -dsimp -implicitDefEqProofs (disch := omega) only [↓gp0, ↓gp1, ↓gp2, gq0, gq1, gq2, gq3, gq4, gq5, gq6, gq7, gq8, gq9, go0, go1, gl0, gl1, gl2, gl3, ↓reduceIte, Nat.reduceEqDiff, Nat.reduceAdd, Nat.reduceLeDiff, pBuild, fillA, ↓Api_Sets.r] | refine Cut.go ?_))
    have e : b = m := by omega
    subst e
    exact hQ hh T1 ho1 g1 up1 (fun h b' hb' hm' => cl1 h b' hb' hm') kp
end
end Go.Proofs.YtopfjochppdnfaaDoor
