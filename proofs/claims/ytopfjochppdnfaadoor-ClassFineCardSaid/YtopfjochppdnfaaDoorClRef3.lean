/- The document's Split: all rounds, all sites. -/
import Derived.Test.YtopfjochppdnfaaDoorClRef2
set_option linter.unusedVariables false
set_option linter.unusedSimpArgs false
set_option maxRecDepth 100000
set_option maxHeartbeats 1000000
namespace Go.Proofs.YtopfjochppdnfaaDoor
open Go.Abs

/-- What is asked of sets, that they be walked. -/
structure Few (m : Nat) (s : St) : Prop where
  slots : (slL s.Slots).length ≤ 100000
  fields : (slL s.Fields).length ≤ 100000
  rows : ∀ o ∈ rowsOf s, (slL o).length ≤ 100000
  sets : ∀ x ∈ setsOf s, x < 18446744073709551616
  bits : ∀ x ∈ setsOf s, ∀ k ∈ bitsOf x, k < m

def meetR (m : Nat) (s : St) (a b : Nat) : Bool := (setsOf s).any (meetT m a b)
theorem meetR_iff {m : Nat} {s : St} {a b : Nat} (fw : Few m s) : meetR m s a b = true ↔ MeetP (setsOf s) a b := by
  unfold meetR
  rw [List.any_eq_true]
  constructor
  · rintro ⟨x, hx, h⟩
    simp [meetT] at h
    exact ⟨x, hx, h.1.1.1, h.1.1.2⟩
  · rintro ⟨x, hx, h1, h2⟩
    have hb : ∀ k, x.testBit k = true → k < m := fun k hk => by
      have h64 : k < 64 := by
        apply Classical.byContradiction
        intro hn
        have : x < 2 ^ k := Nat.lt_of_lt_of_le (show x < 2 ^ 64 by simpa using fw.sets x hx) (Nat.pow_le_pow_right (by decide) (by omega))
        rw [Nat.testBit_lt_two_pow this] at hk; cases hk
      exact fw.bits x hx k (mem_bits.2 ⟨h64, hk⟩)
    have b1 := hb a h1
    have b2 := hb b h2
    refine ⟨x, hx, ?_⟩
    simp [meetT, h1, h2]; omega
theorem says_conn {m : Nat} {s : St} {f : List Nat} (fw : Few m s) (hf : Says f (prsOf (setsOf s))) (a b : Nat) : root f a = root f b ↔ Conn (MeetP (setsOf s)) a b := by
  rw [hf.2, conn_prs (fun x hx => by simpa using fw.sets x hx)]
theorem meetR_root {m : Nat} {s : St} {f : List Nat} (fw : Few m s) (hf : Says f (prsOf (setsOf s))) (a b : Nat) (h : meetR m s a b = true) : root f a = root f b :=
  (says_conn fw hf a b).2 (Conn.one ((meetR_iff fw).1 h))

section
variable {s : St} {m : Nat} {f : List Nat}

/-- A round: all sites a. -/
theorem ref_a (fw : Few m s) (hm : m ≤ 1000) (hs : Says f (prsOf (setsOf s))) {k : Nat} {T : Nat → Bool} (hT : ∀ j, T j = true → root f j = k) {oid : Nat} {h0 : AHeap} (ho : h0.objs oid = some (.row 3 (nsAV ((List.range m).map (mkO f k T))))) (A8 A9 : AV) (Q : AExit → Fr → AHeap → Prop)
    (hQ : ∀ (h2 : AHeap) (T2 : Nat → Bool), h2.objs oid = some (.row 3 (nsAV ((List.range m).map (mkO f k T2)))) → Gath f m k (meetR m s) T T2 → (∀ a b, a < m → b < m → T a = true → meetR m s a b = true → T2 b = true) → Keeps h0 h2 (fun i => i = oid) → Q (.exit 6) (frOf [(0, .int .i64 m), (3, .iptr s.cells), (5, .sl oid 0 m 1), (6, .int .i64 ((leadsB f k + 1 : Nat) : Int)), (8, A8), (9, A9)]) h2) :
    WP Tryd.prog 76 (.loop c_padlockref12_Split_17) (frOf [(0, .int .i64 m), (3, .iptr s.cells), (5, .sl oid 0 m 1), (6, .int .i64 ((leadsB f k + 1 : Nat) : Int)), (8, A8), (9, A9), (10, .int .i64 0)]) h0 Q := by
  obtain ⟨I, hI⟩ : ∃ I : Nat → Fr → AHeap → Prop, I = (fun r fr hh => ∃ (a : Nat) (T1 : Nat → Bool), r = m - a ∧ a ≤ m ∧ hh.objs oid = some (.row 3 (nsAV ((List.range m).map (mkO f k T1)))) ∧ Gath f m k (meetR m s) T T1 ∧ (∀ a' b, a' < a → b < m → T a' = true → meetR m s a' b = true → T1 b = true) ∧ Keeps h0 hh (fun i => i = oid) ∧ fr = frOf [(0, .int .i64 m), (3, .iptr s.cells), (5, .sl oid 0 m 1), (6, .int .i64 ((leadsB f k + 1 : Nat) : Int)), (8, A8), (9, A9), (10, .int .i64 a)]) := ⟨_, rfl⟩
  refine WP_loop mixed_ (by kernel_rfl) I m (by rw [hI]; exact ⟨0, T, rfl, Nat.zero_le _, ho, ⟨hT, fun _ h => h, fun X h1 _ j hj h => h1 j hj h⟩, fun _ _ h => by omega, Keeps.refl _ _, rfl⟩) ?_
  intro r fr hh hi
  rw [hI] at hi
  obtain ⟨a, T1, rfl, ha, ho1, g1, cl1, kp, rfl⟩ := hi
  apply padlockref12_Split_loop17
  (repeat (first | simp -dsimp -implicitDefEqProofs (disch := omega) only [↓gp0, ↓gp1, ↓gp2, gq0, gq1, gq2, gq3, gq4, gq5, gq6, gq7, gq8, gq9, go0, go1, gl0, gl1, gl2, gl3, ↓reduceIte, Nat.reduceEqDiff, Nat.reduceAdd, Nat.reduceLeDiff, pBuild, fillA, ↓Api_Sets.r] | refine Cut.go ?_))
  refine Split_lt (fun ham => ?_) (fun ham => ?_)
  · (repeat (first | simp -dsimp -implicitDefEqProofs (disch := omega) only [↓gp0, ↓gp1, ↓gp2, gq0, gq1, gq2, gq3, gq4, gq5, gq6, gq7, gq8, gq9, go0, go1, gl0, gl1, gl2, gl3, ↓reduceIte, Nat.reduceEqDiff, Nat.reduceAdd, Nat.reduceLeDiff, pBuild, fillA, ↓Api_Sets.r] | refine Cut.go ?_))
    refine ref_b fw.slots fw.fields fw.rows fw.sets hm (fun a b h => meetR_root fw hs a b h) (by omega : a < m) g1 ho1 _ _ _ ?_
    intro h2 T2 q1 q2 q3 q4 q5
    (repeat (first | simp -dsimp -implicitDefEqProofs (disch := omega) only [↓gp0, ↓gp1, ↓gp2, gq0, gq1, gq2, gq3, gq4, gq5, gq6, gq7, gq8, gq9, go0, go1, gl0, gl1, gl2, gl3, ↓reduceIte, Nat.reduceEqDiff, Nat.reduceAdd, Nat.reduceLeDiff, pBuild, fillA, ↓Api_Sets.r, wk1 a (by omega)] | refine Cut.go ?_))
    rw [loopPost_normal, hI]
    refine ⟨m - (a + 1), by omega, a + 1, T2, rfl, by omega, q1, q2, fun a' b ha' hb hTa hm' => ?_, kp.trans q5 (fun _ _ e => e), rfl⟩
    by_cases e : a' = a
    · subst e; exact q4 (g1.up _ hTa) b hb hm'
    · exact q3 _ (cl1 a' b (by omega) hb hTa hm')
  · (repeat (first | simp -dsimp -implicitDefEqProofs (disch := omega) only [↓gp0, ↓gp1, ↓gp2, gq0, gq1, gq2, gq3, gq4, gq5, gq6, gq7, gq8, gq9, go0, go1, gl0, gl1, gl2, gl3, ↓reduceIte, Nat.reduceEqDiff, Nat.reduceAdd, Nat.reduceLeDiff, pBuild, fillA, ↓Api_Sets.r] | refine Cut.go ?_))
    have e : a = m := by omega
    subst e
    exact hQ hh T1 ho1 g1 (fun a' b ha' hb => cl1 a' b ha' hb) kp

/-- As many rounds as sites: all that site k is joined to is gathered. -/
theorem ref_rounds (fw : Few m s) (hm : m ≤ 1000) (hs : Says f (prsOf (setsOf s))) {k : Nat} (hk : k < m) (hkk : root f k = k) {oid : Nat} {h0 : AHeap} (ho : h0.objs oid = some (.row 3 (nsAV ((List.range m).map (mkO f k fun j => decide (j = k)))))) (A8 : AV) (Q : AExit → Fr → AHeap → Prop)
    (hQ : ∀ (h2 : AHeap), h2.objs oid = some (.row 3 (nsAV ((List.range m).map fun j => if root f j < k + 1 then clsOf f j else 0))) → Keeps h0 h2 (fun i => i = oid) → Q (.exit 4) (frOf [(0, .int .i64 m), (3, .iptr s.cells), (5, .sl oid 0 m 1), (6, .int .i64 ((leadsB f k + 1 : Nat) : Int)), (8, A8)]) h2) :
    WP Tryd.prog 76 (.loop c_padlockref12_Split_14) (frOf [(0, .int .i64 m), (3, .iptr s.cells), (5, .sl oid 0 m 1), (6, .int .i64 ((leadsB f k + 1 : Nat) : Int)), (8, A8), (9, .int .i64 0)]) h0 Q := by
  obtain ⟨I, hI⟩ : ∃ I : Nat → Fr → AHeap → Prop, I = (fun r fr hh => ∃ (q : Nat) (T1 : Nat → Bool), r = m - q ∧ q ≤ m ∧ hh.objs oid = some (.row 3 (nsAV ((List.range m).map (mkO f k T1)))) ∧ (∀ j, T1 j = true → root f j = k) ∧ T1 k = true ∧ Come m (fun a b => meetR m s a b = true) q T1 ∧ Keeps h0 hh (fun i => i = oid) ∧ fr = frOf [(0, .int .i64 m), (3, .iptr s.cells), (5, .sl oid 0 m 1), (6, .int .i64 ((leadsB f k + 1 : Nat) : Int)), (8, A8), (9, .int .i64 q)]) := ⟨_, rfl⟩
  refine WP_loop mixed_ (by kernel_rfl) I m (by
    rw [hI]
    refine ⟨0, _, rfl, Nat.zero_le _, ho, fun j hj => by simp at hj; rw [hj, hkk], by simp, Or.inr ?_, Keeps.refl _ _, rfl⟩
    rw [Nat.zero_add]
    exact List.countP_pos_iff.2 ⟨k, List.mem_range.2 hk, by simp⟩) ?_
  intro r fr hh hi
  rw [hI] at hi
  obtain ⟨q, T1, rfl, hq, ho1, own1, tk1, come1, kp, rfl⟩ := hi
  apply padlockref12_Split_loop14
  (repeat (first | simp -dsimp -implicitDefEqProofs (disch := omega) only [↓gp0, ↓gp1, ↓gp2, gq0, gq1, gq2, gq3, gq4, gq5, gq6, gq7, gq8, gq9, go0, go1, gl0, gl1, gl2, gl3, ↓reduceIte, Nat.reduceEqDiff, Nat.reduceAdd, Nat.reduceLeDiff, pBuild, fillA, ↓Api_Sets.r] | refine Cut.go ?_))
  refine Split_lt (fun hqm => ?_) (fun hqm => ?_)
  · (repeat (first | simp -dsimp -implicitDefEqProofs (disch := omega) only [↓gp0, ↓gp1, ↓gp2, gq0, gq1, gq2, gq3, gq4, gq5, gq6, gq7, gq8, gq9, go0, go1, gl0, gl1, gl2, gl3, ↓reduceIte, Nat.reduceEqDiff, Nat.reduceAdd, Nat.reduceLeDiff, pBuild, fillA, ↓Api_Sets.r] | refine Cut.go ?_))
    refine ref_a fw hm hs own1 ho1 _ _ _ ?_
    intro h2 T2 q1 q2 q3 q4
    (repeat (first | simp -dsimp -implicitDefEqProofs (disch := omega) only [↓gp0, ↓gp1, ↓gp2, gq0, gq1, gq2, gq3, gq4, gq5, gq6, gq7, gq8, gq9, go0, go1, gl0, gl1, gl2, gl3, ↓reduceIte, Nat.reduceEqDiff, Nat.reduceAdd, Nat.reduceLeDiff, pBuild, fillA, ↓Api_Sets.r, wk1 q (by omega)] | refine Cut.go ?_))
    rw [loopPost_normal, hI]
    refine ⟨m - (q + 1), by omega, q + 1, T2, rfl, by omega, q1, q2.own, q2.up _ tk1, come1.next (fun j _ h => q2.up j h) (fun a b ha hb h1 h2 => q3 a b ha hb h1 h2) (fun hcl j hj => ?_), kp.trans q4 (fun _ _ e => e), rfl⟩
    have := q2.least T1 (fun j _ h => h) hcl j hj
    cases h1 : T1 j with
    | true => exact q2.up j h1
    | false =>
      cases h2 : T2 j with
      | false => rfl
      | true => rw [this h2] at h1; cases h1
  · (repeat (first | simp -dsimp -implicitDefEqProofs (disch := omega) only [↓gp0, ↓gp1, ↓gp2, gq0, gq1, gq2, gq3, gq4, gq5, gq6, gq7, gq8, gq9, go0, go1, gl0, gl1, gl2, gl3, ↓reduceIte, Nat.reduceEqDiff, Nat.reduceAdd, Nat.reduceLeDiff, pBuild, fillA, ↓Api_Sets.r] | refine Cut.go ?_))
    have e : q = m := by omega
    subst e
    have hcl := come1.end_
    have hin : ∀ j, j < q → root f j = k → T1 j = true := fun j hj hr => by
      have hc : Conn (MeetP (setsOf s)) k j := (says_conn fw hs k j).1 (by rw [hkk, hr])
      have := hc.closed (T := fun j => j < q ∧ T1 j = true) (fun a b hT hab => by
        have hr2 := (meetR_iff fw).2 hab
        have hbq : b < q := by
          obtain ⟨x, _, h⟩ := List.any_eq_true.1 hr2
          simp [meetT] at h
          exact h.2
        exact ⟨hbq, hcl a b hT.1 hbq hT.2 hr2⟩) ⟨hk, tk1⟩
      exact this.2
    refine hQ hh ?_ kp
    rw [ho1]
    congr 3
    apply List.map_congr_left
    intro j hj
    have hjq := List.mem_range.1 hj
    unfold mkO
    by_cases h1 : root f j < k
    · rw [if_pos h1, if_pos (by omega)]
    · rw [if_neg h1]
      cases hT : T1 j with
      | true =>
        have hr := own1 j hT
        rw [if_pos rfl, if_pos (by omega)]
        unfold clsOf; rw [hr]
      | false =>
        have hne : root f j ≠ k := fun e => by rw [hin j hjq e] at hT; cases hT
        rw [if_neg (by simp), if_neg (by omega)]
end
end Go.Proofs.YtopfjochppdnfaaDoor
