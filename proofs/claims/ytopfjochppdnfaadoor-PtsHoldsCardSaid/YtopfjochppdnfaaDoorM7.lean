/- Own texts, merged: CdGreat, CdRef, CdRefI0, CdRefI1, CdRefI2, CdRefI3, CdRefI4, CdRefI, CdRefG, CdRefH, CdRefS, CdBoth. -/
import Derived.Test.YtopfjochppdnfaaDoorM6
set_option linter.unusedVariables false
set_option linter.unusedSimpArgs false
section
/- Which codes are more than is played; what the document tells of two codes. -/
set_option maxRecDepth 100000
set_option maxHeartbeats 1000000
namespace Go.Proofs.YtopfjochppdnfaaDoor
open Go.Abs
def greatX (x : In) : Bool := decide (200 < (slL x.Items).length) || decide (200 < (slL x.Index).length)
def greatT (b : Bd) : Bool := decide (300 < (slL b.Slots).length) || decide (600 < (slL b.Code).length) || (slL b.Code).any greatX
def greatB (c : Cd) : Bool := decide (20 < (slL c.Records).length) || (decide (100 < (slL c.Globals).length) || (decide (8 < (slL c.Threads).length) || (decide (100 < (slL c.Sites).length) || (decide (100 < (slL c.Sections).length) || ((slL c.Records).any (fun r => decide (100 < (slL r).length)) || (slL c.Threads).any greatT)))))
theorem any_yes {α : Type} {p : α → Bool} {l : List α} {k : Nat} {x : α} (hx : l[k]? = some x) (hp : p x = true) : l.any p = true := List.any_eq_true.2 ⟨x, List.mem_of_getElem? hx, hp⟩
theorem any_no {α : Type} {p : α → Bool} {l : List α} (h : upTo (fun _ x => !p x) l l.length) : l.any p = false := by
  rw [List.any_eq_false]
  intro x hx
  obtain ⟨k, hk⟩ := List.getElem?_of_mem hx
  have := h k x (List.getElem?_eq_some_iff.1 hk).1 hk
  simpa using this
theorem great_inner (b : Bd) (hcl : (slL b.Code).length ≤ 1000000) (a49 a50 a51 : AV) (h0 : z04) (Q : z18 → Fr → z04 → Prop)
    (hret : ∀ h2, (slL b.Code).any greatX = true → Keeps h0 h2 (fun _ => False) → Q .ret (frOf [(2, .bool true)]) h2)
    (hex : ∀ h2, (slL b.Code).any greatX = false → Keeps h0 h2 (fun _ => False) → Q (.exit 4) (frOf [(49, a49), (50, a50), (51, a51)]) h2) :
    WP Tryd.prog 84 (.loop z4j) (frOf [(49, a49), (50, a50), (51, a51), (66, slAV 8 z0m.cells b.Code), (67, .int .i64 (slL b.Code).length), (68, .int .i64 0)]) h0 Q := by
  refine z1c z0l (by kernel_rfl) (fun n fr hh => ∃ k : Nat, k ≤ (slL b.Code).length ∧ n = (slL b.Code).length - k ∧ upTo (fun _ x => !greatX x) (slL b.Code) k ∧ Keeps h0 hh (fun _ => False) ∧ fr = frOf [(49, a49), (50, a50), (51, a51), (66, slAV 8 z0m.cells b.Code), (67, .int .i64 (slL b.Code).length), (68, .int .i64 k)]) (slL b.Code).length ⟨0, by omega, by omega, z2w _ _, .refl _ _, rfl⟩ ?_
  rintro n fr hh ⟨k, hk, rfl, hup, kp, rfl⟩
  apply padlockref09_Great_loop15
  generalize hI : (fun (n : Nat) (fr : Fr) (hh : z04) => _) = I
  (repeat simp -dsimp -implicitDefEqProofs (disch := omega) only [↓rP, rQ, rO, rL, ↓reduceIte, Nat.reduceEqDiff, Nat.reduceAdd, Nat.reduceLeDiff, z01, z05, ↓tyr])
  refine z0e (fun hkl => ?_) (fun hkl => ?_)
  · obtain ⟨x, hx⟩ : ∃ x, (slL b.Code)[k]? = some x := ⟨_, List.getElem?_eq_getElem (by omega)⟩
    have kp1 := kp.go (Keeps.one hh (.row 58 x.cells))
    have yes : greatX x = true → Q .ret (frOf [(2, .bool true)]) (hh.push (.row 58 x.cells)) := fun hg => hret _ (any_yes hx hg) kp1
    (repeat simp -dsimp -implicitDefEqProofs (disch := omega) only [↓rP, rQ, rO, rL, ↓reduceIte, Nat.reduceEqDiff, Nat.reduceAdd, Nat.reduceLeDiff, z01, z05, ↓tyr, z0k hx])
    refine z0e (fun h1 => ?_) (fun h1 => ?_)
    · (repeat simp -dsimp -implicitDefEqProofs (disch := omega) only [↓rP, rQ, rO, rL, ↓reduceIte, Nat.reduceEqDiff, Nat.reduceAdd, Nat.reduceLeDiff, z01, z05, ↓tyr])
      exact yes (by simp [greatX]; omega)
    (repeat simp -dsimp -implicitDefEqProofs (disch := omega) only [↓rP, rQ, rO, rL, ↓reduceIte, Nat.reduceEqDiff, Nat.reduceAdd, Nat.reduceLeDiff, z01, z05, ↓tyr])
    refine z0e (fun h2 => ?_) (fun h2 => ?_)
    · (repeat simp -dsimp -implicitDefEqProofs (disch := omega) only [↓rP, rQ, rO, rL, ↓reduceIte, Nat.reduceEqDiff, Nat.reduceAdd, Nat.reduceLeDiff, z01, z05, ↓tyr])
      exact yes (by simp [greatX]; omega)
    · (repeat simp -dsimp -implicitDefEqProofs (disch := omega) only [↓rP, rQ, rO, rL, ↓reduceIte, Nat.reduceEqDiff, Nat.reduceAdd, Nat.reduceLeDiff, z01, z05, ↓tyr, wkS k (by omega)])
      rw [z0a, ← hI]
      exact ⟨_, by omega, k + 1, by omega, rfl, z2p hup hx (by simp [greatX]; omega), kp1, rfl⟩
  · have hke : k = (slL b.Code).length := by omega
    subst hke
    (repeat simp -dsimp -implicitDefEqProofs (disch := omega) only [↓rP, rQ, rO, rL, ↓reduceIte, Nat.reduceEqDiff, Nat.reduceAdd, Nat.reduceLeDiff, z01, z05, ↓tyr])
    exact hex hh (any_no hup) kp
theorem ref_Great_k (c : Cd) (hc : c.ok) (h : z04) : z03 Tryd.prog 20 [.agg c.cells] h (fun v h2 => v = .bool (greatB c) ∧ Keeps h h2 (fun _ => False)) := by
  apply padlockref09_Great_wp
  unfold greatB
  (repeat simp -dsimp -implicitDefEqProofs (disch := omega) only [↓rP, rQ, rO, rL, ↓reduceIte, Nat.reduceEqDiff, Nat.reduceAdd, Nat.reduceLeDiff, z01, z05, ↓tyr])
  refine z0e (fun h1 => ?_) (fun h1 => ?_)
  · (repeat simp -dsimp -implicitDefEqProofs (disch := omega) only [↓rP, rQ, rO, rL, ↓reduceIte, Nat.reduceEqDiff, Nat.reduceAdd, Nat.reduceLeDiff, z01, z05, ↓tyr])
    rw [decide_eq_true (by omega : 20 < (slL c.Records).length)]
    (first | (refine And.intro (by simp) ?_; (repeat (first | assumption | with_reducible exact Keeps.refl _ _ | with_reducible refine Keeps.go ?_ (Keeps.one _ _) | with_reducible refine Keeps.go ?_ (by assumption)))) | (repeat (first | assumption | with_reducible exact Keeps.refl _ _ | with_reducible refine Keeps.go ?_ (Keeps.one _ _) | with_reducible refine Keeps.go ?_ (by assumption))))
  rw [decide_eq_false (by omega : ¬ 20 < (slL c.Records).length)]
  (repeat simp -dsimp -implicitDefEqProofs (disch := omega) only [↓rP, rQ, rO, rL, ↓reduceIte, Nat.reduceEqDiff, Nat.reduceAdd, Nat.reduceLeDiff, z01, z05, ↓tyr])
  refine z0e (fun h2 => ?_) (fun h2 => ?_)
  · (repeat simp -dsimp -implicitDefEqProofs (disch := omega) only [↓rP, rQ, rO, rL, ↓reduceIte, Nat.reduceEqDiff, Nat.reduceAdd, Nat.reduceLeDiff, z01, z05, ↓tyr])
    rw [decide_eq_true (by omega : 100 < (slL c.Globals).length)]
    (first | (refine And.intro (by simp) ?_; (repeat (first | assumption | with_reducible exact Keeps.refl _ _ | with_reducible refine Keeps.go ?_ (Keeps.one _ _) | with_reducible refine Keeps.go ?_ (by assumption)))) | (repeat (first | assumption | with_reducible exact Keeps.refl _ _ | with_reducible refine Keeps.go ?_ (Keeps.one _ _) | with_reducible refine Keeps.go ?_ (by assumption))))
  rw [decide_eq_false (by omega : ¬ 100 < (slL c.Globals).length)]
  (repeat simp -dsimp -implicitDefEqProofs (disch := omega) only [↓rP, rQ, rO, rL, ↓reduceIte, Nat.reduceEqDiff, Nat.reduceAdd, Nat.reduceLeDiff, z01, z05, ↓tyr])
  refine z0e (fun h3 => ?_) (fun h3 => ?_)
  · (repeat simp -dsimp -implicitDefEqProofs (disch := omega) only [↓rP, rQ, rO, rL, ↓reduceIte, Nat.reduceEqDiff, Nat.reduceAdd, Nat.reduceLeDiff, z01, z05, ↓tyr])
    rw [decide_eq_true (by omega : 8 < (slL c.Threads).length)]
    (first | (refine And.intro (by simp) ?_; (repeat (first | assumption | with_reducible exact Keeps.refl _ _ | with_reducible refine Keeps.go ?_ (Keeps.one _ _) | with_reducible refine Keeps.go ?_ (by assumption)))) | (repeat (first | assumption | with_reducible exact Keeps.refl _ _ | with_reducible refine Keeps.go ?_ (Keeps.one _ _) | with_reducible refine Keeps.go ?_ (by assumption))))
  rw [decide_eq_false (by omega : ¬ 8 < (slL c.Threads).length)]
  (repeat simp -dsimp -implicitDefEqProofs (disch := omega) only [↓rP, rQ, rO, rL, ↓reduceIte, Nat.reduceEqDiff, Nat.reduceAdd, Nat.reduceLeDiff, z01, z05, ↓tyr])
  refine z0e (fun h4 => ?_) (fun h4 => ?_)
  · (repeat simp -dsimp -implicitDefEqProofs (disch := omega) only [↓rP, rQ, rO, rL, ↓reduceIte, Nat.reduceEqDiff, Nat.reduceAdd, Nat.reduceLeDiff, z01, z05, ↓tyr])
    rw [decide_eq_true (by omega : 100 < (slL c.Sites).length)]
    (first | (refine And.intro (by simp) ?_; (repeat (first | assumption | with_reducible exact Keeps.refl _ _ | with_reducible refine Keeps.go ?_ (Keeps.one _ _) | with_reducible refine Keeps.go ?_ (by assumption)))) | (repeat (first | assumption | with_reducible exact Keeps.refl _ _ | with_reducible refine Keeps.go ?_ (Keeps.one _ _) | with_reducible refine Keeps.go ?_ (by assumption))))
  rw [decide_eq_false (by omega : ¬ 100 < (slL c.Sites).length)]
  (repeat simp -dsimp -implicitDefEqProofs (disch := omega) only [↓rP, rQ, rO, rL, ↓reduceIte, Nat.reduceEqDiff, Nat.reduceAdd, Nat.reduceLeDiff, z01, z05, ↓tyr])
  refine z0e (fun h5 => ?_) (fun h5 => ?_)
  · (repeat simp -dsimp -implicitDefEqProofs (disch := omega) only [↓rP, rQ, rO, rL, ↓reduceIte, Nat.reduceEqDiff, Nat.reduceAdd, Nat.reduceLeDiff, z01, z05, ↓tyr])
    rw [decide_eq_true (by omega : 100 < (slL c.Sections).length)]
    (first | (refine And.intro (by simp) ?_; (repeat (first | assumption | with_reducible exact Keeps.refl _ _ | with_reducible refine Keeps.go ?_ (Keeps.one _ _) | with_reducible refine Keeps.go ?_ (by assumption)))) | (repeat (first | assumption | with_reducible exact Keeps.refl _ _ | with_reducible refine Keeps.go ?_ (Keeps.one _ _) | with_reducible refine Keeps.go ?_ (by assumption))))
  rw [decide_eq_false (by omega : ¬ 100 < (slL c.Sections).length)]
  (repeat simp -dsimp -implicitDefEqProofs (disch := omega) only [↓rP, rQ, rO, rL, ↓reduceIte, Nat.reduceEqDiff, Nat.reduceAdd, Nat.reduceLeDiff, z01, z05, ↓tyr])
  refine z1c z0l (by kernel_rfl) (fun n fr hh => ∃ k : Nat, k ≤ (slL c.Records).length ∧ n = (slL c.Records).length - k ∧ upTo (fun _ r => !decide (100 < (slL r).length)) (slL c.Records) k ∧ hh = h ∧ fr = frOf [(1, .iptr c.cells), (38, slAV 1 (fun o => [slAV 3 z0d.cells o]) c.Records), (39, .int .i64 (slL c.Records).length), (40, .int .i64 k)]) (slL c.Records).length ⟨0, by omega, by omega, z2w _ _, rfl, rfl⟩ ?_
  rintro n fr hh ⟨k, hk, rfl, hup, rfl, rfl⟩
  apply padlockref09_Great_loop4
  generalize hI : (fun (n : Nat) (fr : Fr) (hh : z04) => _) = I
  (repeat simp -dsimp -implicitDefEqProofs (disch := omega) only [↓rP, rQ, rO, rL, ↓reduceIte, Nat.reduceEqDiff, Nat.reduceAdd, Nat.reduceLeDiff, z01, z05, ↓tyr])
  refine z0e (fun hkl => ?_) (fun hkl => ?_)
  · obtain ⟨r, hx⟩ : ∃ r, (slL c.Records)[k]? = some r := ⟨_, List.getElem?_eq_getElem (by omega)⟩
    (repeat simp -dsimp -implicitDefEqProofs (disch := omega) only [↓rP, rQ, rO, rL, ↓reduceIte, Nat.reduceEqDiff, Nat.reduceAdd, Nat.reduceLeDiff, z01, z05, ↓tyr, z0k hx])
    refine z0e (fun h6 => ?_) (fun h6 => ?_)
    · (repeat simp -dsimp -implicitDefEqProofs (disch := omega) only [↓rP, rQ, rO, rL, ↓reduceIte, Nat.reduceEqDiff, Nat.reduceAdd, Nat.reduceLeDiff, z01, z05, ↓tyr])
      have : (slL c.Records).any (fun r => decide (100 < (slL r).length)) = true := any_yes hx (by simp; omega)
      rw [this]
      (first | (refine And.intro (by simp) ?_; (repeat (first | assumption | with_reducible exact Keeps.refl _ _ | with_reducible refine Keeps.go ?_ (Keeps.one _ _) | with_reducible refine Keeps.go ?_ (by assumption)))) | (repeat (first | assumption | with_reducible exact Keeps.refl _ _ | with_reducible refine Keeps.go ?_ (Keeps.one _ _) | with_reducible refine Keeps.go ?_ (by assumption))))
    · (repeat simp -dsimp -implicitDefEqProofs (disch := omega) only [↓rP, rQ, rO, rL, ↓reduceIte, Nat.reduceEqDiff, Nat.reduceAdd, Nat.reduceLeDiff, z01, z05, ↓tyr, wkS k (by omega)])
      rw [z0a, ← hI]
      exact ⟨_, by omega, k + 1, by omega, rfl, z2p hup hx (by simp; omega), rfl, rfl⟩
  have hke : k = (slL c.Records).length := by omega
  subst hke
  rw [any_no hup]
  clear hup hI hk hkl
  (repeat simp -dsimp -implicitDefEqProofs (disch := omega) only [↓rP, rQ, rO, rL, ↓reduceIte, Nat.reduceEqDiff, Nat.reduceAdd, Nat.reduceLeDiff, z01, z05, ↓tyr])
  refine z1c z0l (by kernel_rfl) (fun n fr h9 => ∃ k : Nat, k ≤ (slL c.Threads).length ∧ n = (slL c.Threads).length - k ∧ upTo (fun _ b => !greatT b) (slL c.Threads) k ∧ Keeps hh h9 (fun _ => False) ∧ fr = frOf [(49, slAV 3 z0n.cells c.Threads), (50, .int .i64 (slL c.Threads).length), (51, .int .i64 k)]) (slL c.Threads).length ⟨0, by omega, by omega, z2w _ _, .refl _ _, rfl⟩ ?_
  rintro n fr h9 ⟨k, hk, rfl, hup, kp, rfl⟩
  apply padlockref09_Great_loop10
  generalize hI : (fun (n : Nat) (fr : Fr) (hh : z04) => _) = I
  (repeat simp -dsimp -implicitDefEqProofs (disch := omega) only [↓rP, rQ, rO, rL, ↓reduceIte, Nat.reduceEqDiff, Nat.reduceAdd, Nat.reduceLeDiff, z01, z05, ↓tyr])
  refine z0e (fun hkl => ?_) (fun hkl => ?_)
  · obtain ⟨b, hx⟩ : ∃ b, (slL c.Threads)[k]? = some b := ⟨_, List.getElem?_eq_getElem (by omega)⟩
    have kp1 := kp.go (Keeps.one h9 (.row 51 b.cells))
    (repeat simp -dsimp -implicitDefEqProofs (disch := omega) only [↓rP, rQ, rO, rL, ↓reduceIte, Nat.reduceEqDiff, Nat.reduceAdd, Nat.reduceLeDiff, z01, z05, ↓tyr, z0k hx])
    refine z0e (fun h1 => ?_) (fun h1 => ?_)
    · (repeat simp -dsimp -implicitDefEqProofs (disch := omega) only [↓rP, rQ, rO, rL, ↓reduceIte, Nat.reduceEqDiff, Nat.reduceAdd, Nat.reduceLeDiff, z01, z05, ↓tyr])
      have : (slL c.Threads).any greatT = true := any_yes hx (by simp [greatT]; omega)
      rw [this]
      exact ⟨rfl, kp1⟩
    (repeat simp -dsimp -implicitDefEqProofs (disch := omega) only [↓rP, rQ, rO, rL, ↓reduceIte, Nat.reduceEqDiff, Nat.reduceAdd, Nat.reduceLeDiff, z01, z05, ↓tyr])
    refine z0e (fun h2 => ?_) (fun h2 => ?_)
    · (repeat simp -dsimp -implicitDefEqProofs (disch := omega) only [↓rP, rQ, rO, rL, ↓reduceIte, Nat.reduceEqDiff, Nat.reduceAdd, Nat.reduceLeDiff, z01, z05, ↓tyr])
      have : (slL c.Threads).any greatT = true := any_yes hx (by simp [greatT]; omega)
      rw [this]
      exact ⟨rfl, kp1⟩
    (repeat simp -dsimp -implicitDefEqProofs (disch := omega) only [↓rP, rQ, rO, rL, ↓reduceIte, Nat.reduceEqDiff, Nat.reduceAdd, Nat.reduceLeDiff, z01, z05, ↓tyr])
    refine great_inner b (by omega) _ _ _ _ _ (fun h3 hg k3 => ?_) (fun h3 hg k3 => ?_)
    · (repeat simp -dsimp -implicitDefEqProofs (disch := omega) only [↓rP, rQ, rO, rL, ↓reduceIte, Nat.reduceEqDiff, Nat.reduceAdd, Nat.reduceLeDiff, z01, z05, ↓tyr])
      have : (slL c.Threads).any greatT = true := any_yes hx (by unfold greatT; rw [hg]; simp)
      rw [this]
      exact ⟨rfl, kp1.go k3⟩
    · (repeat simp -dsimp -implicitDefEqProofs (disch := omega) only [↓rP, rQ, rO, rL, ↓reduceIte, Nat.reduceEqDiff, Nat.reduceAdd, Nat.reduceLeDiff, z01, z05, ↓tyr, wkS k (by omega)])
      rw [z0a, ← hI]
      exact ⟨_, by omega, k + 1, by omega, rfl, z2p hup hx (by unfold greatT; rw [hg]; simp; omega), kp1.go k3, rfl⟩
  · have hke : k = (slL c.Threads).length := by omega
    subst hke
    (repeat simp -dsimp -implicitDefEqProofs (disch := omega) only [↓rP, rQ, rO, rL, ↓reduceIte, Nat.reduceEqDiff, Nat.reduceAdd, Nat.reduceLeDiff, z01, z05, ↓tyr])
    rw [any_no hup]
    exact ⟨rfl, kp⟩
theorem ref_Great_does (c : Cd) (hc : c.ok) (h : z04) : z03 Tryd.prog 20 [.agg c.cells] h (fun v h2 => v = .bool (greatB c) ∧ h2 = h) := z03.forget (by simp [z3b]) (ref_Great_k c hc h)
structure Small (c : Cd) : Prop where
  recs : (slL c.Records).length ≤ 20
  globs : (slL c.Globals).length ≤ 100
  threads : (slL c.Threads).length ≤ 8
  sites : (slL c.Sites).length ≤ 100
  secs : (slL c.Sections).length ≤ 100
  fields : ∀ r ∈ slL c.Records, (slL r).length ≤ 100
  slots : ∀ b ∈ slL c.Threads, (slL b.Slots).length ≤ 300
  code : ∀ b ∈ slL c.Threads, (slL b.Code).length ≤ 600
  items : ∀ b ∈ slL c.Threads, ∀ x ∈ slL b.Code, (slL x.Items).length ≤ 200
  index : ∀ b ∈ slL c.Threads, ∀ x ∈ slL b.Code, (slL x.Index).length ≤ 200
theorem small_of {c : Cd} (h : greatB c = false) : Small c := by
  simp only [greatB, Bool.or_eq_false_iff, decide_eq_false_iff_not, List.any_eq_false, greatT, greatX, Bool.or_eq_true, decide_eq_true_eq, not_or, List.any_eq_true, not_exists, not_and] at h
  obtain ⟨h1, h2, h3, h4, h5, h6, h7⟩ := h
  exact ⟨by omega, by omega, by omega, by omega, by omega, fun r hr => by have := h6 r hr; omega, fun b hb => by have := (h7 b hb).1.1; omega, fun b hb => by have := (h7 b hb).1.2; omega, fun b hb x hx => by have := ((h7 b hb).2 x hx).1; omega, fun b hb x hx => by have := ((h7 b hb).2 x hx).2; omega⟩
end Go.Proofs.YtopfjochppdnfaaDoor
end

section
/- What the document's functions of codes compute: the small ones. -/
set_option maxRecDepth 100000
set_option maxHeartbeats 1000000
namespace Go.Proofs.YtopfjochppdnfaaDoor
open Go.Abs
theorem ref_local_does (c : Cd) (l : Lo) (h : z04) : z03 Tryd.prog 37 [.agg c.cells, .agg l.cells] h (fun v h2 => v = .bool (z19 c l) ∧ h2 = h) := by
  apply padlockref09_local_wp
  unfold z19
  (repeat simp -dsimp -implicitDefEqProofs (disch := omega) only [↓rP, rQ, rO, rL, ↓reduceIte, Nat.reduceEqDiff, Nat.reduceAdd, Nat.reduceLeDiff, z01, z05, ↓tyr])
  refine z10 (fun h4 => ?_) (fun h4 => ?_)
  · (repeat simp -dsimp -implicitDefEqProofs (disch := omega) only [↓rP, rQ, rO, rL, ↓reduceIte, Nat.reduceEqDiff, Nat.reduceAdd, Nat.reduceLeDiff, z01, z05, ↓tyr])
    rw [if_pos h4]
    exact z1f _ _ _
  · rw [if_neg h4]
    repeat' (first | (simp -dsimp -implicitDefEqProofs (disch := omega) only [↓rP, rQ, rO, rL, ↓reduceIte, Nat.reduceEqDiff, Nat.reduceAdd, Nat.reduceLeDiff, z01, z05, ↓tyr]) | refine Cut.go ?_ | refine z10 (fun _ => ?_) (fun _ => ?_) | refine z11 (fun _ => ?_) (fun _ => ?_) | refine z0e (fun _ => ?_) (fun _ => ?_) | refine z13 (fun _ => ?_) (fun _ => ?_) | refine Split.intro (fun _ => ?_) (fun _ => ?_))
    all_goals (simp [beqI, *])
    all_goals omega
theorem ref_Inside_does (c : Cd) (hl : (slL c.Sections).length ≤ 1000000) (t a : Int) (h : z04) : z03 Tryd.prog 57 [.agg c.cells, .int .i64 t, .int .i64 a] h (fun v h2 => v = .int .i64 (insI c t a) ∧ Keeps h h2 (fun _ => False)) := by
  apply padlockref09_Inside_wp
  (repeat simp -dsimp -implicitDefEqProofs (disch := omega) only [↓rP, rQ, rO, rL, ↓reduceIte, Nat.reduceEqDiff, Nat.reduceAdd, Nat.reduceLeDiff, z01, z05, ↓tyr])
  refine z1c z0l (by kernel_rfl) (fun n fr hh => ∃ k : Nat, k ≤ (slL c.Sections).length ∧ n = (slL c.Sections).length - k ∧ (∀ j x, j < k → (slL c.Sections)[j]? = some x → secP t a x = false) ∧ Keeps h hh (fun _ => False) ∧ fr = frOf [(1, .int .i64 t), (2, .int .i64 a), (10, slAV 3 z0h.cells c.Sections), (11, .int .i64 (slL c.Sections).length), (12, .int .i64 k)]) (slL c.Sections).length ⟨0, by omega, by omega, fun j x hj => by omega, .refl _ _, rfl⟩ ?_
  rintro n fr hh ⟨k, hk, rfl, hup, kp, rfl⟩
  apply padlockref09_Inside_loop2
  generalize hI : (fun (n : Nat) (fr : Fr) (hh : z04) => _) = I
  (repeat simp -dsimp -implicitDefEqProofs (disch := omega) only [↓rP, rQ, rO, rL, ↓reduceIte, Nat.reduceEqDiff, Nat.reduceAdd, Nat.reduceLeDiff, z01, z05, ↓tyr])
  refine z0e (fun hkl => ?_) (fun hkl => ?_)
  · obtain ⟨s, hx⟩ : ∃ s, (slL c.Sections)[k]? = some s := ⟨_, List.getElem?_eq_getElem (by omega)⟩
    have kp1 : Keeps h (hh.push (.row 71 s.cells)) (fun _ => False) := kp.go (Keeps.one _ _)
    have yes : secP t a s = true → insI c t a = k := fun hp => posI_here hx hp hup
    have on : secP t a s = false → loopPost I ((slL c.Sections).length - k) (z2a (fun _ _ => False) (fun _ _ _ => False) (fun _ _ => False)) .normal (frOf [(1, .int .i64 t), (2, .int .i64 a), (10, slAV 3 z0h.cells c.Sections), (11, .int .i64 (slL c.Sections).length), (12, .int .i64 (k + 1 : Nat))]) (hh.push (.row 71 s.cells)) := fun hm => by
      rw [z0a, ← hI]
      refine ⟨_, by omega, k + 1, by omega, rfl, fun j y hj hy => ?_, kp1, rfl⟩
      by_cases e : j = k
      · subst e; rw [hx] at hy; cases hy; exact hm
      · exact hup j y (by omega) hy
    simp only [z0a] at on
    repeat' (first | (simp -dsimp -implicitDefEqProofs (disch := omega) only [↓rP, rQ, rO, rL, ↓reduceIte, Nat.reduceEqDiff, Nat.reduceAdd, Nat.reduceLeDiff, z01, z05, ↓tyr, z0k hx, wkS k (by omega), z0a]) | refine Cut.go ?_ | refine z10 (fun _ => ?_) (fun _ => ?_) | refine z11 (fun _ => ?_) (fun _ => ?_) | refine z0e (fun _ => ?_) (fun _ => ?_) | refine z13 (fun _ => ?_) (fun _ => ?_) | refine Split.intro (fun _ => ?_) (fun _ => ?_))
    all_goals first
      | exact on (by simp [secP, *]; try omega)
      | (rw [yes (by simp [secP, *])]; exact ⟨rfl, kp1⟩)
  · have hke : k = (slL c.Sections).length := by omega
    subst hke
    (repeat simp -dsimp -implicitDefEqProofs (disch := omega) only [↓rP, rQ, rO, rL, ↓reduceIte, Nat.reduceEqDiff, Nat.reduceAdd, Nat.reduceLeDiff, z01, z05, ↓tyr])
    exact ⟨by unfold insI; rw [posI_none hup], kp⟩
def hasT : List (List UInt8) := [[], [100, 105], [100, 110], [100, 115, 114, 110], [100, 115, 120], [110, 105], [115, 114, 110, 105], [115, 120, 105], [100, 114, 110], [100, 105, 110], [100, 115], [105], [105], [116], [116, 105], [110], [110], []]
def hasS (op : Int) : List UInt8 := if op < 1 ∨ 18 ≤ op then [63] else hasT.getD op.toNat []
theorem z1n (op : Int) (h : z04) : z03 Tryd.prog 54 [.int .i64 op] h (fun v h2 => v = .str (hasS op) ∧ h2 = h) := by
  apply padlockref09_Has_wp
  refine ⟨by omega, by decide, rfl, ?_⟩
  have hf : fillE 1 (List.replicate 18 [AV.str []]) [(0, AV.str []), (1, AV.str [100, 105]), (2, AV.str [100, 110]), (3, AV.str [100, 115, 114, 110]), (4, AV.str [100, 115, 120]), (5, AV.str [110, 105]), (6, AV.str [115, 114, 110, 105]), (7, AV.str [115, 120, 105]), (8, AV.str [100, 114, 110]), (9, AV.str [100, 105, 110]), (10, AV.str [100, 115]), (11, AV.str [105]), (12, AV.str [105]), (13, AV.str [116]), (14, AV.str [116, 105]), (15, AV.str [110]), (16, AV.str [110]), (17, AV.str [])] = some (hasT.map fun s => [AV.str s]) := by
    simp [fillE, hasT, List.replicate, AV.fits, AV.cells]
  simp only [Nat.reduceAdd]
  rw [hf]
  simp only [if_true]
  (repeat simp -dsimp -implicitDefEqProofs (disch := omega) only [↓rP, rQ, rO, rL, ↓reduceIte, Nat.reduceEqDiff, Nat.reduceAdd, Nat.reduceLeDiff, z01, z05, ↓tyr])
  have hl : (hasT.map fun s => [AV.str s]).length = 18 := rfl
  unfold hasS
  refine z0e (fun h1 => ?_) (fun h1 => ?_)
  · (repeat simp -dsimp -implicitDefEqProofs (disch := omega) only [↓rP, rQ, rO, rL, ↓reduceIte, Nat.reduceEqDiff, Nat.reduceAdd, Nat.reduceLeDiff, z01, z05, ↓tyr])
    rw [if_pos (Or.inl h1)]
  (repeat simp -dsimp -implicitDefEqProofs (disch := omega) only [↓rP, rQ, rO, rL, ↓reduceIte, Nat.reduceEqDiff, Nat.reduceAdd, Nat.reduceLeDiff, z01, z05, ↓tyr])
  rw [hl]
  refine z13 (fun h2 => ?_) (fun h2 => ?_)
  · (repeat simp -dsimp -implicitDefEqProofs (disch := omega) only [↓rP, rQ, rO, rL, ↓reduceIte, Nat.reduceEqDiff, Nat.reduceAdd, Nat.reduceLeDiff, z01, z05, ↓tyr])
    rw [if_pos (Or.inr (by omega))]
  · rw [if_neg (by omega)]
    have hn : op.toNat < 18 := by omega
    have hg : (hasT.map fun s => [AV.str s])[op.toNat]? = some [AV.str (hasT.getD op.toNat [])] := by
      rw [List.getElem?_map, List.getElem?_eq_getElem (by rw [show hasT.length = 18 from rfl]; exact hn)]
      simp [List.getD_eq_getElem?_getD, show op.toNat < hasT.length from hn]
    have hix : ∀ K : AV → Prop, z06 (.slice 1) (.isl 1 (hasT.map fun s => [AV.str s])) (.int .i64 op) K = K (.iptr [AV.str (hasT.getD op.toNat [])]) := fun K => by
      have h0 : 0 ≤ op := by omega
      have h18 : op < 18 := by omega
      simp only [z06, hl, hg]
      simp [h0, h18]
    (repeat simp -dsimp -implicitDefEqProofs (disch := omega) only [↓rP, rQ, rO, rL, ↓reduceIte, Nat.reduceEqDiff, Nat.reduceAdd, Nat.reduceLeDiff, z01, z05, ↓tyr, hix])
theorem ref_has_does (s : List UInt8) (hs : s.length ≤ 1000) (c : UInt8) (h : z04) : z03 Tryd.prog 55 [.str s, .int .u8 (c.toNat : Int)] h (fun v h2 => v = .bool (s.contains c) ∧ h2 = h) := by
  apply padlockref09_has_wp
  (repeat simp -dsimp -implicitDefEqProofs (disch := omega) only [↓rP, rQ, rO, rL, ↓reduceIte, Nat.reduceEqDiff, Nat.reduceAdd, Nat.reduceLeDiff, z01, z05, ↓tyr])
  refine z1c z0l (by kernel_rfl) (fun n fr hh => ∃ k : Nat, k ≤ s.length ∧ n = s.length - k ∧ (s.take k).contains c = false ∧ hh = h ∧ fr = frOf [(0, .str s), (1, .int .u8 (c.toNat : Int)), (5, .int .i64 k)]) s.length ⟨0, by omega, by omega, by simp, rfl, rfl⟩ ?_
  rintro n fr hh ⟨k, hk, rfl, hup, rfl, rfl⟩
  apply padlockref09_has_loop2
  generalize hI : (fun (n : Nat) (fr : Fr) (hh : z04) => _) = I
  (repeat simp -dsimp -implicitDefEqProofs (disch := omega) only [↓rP, rQ, rO, rL, ↓reduceIte, Nat.reduceEqDiff, Nat.reduceAdd, Nat.reduceLeDiff, z01, z05, ↓tyr])
  refine z0e (fun hkl => ?_) (fun hkl => ?_)
  · obtain ⟨x, hx⟩ : ∃ x, s[k]? = some x := ⟨_, List.getElem?_eq_getElem (by omega)⟩
    have hix : ∀ K : AV → Prop, pIndexStr (.str s) (.int .i64 (k : Int)) K = K (.int .u8 (x.toNat : Int)) := fun K => by
      simp [pIndexStr, hx]
    have ht : s.take (k + 1) = s.take k ++ [x] := by rw [List.take_add_one, hx]; rfl
    (repeat simp -dsimp -implicitDefEqProofs (disch := omega) only [↓rP, rQ, rO, rL, ↓reduceIte, Nat.reduceEqDiff, Nat.reduceAdd, Nat.reduceLeDiff, z01, z05, ↓tyr, hix])
    refine z10 (fun e => ?_) (fun e => ?_)
    · (repeat simp -dsimp -implicitDefEqProofs (disch := omega) only [↓rP, rQ, rO, rL, ↓reduceIte, Nat.reduceEqDiff, Nat.reduceAdd, Nat.reduceLeDiff, z01, z05, ↓tyr])
      have : x = c := by
        have e' : x.toNat = c.toNat := by omega
        exact UInt8.toNat_inj.1 e'
      subst this
      simp [List.mem_of_getElem? hx]
    · have hne : x ≠ c := fun e' => e (by rw [e'])
      (repeat simp -dsimp -implicitDefEqProofs (disch := omega) only [↓rP, rQ, rO, rL, ↓reduceIte, Nat.reduceEqDiff, Nat.reduceAdd, Nat.reduceLeDiff, z01, z05, ↓tyr, wkS k (by omega)])
      rw [z0a, ← hI]
      refine ⟨_, by omega, k + 1, by omega, rfl, ?_, rfl, rfl⟩
      rw [ht, Bool.eq_false_iff]
      simp only [ne_eq, List.contains_iff_mem, List.mem_append, List.mem_singleton]
      rintro (h1 | h1)
      · rw [List.contains_iff_mem.2 h1] at hup; cases hup
      · exact hne h1.symm
  · have hke : k = s.length := by omega
    subst hke
    rw [List.take_length] at hup
    (repeat simp -dsimp -implicitDefEqProofs (disch := omega) only [↓rP, rQ, rO, rL, ↓reduceIte, Nat.reduceEqDiff, Nat.reduceAdd, Nat.reduceLeDiff, z01, z05, ↓tyr])
    rw [hup]
theorem z03.go {P : Program} {f : FuncId} {args : List AV} {h : z04} {v0 : AV} {K : AV → z04 → Prop} (H : z03 P f args h (fun v h2 => v = v0 ∧ h2 = h)) (hk : K v0 h) : z03 P f args h K := H.mono (by rintro _ _ ⟨rfl, rfl⟩; exact hk)
theorem z1v (c : Cd) (hl : (slL c.Sections).length ≤ 1000000) (t a : Int) (h : z04) : z03 Tryd.prog 57 [.agg c.cells, .int .i64 t, .int .i64 a] h (fun v h2 => v = .int .i64 (insI c t a) ∧ h2 = h) := z03.forget (by simp [z3b]) (ref_Inside_does c hl t a h)
theorem has_100 (s : List UInt8) (hs : s.length ≤ 1000) (h : z04) : z03 Tryd.prog 55 [.str s, .int .u8 100] h (fun v h2 => v = .bool (s.contains 100) ∧ h2 = h) := ref_has_does s hs 100 h
theorem has_115 (s : List UInt8) (hs : s.length ≤ 1000) (h : z04) : z03 Tryd.prog 55 [.str s, .int .u8 115] h (fun v h2 => v = .bool (s.contains 115) ∧ h2 = h) := ref_has_does s hs 115 h
theorem has_114 (s : List UInt8) (hs : s.length ≤ 1000) (h : z04) : z03 Tryd.prog 55 [.str s, .int .u8 114] h (fun v h2 => v = .bool (s.contains 114) ∧ h2 = h) := ref_has_does s hs 114 h
theorem has_110 (s : List UInt8) (hs : s.length ≤ 1000) (h : z04) : z03 Tryd.prog 55 [.str s, .int .u8 110] h (fun v h2 => v = .bool (s.contains 110) ∧ h2 = h) := ref_has_does s hs 110 h
theorem has_116 (s : List UInt8) (hs : s.length ≤ 1000) (h : z04) : z03 Tryd.prog 55 [.str s, .int .u8 116] h (fun v h2 => v = .bool (s.contains 116) ∧ h2 = h) := ref_has_does s hs 116 h
theorem has_105 (s : List UInt8) (hs : s.length ≤ 1000) (h : z04) : z03 Tryd.prog 55 [.str s, .int .u8 105] h (fun v h2 => v = .bool (s.contains 105) ∧ h2 = h) := ref_has_does s hs 105 h
theorem has_120 (s : List UInt8) (hs : s.length ≤ 1000) (h : z04) : z03 Tryd.prog 55 [.str s, .int .u8 120] h (fun v h2 => v = .bool (s.contains 120) ∧ h2 = h) := ref_has_does s hs 120 h
theorem keeps_put {h g : z04} (k : Keeps h g (fun _ => False)) {id : Nat} (hid : h.next ≤ id) (o : AObj) : Keeps h (g.put id o) (fun _ => False) :=
  ⟨k.next, fun i hi hs => by simp only [z04.put_objs]; rw [if_neg (by omega)]; exact k.objs i hi hs⟩
def gD {α : Type} [Inhabited α] (o : Option (List α)) (n : Int) : α := (getI (slL o) n).getD default
theorem z1y {α : Type} [Inhabited α] {o : Option (List α)} {n : Int} (hq : btw n (slL o).length = true) : getI (slL o) n = some (gD o n) := by
  obtain ⟨x, hx⟩ := z1r.1 hq
  unfold gD; rw [hx]; rfl
theorem ixB_go {α : Type} [Inhabited α] {sz : Nat} {enc : α → List AV} {o : Option (List α)} {n : Int} {kk : IntKind} {K : AV → Prop} (hq : btw n (slL o).length = true) (hk : K (.iptr (enc (gD o n)))) : z06 (.slice sz) (slAV sz enc o) (.int kk n) K := by
  rw [ixI (z1y hq)]; exact hk
theorem z5b {α : Type} {o : Option (List α)} {n : Int} (hq : btw n (slL o).length = false) : getI (slL o) n = none := z2n.1 hq
theorem z3p (s : z0z) (t a r : Int) : s = ⟨t, a, r⟩ ↔ s.Thread = t ∧ s.At = a ∧ s.Rec = r := by cases s; simp
theorem isB_btw {b : Bd} {n : Int} {want : Lo} (hq : btw n (slL b.Slots).length = true) : isB b n want = sameB (gD b.Slots n) want := by unfold isB; rw [z1y hq]
theorem z5c {b : Bd} {n : Int} {want : Lo} (hq : btw n (slL b.Slots).length = false) : isB b n want = false := by unfold isB; rw [z2n.1 hq]
theorem z2u (c : Cd) (b : Bd) (x : In) : fieldO c b x = if btw x.Rec (slL c.Records).length = true ∧ btw x.N (slL (gD c.Records x.Rec)).length = true ∧ isB b x.Src ⟨4, x.Rec, false⟩ = true then some (gD (gD c.Records x.Rec) x.N) else none := by
  unfold fieldO
  cases h1 : btw x.Rec (slL c.Records).length with
  | false => rw [z2n.1 h1]; simp
  | true =>
    rw [z1y h1]
    simp only
    cases h2 : btw x.N (slL (gD c.Records x.Rec)).length with
    | false => rw [z2n.1 h2]; simp
    | true => rw [z1y h2]; simp
theorem z3n (op : Int) : (hasS op).length ≤ 1000 := by
  unfold hasS
  split
  · decide
  · have : ∀ n : Nat, (hasT.getD n []).length ≤ 4 := fun n => by
      by_cases h : n < 18
      · have : ∀ m : Fin 18, (hasT.getD m.1 []).length ≤ 4 := by decide
        exact this ⟨n, h⟩
      · rw [List.getD_eq_getElem?_getD, List.getElem?_eq_none (by rw [show hasT.length = 18 from rfl]; omega)]; simp
    have := this op.toNat
    omega
end Go.Proofs.YtopfjochppdnfaaDoor
end

section
/- What the two rows, and two more, of the document's instr hold. -/
set_option maxRecDepth 100000
set_option maxHeartbeats 4000000
namespace Go.Proofs.YtopfjochppdnfaaDoor
open Go.Abs
theorem z3o {h H : z04} {b : Bd} {x : In} (o1 : H.objs h.next = some (.row 51 b.cells)) (o2 : H.objs (h.next + 1) = some (.row 58 x.cells)) (nx : H.next = h.next + 2) (kH : Keeps h H (fun _ => False)) :
    (∀ (off : Nat) (q : Option Nat) (K : AV → Prop), z02 q (.ptr h.next off) H K = z0b q b.cells off K) ∧
    (∀ (off : Nat) (q : Option Nat) (K : AV → Prop), z02 q (.ptr (h.next + 1) off) H K = z0b q x.cells off K) ∧
    (∀ (off : Nat) (q : Option Nat) (K : AV → Prop), z02 q (.ptr h.next off) ((H.push (AObj.row 69 [AV.int IntKind.i64 0, AV.int IntKind.i64 0, AV.bool false])).push (AObj.row 69 [AV.int IntKind.i64 0, AV.int IntKind.i64 0, AV.bool false])) K = z0b q b.cells off K) ∧
    (∀ (off : Nat) (q : Option Nat) (K : AV → Prop), z02 q (.ptr (h.next + 1) off) ((H.push (AObj.row 69 [AV.int IntKind.i64 0, AV.int IntKind.i64 0, AV.bool false])).push (AObj.row 69 [AV.int IntKind.i64 0, AV.int IntKind.i64 0, AV.bool false])) K = z0b q x.cells off K) ∧
    (∀ (d : Lo) (K : z04 → Prop), z0v 3 (.ptr H.next 0) (.agg d.cells) ((H.push (AObj.row 69 [AV.int IntKind.i64 0, AV.int IntKind.i64 0, AV.bool false])).push (AObj.row 69 [AV.int IntKind.i64 0, AV.int IntKind.i64 0, AV.bool false])) K = K (((H.push (AObj.row 69 [AV.int IntKind.i64 0, AV.int IntKind.i64 0, AV.bool false])).push (AObj.row 69 [AV.int IntKind.i64 0, AV.int IntKind.i64 0, AV.bool false])).put H.next (.row 69 d.cells))) ∧
    (∀ (d : Lo) (off : Nat) (q : Option Nat) (K : AV → Prop), z02 q (.ptr h.next off) (((H.push (AObj.row 69 [AV.int IntKind.i64 0, AV.int IntKind.i64 0, AV.bool false])).push (AObj.row 69 [AV.int IntKind.i64 0, AV.int IntKind.i64 0, AV.bool false])).put H.next (.row 69 d.cells)) K = z0b q b.cells off K) ∧
    (∀ (d : Lo) (off : Nat) (q : Option Nat) (K : AV → Prop), z02 q (.ptr (h.next + 1) off) (((H.push (AObj.row 69 [AV.int IntKind.i64 0, AV.int IntKind.i64 0, AV.bool false])).push (AObj.row 69 [AV.int IntKind.i64 0, AV.int IntKind.i64 0, AV.bool false])).put H.next (.row 69 d.cells)) K = z0b q x.cells off K) ∧
    (∀ (d : Lo) (off : Nat) (q : Option Nat) (K : AV → Prop), z02 q (.ptr H.next off) (((H.push (AObj.row 69 [AV.int IntKind.i64 0, AV.int IntKind.i64 0, AV.bool false])).push (AObj.row 69 [AV.int IntKind.i64 0, AV.int IntKind.i64 0, AV.bool false])).put H.next (.row 69 d.cells)) K = z0b q d.cells off K) ∧
    (∀ (s : Lo) (K : z04 → Prop), z0v 3 (.ptr (H.push (AObj.row 69 [AV.int IntKind.i64 0, AV.int IntKind.i64 0, AV.bool false])).next 0) (.agg s.cells) ((H.push (AObj.row 69 [AV.int IntKind.i64 0, AV.int IntKind.i64 0, AV.bool false])).push (AObj.row 69 [AV.int IntKind.i64 0, AV.int IntKind.i64 0, AV.bool false])) K = K (((H.push (AObj.row 69 [AV.int IntKind.i64 0, AV.int IntKind.i64 0, AV.bool false])).push (AObj.row 69 [AV.int IntKind.i64 0, AV.int IntKind.i64 0, AV.bool false])).put (H.push (AObj.row 69 [AV.int IntKind.i64 0, AV.int IntKind.i64 0, AV.bool false])).next (.row 69 s.cells))) ∧
    (∀ (s : Lo) (off : Nat) (q : Option Nat) (K : AV → Prop), z02 q (.ptr h.next off) (((H.push (AObj.row 69 [AV.int IntKind.i64 0, AV.int IntKind.i64 0, AV.bool false])).push (AObj.row 69 [AV.int IntKind.i64 0, AV.int IntKind.i64 0, AV.bool false])).put (H.push (AObj.row 69 [AV.int IntKind.i64 0, AV.int IntKind.i64 0, AV.bool false])).next (.row 69 s.cells)) K = z0b q b.cells off K) ∧
    (∀ (s : Lo) (off : Nat) (q : Option Nat) (K : AV → Prop), z02 q (.ptr (h.next + 1) off) (((H.push (AObj.row 69 [AV.int IntKind.i64 0, AV.int IntKind.i64 0, AV.bool false])).push (AObj.row 69 [AV.int IntKind.i64 0, AV.int IntKind.i64 0, AV.bool false])).put (H.push (AObj.row 69 [AV.int IntKind.i64 0, AV.int IntKind.i64 0, AV.bool false])).next (.row 69 s.cells)) K = z0b q x.cells off K) ∧
    (∀ (s : Lo) (off : Nat) (q : Option Nat) (K : AV → Prop), z02 q (.ptr (H.push (AObj.row 69 [AV.int IntKind.i64 0, AV.int IntKind.i64 0, AV.bool false])).next off) (((H.push (AObj.row 69 [AV.int IntKind.i64 0, AV.int IntKind.i64 0, AV.bool false])).push (AObj.row 69 [AV.int IntKind.i64 0, AV.int IntKind.i64 0, AV.bool false])).put (H.push (AObj.row 69 [AV.int IntKind.i64 0, AV.int IntKind.i64 0, AV.bool false])).next (.row 69 s.cells)) K = z0b q s.cells off K) ∧
    (∀ (d : Lo) (s : Lo) (K : z04 → Prop), z0v 3 (.ptr (H.push (AObj.row 69 [AV.int IntKind.i64 0, AV.int IntKind.i64 0, AV.bool false])).next 0) (.agg s.cells) (((H.push (AObj.row 69 [AV.int IntKind.i64 0, AV.int IntKind.i64 0, AV.bool false])).push (AObj.row 69 [AV.int IntKind.i64 0, AV.int IntKind.i64 0, AV.bool false])).put H.next (.row 69 d.cells)) K = K ((((H.push (AObj.row 69 [AV.int IntKind.i64 0, AV.int IntKind.i64 0, AV.bool false])).push (AObj.row 69 [AV.int IntKind.i64 0, AV.int IntKind.i64 0, AV.bool false])).put H.next (.row 69 d.cells)).put (H.push (AObj.row 69 [AV.int IntKind.i64 0, AV.int IntKind.i64 0, AV.bool false])).next (.row 69 s.cells))) ∧
    (∀ (d : Lo) (s : Lo) (off : Nat) (q : Option Nat) (K : AV → Prop), z02 q (.ptr h.next off) ((((H.push (AObj.row 69 [AV.int IntKind.i64 0, AV.int IntKind.i64 0, AV.bool false])).push (AObj.row 69 [AV.int IntKind.i64 0, AV.int IntKind.i64 0, AV.bool false])).put H.next (.row 69 d.cells)).put (H.push (AObj.row 69 [AV.int IntKind.i64 0, AV.int IntKind.i64 0, AV.bool false])).next (.row 69 s.cells)) K = z0b q b.cells off K) ∧
    (∀ (d : Lo) (s : Lo) (off : Nat) (q : Option Nat) (K : AV → Prop), z02 q (.ptr (h.next + 1) off) ((((H.push (AObj.row 69 [AV.int IntKind.i64 0, AV.int IntKind.i64 0, AV.bool false])).push (AObj.row 69 [AV.int IntKind.i64 0, AV.int IntKind.i64 0, AV.bool false])).put H.next (.row 69 d.cells)).put (H.push (AObj.row 69 [AV.int IntKind.i64 0, AV.int IntKind.i64 0, AV.bool false])).next (.row 69 s.cells)) K = z0b q x.cells off K) ∧
    (∀ (d : Lo) (s : Lo) (off : Nat) (q : Option Nat) (K : AV → Prop), z02 q (.ptr H.next off) ((((H.push (AObj.row 69 [AV.int IntKind.i64 0, AV.int IntKind.i64 0, AV.bool false])).push (AObj.row 69 [AV.int IntKind.i64 0, AV.int IntKind.i64 0, AV.bool false])).put H.next (.row 69 d.cells)).put (H.push (AObj.row 69 [AV.int IntKind.i64 0, AV.int IntKind.i64 0, AV.bool false])).next (.row 69 s.cells)) K = z0b q d.cells off K) ∧
    (∀ (d : Lo) (s : Lo) (off : Nat) (q : Option Nat) (K : AV → Prop), z02 q (.ptr (H.push (AObj.row 69 [AV.int IntKind.i64 0, AV.int IntKind.i64 0, AV.bool false])).next off) ((((H.push (AObj.row 69 [AV.int IntKind.i64 0, AV.int IntKind.i64 0, AV.bool false])).push (AObj.row 69 [AV.int IntKind.i64 0, AV.int IntKind.i64 0, AV.bool false])).put H.next (.row 69 d.cells)).put (H.push (AObj.row 69 [AV.int IntKind.i64 0, AV.int IntKind.i64 0, AV.bool false])).next (.row 69 s.cells)) K = z0b q s.cells off K) ∧
    (∀ (d : Lo) (s : Lo) (r : AObj) (off : Nat) (q : Option Nat) (K : AV → Prop), z02 q (.ptr (h.next + 1) off) (((((H.push (AObj.row 69 [AV.int IntKind.i64 0, AV.int IntKind.i64 0, AV.bool false])).push (AObj.row 69 [AV.int IntKind.i64 0, AV.int IntKind.i64 0, AV.bool false])).put H.next (.row 69 d.cells)).put (H.push (AObj.row 69 [AV.int IntKind.i64 0, AV.int IntKind.i64 0, AV.bool false])).next (.row 69 s.cells)).push r) K = z0b q x.cells off K) ∧
    (∀ (d : Lo) (s : Lo) (r : AObj) (off : Nat) (q : Option Nat) (K : AV → Prop), z02 q (.ptr H.next off) (((((H.push (AObj.row 69 [AV.int IntKind.i64 0, AV.int IntKind.i64 0, AV.bool false])).push (AObj.row 69 [AV.int IntKind.i64 0, AV.int IntKind.i64 0, AV.bool false])).put H.next (.row 69 d.cells)).put (H.push (AObj.row 69 [AV.int IntKind.i64 0, AV.int IntKind.i64 0, AV.bool false])).next (.row 69 s.cells)).push r) K = z0b q d.cells off K) ∧
    (∀ (s : Lo) (r : AObj) (off : Nat) (q : Option Nat) (K : AV → Prop), z02 q (.ptr (h.next + 1) off) ((((H.push (AObj.row 69 [AV.int IntKind.i64 0, AV.int IntKind.i64 0, AV.bool false])).push (AObj.row 69 [AV.int IntKind.i64 0, AV.int IntKind.i64 0, AV.bool false])).put (H.push (AObj.row 69 [AV.int IntKind.i64 0, AV.int IntKind.i64 0, AV.bool false])).next (.row 69 s.cells)).push r) K = z0b q x.cells off K) ∧
    (∀ (d s : Lo) (r : AObj), Keeps h (((((H.push (AObj.row 69 [AV.int IntKind.i64 0, AV.int IntKind.i64 0, AV.bool false])).push (AObj.row 69 [AV.int IntKind.i64 0, AV.int IntKind.i64 0, AV.bool false])).put H.next (.row 69 d.cells)).put (H.push (AObj.row 69 [AV.int IntKind.i64 0, AV.int IntKind.i64 0, AV.bool false])).next (.row 69 s.cells)).push r) (fun _ => False)) ∧
    (∀ (s : Lo) (r : AObj), Keeps h ((((H.push (AObj.row 69 [AV.int IntKind.i64 0, AV.int IntKind.i64 0, AV.bool false])).push (AObj.row 69 [AV.int IntKind.i64 0, AV.int IntKind.i64 0, AV.bool false])).put (H.push (AObj.row 69 [AV.int IntKind.i64 0, AV.int IntKind.i64 0, AV.bool false])).next (.row 69 s.cells)).push r) (fun _ => False)) ∧
    (Keeps h ((H.push (AObj.row 69 [AV.int IntKind.i64 0, AV.int IntKind.i64 0, AV.bool false])).push (AObj.row 69 [AV.int IntKind.i64 0, AV.int IntKind.i64 0, AV.bool false])) (fun _ => False)) ∧
    (∀ d : Lo, Keeps h (((H.push (AObj.row 69 [AV.int IntKind.i64 0, AV.int IntKind.i64 0, AV.bool false])).push (AObj.row 69 [AV.int IntKind.i64 0, AV.int IntKind.i64 0, AV.bool false])).put H.next (.row 69 d.cells)) (fun _ => False)) ∧
    (∀ s : Lo, Keeps h (((H.push (AObj.row 69 [AV.int IntKind.i64 0, AV.int IntKind.i64 0, AV.bool false])).push (AObj.row 69 [AV.int IntKind.i64 0, AV.int IntKind.i64 0, AV.bool false])).put (H.push (AObj.row 69 [AV.int IntKind.i64 0, AV.int IntKind.i64 0, AV.bool false])).next (.row 69 s.cells)) (fun _ => False)) ∧
    (∀ d s : Lo, Keeps h ((((H.push (AObj.row 69 [AV.int IntKind.i64 0, AV.int IntKind.i64 0, AV.bool false])).push (AObj.row 69 [AV.int IntKind.i64 0, AV.int IntKind.i64 0, AV.bool false])).put H.next (.row 69 d.cells)).put (H.push (AObj.row 69 [AV.int IntKind.i64 0, AV.int IntKind.i64 0, AV.bool false])).next (.row 69 s.cells)) (fun _ => False)) := by
  have l1 : ∀ (off : Nat) (q : Option Nat) (K : AV → Prop), z02 q (.ptr h.next off) H K = z0b q b.cells off K := fun off q K => z0x o1 q K
  have l2 : ∀ (off : Nat) (q : Option Nat) (K : AV → Prop), z02 q (.ptr (h.next + 1) off) H K = z0b q x.cells off K := fun off q K => z0x o2 q K
  have n1 : ¬ (h.next = h.next + 2 + 1) := by omega
  have n2 : ¬ (h.next + 1 = h.next + 2 + 1) := by omega
  have n3 : ¬ (h.next + 2 = h.next + 2 + 1) := by omega
  have g0 : ∀ (off : Nat) (q : Option Nat) (K : AV → Prop), z02 q (.ptr h.next off) ((H.push (AObj.row 69 [AV.int IntKind.i64 0, AV.int IntKind.i64 0, AV.bool false])).push (AObj.row 69 [AV.int IntKind.i64 0, AV.int IntKind.i64 0, AV.bool false])) K = z0b q b.cells off K := fun  off q K => z0x (ty := 51) (by simp [o1, o2, nx, n1, n2, n3]) q K
  have g1 : ∀ (off : Nat) (q : Option Nat) (K : AV → Prop), z02 q (.ptr (h.next + 1) off) ((H.push (AObj.row 69 [AV.int IntKind.i64 0, AV.int IntKind.i64 0, AV.bool false])).push (AObj.row 69 [AV.int IntKind.i64 0, AV.int IntKind.i64 0, AV.bool false])) K = z0b q x.cells off K := fun  off q K => z0x (ty := 58) (by simp [o1, o2, nx, n1, n2, n3]) q K
  have std : ∀ (d : Lo) (K : z04 → Prop), z0v 3 (.ptr H.next 0) (.agg d.cells) ((H.push (AObj.row 69 [AV.int IntKind.i64 0, AV.int IntKind.i64 0, AV.bool false])).push (AObj.row 69 [AV.int IntKind.i64 0, AV.int IntKind.i64 0, AV.bool false])) K = K (((H.push (AObj.row 69 [AV.int IntKind.i64 0, AV.int IntKind.i64 0, AV.bool false])).push (AObj.row 69 [AV.int IntKind.i64 0, AV.int IntKind.i64 0, AV.bool false])).put H.next (.row 69 d.cells)) := fun d K => by simp [z0v, nx, z0d.cells]
  have dd0 : ∀ (d : Lo) (off : Nat) (q : Option Nat) (K : AV → Prop), z02 q (.ptr h.next off) (((H.push (AObj.row 69 [AV.int IntKind.i64 0, AV.int IntKind.i64 0, AV.bool false])).push (AObj.row 69 [AV.int IntKind.i64 0, AV.int IntKind.i64 0, AV.bool false])).put H.next (.row 69 d.cells)) K = z0b q b.cells off K := fun d off q K => z0x (ty := 51) (by simp [o1, o2, nx, n1, n2, n3]) q K
  have dd1 : ∀ (d : Lo) (off : Nat) (q : Option Nat) (K : AV → Prop), z02 q (.ptr (h.next + 1) off) (((H.push (AObj.row 69 [AV.int IntKind.i64 0, AV.int IntKind.i64 0, AV.bool false])).push (AObj.row 69 [AV.int IntKind.i64 0, AV.int IntKind.i64 0, AV.bool false])).put H.next (.row 69 d.cells)) K = z0b q x.cells off K := fun d off q K => z0x (ty := 58) (by simp [o1, o2, nx, n1, n2, n3]) q K
  have dd3 : ∀ (d : Lo) (off : Nat) (q : Option Nat) (K : AV → Prop), z02 q (.ptr H.next off) (((H.push (AObj.row 69 [AV.int IntKind.i64 0, AV.int IntKind.i64 0, AV.bool false])).push (AObj.row 69 [AV.int IntKind.i64 0, AV.int IntKind.i64 0, AV.bool false])).put H.next (.row 69 d.cells)) K = z0b q d.cells off K := fun d off q K => z0x (ty := 69) (by simp [o1, o2, nx, n1, n2, n3]) q K
  have sts : ∀ (s : Lo) (K : z04 → Prop), z0v 3 (.ptr (H.push (AObj.row 69 [AV.int IntKind.i64 0, AV.int IntKind.i64 0, AV.bool false])).next 0) (.agg s.cells) ((H.push (AObj.row 69 [AV.int IntKind.i64 0, AV.int IntKind.i64 0, AV.bool false])).push (AObj.row 69 [AV.int IntKind.i64 0, AV.int IntKind.i64 0, AV.bool false])) K = K (((H.push (AObj.row 69 [AV.int IntKind.i64 0, AV.int IntKind.i64 0, AV.bool false])).push (AObj.row 69 [AV.int IntKind.i64 0, AV.int IntKind.i64 0, AV.bool false])).put (H.push (AObj.row 69 [AV.int IntKind.i64 0, AV.int IntKind.i64 0, AV.bool false])).next (.row 69 s.cells)) := fun s K => by simp [z0v, nx, z0d.cells]
  have ss0 : ∀ (s : Lo) (off : Nat) (q : Option Nat) (K : AV → Prop), z02 q (.ptr h.next off) (((H.push (AObj.row 69 [AV.int IntKind.i64 0, AV.int IntKind.i64 0, AV.bool false])).push (AObj.row 69 [AV.int IntKind.i64 0, AV.int IntKind.i64 0, AV.bool false])).put (H.push (AObj.row 69 [AV.int IntKind.i64 0, AV.int IntKind.i64 0, AV.bool false])).next (.row 69 s.cells)) K = z0b q b.cells off K := fun s off q K => z0x (ty := 51) (by simp [o1, o2, nx, n1, n2, n3]) q K
  have ss1 : ∀ (s : Lo) (off : Nat) (q : Option Nat) (K : AV → Prop), z02 q (.ptr (h.next + 1) off) (((H.push (AObj.row 69 [AV.int IntKind.i64 0, AV.int IntKind.i64 0, AV.bool false])).push (AObj.row 69 [AV.int IntKind.i64 0, AV.int IntKind.i64 0, AV.bool false])).put (H.push (AObj.row 69 [AV.int IntKind.i64 0, AV.int IntKind.i64 0, AV.bool false])).next (.row 69 s.cells)) K = z0b q x.cells off K := fun s off q K => z0x (ty := 58) (by simp [o1, o2, nx, n1, n2, n3]) q K
  have ss4 : ∀ (s : Lo) (off : Nat) (q : Option Nat) (K : AV → Prop), z02 q (.ptr (H.push (AObj.row 69 [AV.int IntKind.i64 0, AV.int IntKind.i64 0, AV.bool false])).next off) (((H.push (AObj.row 69 [AV.int IntKind.i64 0, AV.int IntKind.i64 0, AV.bool false])).push (AObj.row 69 [AV.int IntKind.i64 0, AV.int IntKind.i64 0, AV.bool false])).put (H.push (AObj.row 69 [AV.int IntKind.i64 0, AV.int IntKind.i64 0, AV.bool false])).next (.row 69 s.cells)) K = z0b q s.cells off K := fun s off q K => z0x (ty := 69) (by simp [o1, o2, nx, n1, n2, n3]) q K
  have stds : ∀ (d : Lo) (s : Lo) (K : z04 → Prop), z0v 3 (.ptr (H.push (AObj.row 69 [AV.int IntKind.i64 0, AV.int IntKind.i64 0, AV.bool false])).next 0) (.agg s.cells) (((H.push (AObj.row 69 [AV.int IntKind.i64 0, AV.int IntKind.i64 0, AV.bool false])).push (AObj.row 69 [AV.int IntKind.i64 0, AV.int IntKind.i64 0, AV.bool false])).put H.next (.row 69 d.cells)) K = K ((((H.push (AObj.row 69 [AV.int IntKind.i64 0, AV.int IntKind.i64 0, AV.bool false])).push (AObj.row 69 [AV.int IntKind.i64 0, AV.int IntKind.i64 0, AV.bool false])).put H.next (.row 69 d.cells)).put (H.push (AObj.row 69 [AV.int IntKind.i64 0, AV.int IntKind.i64 0, AV.bool false])).next (.row 69 s.cells)) := fun d s K => by simp [z0v, nx, z0d.cells]
  have ds0 : ∀ (d : Lo) (s : Lo) (off : Nat) (q : Option Nat) (K : AV → Prop), z02 q (.ptr h.next off) ((((H.push (AObj.row 69 [AV.int IntKind.i64 0, AV.int IntKind.i64 0, AV.bool false])).push (AObj.row 69 [AV.int IntKind.i64 0, AV.int IntKind.i64 0, AV.bool false])).put H.next (.row 69 d.cells)).put (H.push (AObj.row 69 [AV.int IntKind.i64 0, AV.int IntKind.i64 0, AV.bool false])).next (.row 69 s.cells)) K = z0b q b.cells off K := fun d s off q K => z0x (ty := 51) (by simp [o1, o2, nx, n1, n2, n3]) q K
  have ds1 : ∀ (d : Lo) (s : Lo) (off : Nat) (q : Option Nat) (K : AV → Prop), z02 q (.ptr (h.next + 1) off) ((((H.push (AObj.row 69 [AV.int IntKind.i64 0, AV.int IntKind.i64 0, AV.bool false])).push (AObj.row 69 [AV.int IntKind.i64 0, AV.int IntKind.i64 0, AV.bool false])).put H.next (.row 69 d.cells)).put (H.push (AObj.row 69 [AV.int IntKind.i64 0, AV.int IntKind.i64 0, AV.bool false])).next (.row 69 s.cells)) K = z0b q x.cells off K := fun d s off q K => z0x (ty := 58) (by simp [o1, o2, nx, n1, n2, n3]) q K
  have ds3 : ∀ (d : Lo) (s : Lo) (off : Nat) (q : Option Nat) (K : AV → Prop), z02 q (.ptr H.next off) ((((H.push (AObj.row 69 [AV.int IntKind.i64 0, AV.int IntKind.i64 0, AV.bool false])).push (AObj.row 69 [AV.int IntKind.i64 0, AV.int IntKind.i64 0, AV.bool false])).put H.next (.row 69 d.cells)).put (H.push (AObj.row 69 [AV.int IntKind.i64 0, AV.int IntKind.i64 0, AV.bool false])).next (.row 69 s.cells)) K = z0b q d.cells off K := fun d s off q K => z0x (ty := 69) (by simp [o1, o2, nx, n1, n2, n3]) q K
  have ds4 : ∀ (d : Lo) (s : Lo) (off : Nat) (q : Option Nat) (K : AV → Prop), z02 q (.ptr (H.push (AObj.row 69 [AV.int IntKind.i64 0, AV.int IntKind.i64 0, AV.bool false])).next off) ((((H.push (AObj.row 69 [AV.int IntKind.i64 0, AV.int IntKind.i64 0, AV.bool false])).push (AObj.row 69 [AV.int IntKind.i64 0, AV.int IntKind.i64 0, AV.bool false])).put H.next (.row 69 d.cells)).put (H.push (AObj.row 69 [AV.int IntKind.i64 0, AV.int IntKind.i64 0, AV.bool false])).next (.row 69 s.cells)) K = z0b q s.cells off K := fun d s off q K => z0x (ty := 69) (by simp [o1, o2, nx, n1, n2, n3]) q K
  have n4 : ¬ (h.next + 1 = h.next + 2 + 2) := by omega
  have n5 : ¬ (h.next + 2 = h.next + 2 + 2) := by omega
  have px : ∀ (d : Lo) (s : Lo) (r : AObj) (off : Nat) (q : Option Nat) (K : AV → Prop), z02 q (.ptr (h.next + 1) off) (((((H.push (AObj.row 69 [AV.int IntKind.i64 0, AV.int IntKind.i64 0, AV.bool false])).push (AObj.row 69 [AV.int IntKind.i64 0, AV.int IntKind.i64 0, AV.bool false])).put H.next (.row 69 d.cells)).put (H.push (AObj.row 69 [AV.int IntKind.i64 0, AV.int IntKind.i64 0, AV.bool false])).next (.row 69 s.cells)).push r) K = z0b q x.cells off K := fun d s r off q K => z0x (ty := 58) (by simp [o1, o2, nx, n1, n2, n3, n4, n5]) q K
  have pd : ∀ (d : Lo) (s : Lo) (r : AObj) (off : Nat) (q : Option Nat) (K : AV → Prop), z02 q (.ptr H.next off) (((((H.push (AObj.row 69 [AV.int IntKind.i64 0, AV.int IntKind.i64 0, AV.bool false])).push (AObj.row 69 [AV.int IntKind.i64 0, AV.int IntKind.i64 0, AV.bool false])).put H.next (.row 69 d.cells)).put (H.push (AObj.row 69 [AV.int IntKind.i64 0, AV.int IntKind.i64 0, AV.bool false])).next (.row 69 s.cells)).push r) K = z0b q d.cells off K := fun d s r off q K => z0x (ty := 69) (by simp [o1, o2, nx, n1, n2, n3, n4, n5]) q K
  have qx : ∀ (s : Lo) (r : AObj) (off : Nat) (q : Option Nat) (K : AV → Prop), z02 q (.ptr (h.next + 1) off) ((((H.push (AObj.row 69 [AV.int IntKind.i64 0, AV.int IntKind.i64 0, AV.bool false])).push (AObj.row 69 [AV.int IntKind.i64 0, AV.int IntKind.i64 0, AV.bool false])).put (H.push (AObj.row 69 [AV.int IntKind.i64 0, AV.int IntKind.i64 0, AV.bool false])).next (.row 69 s.cells)).push r) K = z0b q x.cells off K := fun s r off q K => z0x (ty := 58) (by simp [o1, o2, nx, n1, n2, n3, n4, n5]) q K
  have kDSp : ∀ (d s : Lo) (r : AObj), Keeps h (((((H.push (AObj.row 69 [AV.int IntKind.i64 0, AV.int IntKind.i64 0, AV.bool false])).push (AObj.row 69 [AV.int IntKind.i64 0, AV.int IntKind.i64 0, AV.bool false])).put H.next (.row 69 d.cells)).put (H.push (AObj.row 69 [AV.int IntKind.i64 0, AV.int IntKind.i64 0, AV.bool false])).next (.row 69 s.cells)).push r) (fun _ => False) := fun d s r => (keeps_put (keeps_put ((kH.go (Keeps.one _ _)).go (Keeps.one _ _)) (by omega) _) (by simp; omega) _).go (Keeps.one _ _)
  have kSp : ∀ (s : Lo) (r : AObj), Keeps h ((((H.push (AObj.row 69 [AV.int IntKind.i64 0, AV.int IntKind.i64 0, AV.bool false])).push (AObj.row 69 [AV.int IntKind.i64 0, AV.int IntKind.i64 0, AV.bool false])).put (H.push (AObj.row 69 [AV.int IntKind.i64 0, AV.int IntKind.i64 0, AV.bool false])).next (.row 69 s.cells)).push r) (fun _ => False) := fun s r => (keeps_put ((kH.go (Keeps.one _ _)).go (Keeps.one _ _)) (by simp; omega) _).go (Keeps.one _ _)
  have kG : Keeps h ((H.push (AObj.row 69 [AV.int IntKind.i64 0, AV.int IntKind.i64 0, AV.bool false])).push (AObj.row 69 [AV.int IntKind.i64 0, AV.int IntKind.i64 0, AV.bool false])) (fun _ => False) := (kH.go (Keeps.one _ _)).go (Keeps.one _ _)
  have kD : ∀ d : Lo, Keeps h (((H.push (AObj.row 69 [AV.int IntKind.i64 0, AV.int IntKind.i64 0, AV.bool false])).push (AObj.row 69 [AV.int IntKind.i64 0, AV.int IntKind.i64 0, AV.bool false])).put H.next (.row 69 d.cells)) (fun _ => False) := fun d => keeps_put kG (by omega) _
  have kS : ∀ s : Lo, Keeps h (((H.push (AObj.row 69 [AV.int IntKind.i64 0, AV.int IntKind.i64 0, AV.bool false])).push (AObj.row 69 [AV.int IntKind.i64 0, AV.int IntKind.i64 0, AV.bool false])).put (H.push (AObj.row 69 [AV.int IntKind.i64 0, AV.int IntKind.i64 0, AV.bool false])).next (.row 69 s.cells)) (fun _ => False) := fun s => keeps_put kG (by simp; omega) _
  have kDS : ∀ d s : Lo, Keeps h ((((H.push (AObj.row 69 [AV.int IntKind.i64 0, AV.int IntKind.i64 0, AV.bool false])).push (AObj.row 69 [AV.int IntKind.i64 0, AV.int IntKind.i64 0, AV.bool false])).put H.next (.row 69 d.cells)).put (H.push (AObj.row 69 [AV.int IntKind.i64 0, AV.int IntKind.i64 0, AV.bool false])).next (.row 69 s.cells)) (fun _ => False) := fun d s => keeps_put (kD d) (by simp; omega) _
  exact ⟨l1, l2, g0, g1, std, dd0, dd1, dd3, sts, ss0, ss1, ss4, stds, ds0, ds1, ds3, ds4, px, pd, qx, kDSp, kSp, kG, kD, kS, kDS⟩
end Go.Proofs.YtopfjochppdnfaaDoor
end

section
/- What the document's instr computes, kind by kind. -/
set_option maxRecDepth 100000
set_option maxHeartbeats 4000000
namespace Go.Proofs.YtopfjochppdnfaaDoor
open Go.Abs
theorem ri_1 (c : Cd) (hc : c.ok) (hs : (slL c.Sections).length ≤ 1000000) (t a : Int) (b : Bd) (x : In) (hb : getI (slL c.Threads) t = some b) (hx : getI (slL b.Code) a = some x) (hsl : ∀ l ∈ slL b.Slots, z19 c l = true)
    (hn : okI (slL b.Slots).length) (hit : okSl z0j.ok x.Items) (hix : okSl z0j.ok x.Index) (hitl : (slL x.Items).length ≤ 1000000) (hixl : (slL x.Index).length ≤ 1000000) (hcl : (slL b.Code).length ≤ 1000000) (hop : x.Op = 1) (h : z04) :
    z03 Tryd.prog 39 [.agg c.cells, .int .i64 t, .int .i64 a] h (fun v h2 => v = .bool (z1l c t b x a && (decide (x.Op = 17) == decide (a = (slL b.Code).length - 1))) ∧ Keeps h h2 (fun _ => False)) := by
  have kind : ∀ n : Int, btw n (slL b.Slots).length = true → ((gD b.Slots n).Kind = 1 ∨ (gD b.Slots n).Kind = 3) → (gD b.Slots n).Rec = 0 := fun n hq hk => by
    have := hsl _ (z2m (z1y hq))
    unfold z19 at this
    rw [if_neg (by omega)] at this
    simp only [Bool.and_eq_true, decide_eq_true_eq] at this
    exact this.2
  have hl := z3n 1
  have nq : (hasS 1 == [63]) = false := rfl
  have f100 : (hasS 1).contains 100 = true := rfl
  have f115 : (hasS 1).contains 115 = false := rfl
  have f114 : (hasS 1).contains 114 = false := rfl
  have f110 : (hasS 1).contains 110 = false := rfl
  have f116 : (hasS 1).contains 116 = false := rfl
  have f105 : (hasS 1).contains 105 = true := rfl
  have f120 : (hasS 1).contains 120 = false := rfl
  have wl : IntKind.i64.wrap (((slL b.Code).length : Int) - 1) = ((slL b.Code).length : Int) - 1 := wrapI (by omega) (by omega)
  apply z0y
  (repeat (first | simp -dsimp -implicitDefEqProofs (disch := omega) only [↓rP, rQ, rO, rL, ↓reduceIte, Nat.reduceEqDiff, Nat.reduceAdd, Nat.reduceLeDiff, z01, z05, ↓tyr, ixI hb, ixI hx] | refine Cut.go ?_))
  have e2 : (h.push (.row 51 b.cells)).next = h.next + 1 := rfl
  have o1 : ((h.push (.row 51 b.cells)).push (.row 58 x.cells)).objs h.next = some (.row 51 b.cells) := by simp
  have o2 : ((h.push (.row 51 b.cells)).push (.row 58 x.cells)).objs (h.next + 1) = some (.row 58 x.cells) := by simp
  have nx : ((h.push (.row 51 b.cells)).push (.row 58 x.cells)).next = h.next + 2 := rfl
  have kH : Keeps h ((h.push (.row 51 b.cells)).push (.row 58 x.cells)) (fun _ => False) := (Keeps.one _ _).go (Keeps.one _ _)
  rw [e2]
  generalize ((h.push (.row 51 b.cells)).push (.row 58 x.cells)) = H at *
  simp only [hop]
  obtain ⟨l1, l2, g0, g1, std, dd0, dd1, dd3, sts, ss0, ss1, ss4, stds, ds0, ds1, ds3, ds4, px, pd, qx, kDSp, kSp, kG, kD, kS, kDS⟩ := z3o o1 o2 nx kH
  refine z03.go (z1n 1 _) ?_
  repeat' (first | (simp -dsimp -implicitDefEqProofs only [↓rP, rQ, rL, ↓reduceIte, Nat.reduceEqDiff, Nat.reduceAdd, Nat.reduceLeDiff, z01, z05, ↓tyr, Int.reduceBEq, Int.reduceBNe, Int.reduceLT, Int.reduceLE, decide_true, decide_false, f100, f115, f114, f110, f116, f105, f120, nq, hop, ↓l1, ↓l2, wl, ixI hb, ixI hx, ↓g0, ↓g1, ↓std, ↓dd0, ↓dd1, ↓dd3, ↓sts, ↓ss0, ↓ss1, ↓ss4, ↓stds, ↓ds0, ↓ds1, ↓ds3, ↓ds4, ↓px, ↓pd, ↓qx]) | with_reducible refine Cut.go ?_ | with_reducible refine z03.go (has_100 _ hl _) ?_ | with_reducible refine z03.go (has_115 _ hl _) ?_ | with_reducible refine z03.go (has_114 _ hl _) ?_ | with_reducible refine z03.go (has_110 _ hl _) ?_ | with_reducible refine z03.go (has_116 _ hl _) ?_ | with_reducible refine z03.go (has_105 _ hl _) ?_ | with_reducible refine z03.go (has_120 _ hl _) ?_ | with_reducible refine z03.go (z1f _ _ _) ?_ | with_reducible refine z03.go (z1v c hs _ _ _) ?_ | with_reducible refine z03.go (z0w _ hn _ hit hitl _) ?_ | with_reducible refine z03.go (z0w _ hn _ hix hixl _) ?_ | with_reducible refine ixB_go (by assumption) ?_ | unfold z0q | unfold z0r | unfold z0s | unfold z0t | unfold z0u | (with_reducible refine Split.intro (fun hq => ?_) (fun hq => ?_) <;> (try simp only [Bool.not_eq_true', Bool.not_eq_false'] at hq) <;> (try rw [hq])))
  all_goals clear l1 l2 g0 g1 std dd0 dd1 dd3 sts ss0 ss1 ss4 stds ds0 ds1 ds3 ds4 px pd qx o1 o2
  all_goals refine And.intro (congrArg AV.bool ?_) (by first | exact kH | exact kG | exact kD _ | exact kS _ | exact kDS _ _ | exact kDSp _ _ _ | exact kSp _ _)
  all_goals clear kH kG kD kS kDS kDSp kSp nx wl nq hl f100 f115 f114 f110 f116 f105 f120 e2 hb hx hcl hixl hitl hix hit hn hs hc
  all_goals have kd := kind x.Dst
  all_goals have ks := kind x.Src
  all_goals clear kind
  all_goals clear hsl
  all_goals simp_all [z2u, z1l, z3s, z3c, z3r, z14, goesB, z2h, siteB, sameB, isB_btw, z5c, List.length_pos_iff, z1y, z5b, z3p]
  all_goals try omega
  all_goals try (rw [Bool.eq_iff_iff]; simp_all [beqI]; try omega)
  all_goals try (split <;> simp_all)
  all_goals try omega
theorem ri_11 (c : Cd) (hc : c.ok) (hs : (slL c.Sections).length ≤ 1000000) (t a : Int) (b : Bd) (x : In) (hb : getI (slL c.Threads) t = some b) (hx : getI (slL b.Code) a = some x) (hsl : ∀ l ∈ slL b.Slots, z19 c l = true)
    (hn : okI (slL b.Slots).length) (hit : okSl z0j.ok x.Items) (hix : okSl z0j.ok x.Index) (hitl : (slL x.Items).length ≤ 1000000) (hixl : (slL x.Index).length ≤ 1000000) (hcl : (slL b.Code).length ≤ 1000000) (hop : x.Op = 11) (h : z04) :
    z03 Tryd.prog 39 [.agg c.cells, .int .i64 t, .int .i64 a] h (fun v h2 => v = .bool (z1l c t b x a && (decide (x.Op = 17) == decide (a = (slL b.Code).length - 1))) ∧ Keeps h h2 (fun _ => False)) := by
  have kind : ∀ n : Int, btw n (slL b.Slots).length = true → ((gD b.Slots n).Kind = 1 ∨ (gD b.Slots n).Kind = 3) → (gD b.Slots n).Rec = 0 := fun n hq hk => by
    have := hsl _ (z2m (z1y hq))
    unfold z19 at this
    rw [if_neg (by omega)] at this
    simp only [Bool.and_eq_true, decide_eq_true_eq] at this
    exact this.2
  have hl := z3n 11
  have nq : (hasS 11 == [63]) = false := rfl
  have f100 : (hasS 11).contains 100 = false := rfl
  have f115 : (hasS 11).contains 115 = false := rfl
  have f114 : (hasS 11).contains 114 = false := rfl
  have f110 : (hasS 11).contains 110 = false := rfl
  have f116 : (hasS 11).contains 116 = false := rfl
  have f105 : (hasS 11).contains 105 = true := rfl
  have f120 : (hasS 11).contains 120 = false := rfl
  have wl : IntKind.i64.wrap (((slL b.Code).length : Int) - 1) = ((slL b.Code).length : Int) - 1 := wrapI (by omega) (by omega)
  apply z0y
  (repeat (first | simp -dsimp -implicitDefEqProofs (disch := omega) only [↓rP, rQ, rO, rL, ↓reduceIte, Nat.reduceEqDiff, Nat.reduceAdd, Nat.reduceLeDiff, z01, z05, ↓tyr, ixI hb, ixI hx] | refine Cut.go ?_))
  have e2 : (h.push (.row 51 b.cells)).next = h.next + 1 := rfl
  have o1 : ((h.push (.row 51 b.cells)).push (.row 58 x.cells)).objs h.next = some (.row 51 b.cells) := by simp
  have o2 : ((h.push (.row 51 b.cells)).push (.row 58 x.cells)).objs (h.next + 1) = some (.row 58 x.cells) := by simp
  have nx : ((h.push (.row 51 b.cells)).push (.row 58 x.cells)).next = h.next + 2 := rfl
  have kH : Keeps h ((h.push (.row 51 b.cells)).push (.row 58 x.cells)) (fun _ => False) := (Keeps.one _ _).go (Keeps.one _ _)
  rw [e2]
  generalize ((h.push (.row 51 b.cells)).push (.row 58 x.cells)) = H at *
  simp only [hop]
  obtain ⟨l1, l2, g0, g1, std, dd0, dd1, dd3, sts, ss0, ss1, ss4, stds, ds0, ds1, ds3, ds4, px, pd, qx, kDSp, kSp, kG, kD, kS, kDS⟩ := z3o o1 o2 nx kH
  refine z03.go (z1n 11 _) ?_
  repeat' (first | (simp -dsimp -implicitDefEqProofs only [↓rP, rQ, rL, ↓reduceIte, Nat.reduceEqDiff, Nat.reduceAdd, Nat.reduceLeDiff, z01, z05, ↓tyr, Int.reduceBEq, Int.reduceBNe, Int.reduceLT, Int.reduceLE, decide_true, decide_false, f100, f115, f114, f110, f116, f105, f120, nq, hop, ↓l1, ↓l2, wl, ixI hb, ixI hx, ↓g0, ↓g1, ↓std, ↓dd0, ↓dd1, ↓dd3, ↓sts, ↓ss0, ↓ss1, ↓ss4, ↓stds, ↓ds0, ↓ds1, ↓ds3, ↓ds4, ↓px, ↓pd, ↓qx]) | with_reducible refine Cut.go ?_ | with_reducible refine z03.go (has_100 _ hl _) ?_ | with_reducible refine z03.go (has_115 _ hl _) ?_ | with_reducible refine z03.go (has_114 _ hl _) ?_ | with_reducible refine z03.go (has_110 _ hl _) ?_ | with_reducible refine z03.go (has_116 _ hl _) ?_ | with_reducible refine z03.go (has_105 _ hl _) ?_ | with_reducible refine z03.go (has_120 _ hl _) ?_ | with_reducible refine z03.go (z1f _ _ _) ?_ | with_reducible refine z03.go (z1v c hs _ _ _) ?_ | with_reducible refine z03.go (z0w _ hn _ hit hitl _) ?_ | with_reducible refine z03.go (z0w _ hn _ hix hixl _) ?_ | with_reducible refine ixB_go (by assumption) ?_ | unfold z0q | unfold z0r | unfold z0s | unfold z0t | unfold z0u | (with_reducible refine Split.intro (fun hq => ?_) (fun hq => ?_) <;> (try simp only [Bool.not_eq_true', Bool.not_eq_false'] at hq) <;> (try rw [hq])))
  all_goals clear l1 l2 g0 g1 std dd0 dd1 dd3 sts ss0 ss1 ss4 stds ds0 ds1 ds3 ds4 px pd qx o1 o2
  all_goals refine And.intro (congrArg AV.bool ?_) (by first | exact kH | exact kG | exact kD _ | exact kS _ | exact kDS _ _ | exact kDSp _ _ _ | exact kSp _ _)
  all_goals clear kH kG kD kS kDS kDSp kSp nx wl nq hl f100 f115 f114 f110 f116 f105 f120 e2 hb hx hcl hixl hitl hix hit hn hs hc
  all_goals have kd := kind x.Dst
  all_goals have ks := kind x.Src
  all_goals clear kind
  all_goals clear hsl
  all_goals simp_all [z2u, z1l, z3s, z3c, z3r, z14, goesB, z2h, siteB, sameB, isB_btw, z5c, List.length_pos_iff, z1y, z5b, z3p]
  all_goals try omega
  all_goals try (rw [Bool.eq_iff_iff]; simp_all [beqI]; try omega)
  all_goals try (split <;> simp_all)
  all_goals try omega
theorem ri_12 (c : Cd) (hc : c.ok) (hs : (slL c.Sections).length ≤ 1000000) (t a : Int) (b : Bd) (x : In) (hb : getI (slL c.Threads) t = some b) (hx : getI (slL b.Code) a = some x) (hsl : ∀ l ∈ slL b.Slots, z19 c l = true)
    (hn : okI (slL b.Slots).length) (hit : okSl z0j.ok x.Items) (hix : okSl z0j.ok x.Index) (hitl : (slL x.Items).length ≤ 1000000) (hixl : (slL x.Index).length ≤ 1000000) (hcl : (slL b.Code).length ≤ 1000000) (hop : x.Op = 12) (h : z04) :
    z03 Tryd.prog 39 [.agg c.cells, .int .i64 t, .int .i64 a] h (fun v h2 => v = .bool (z1l c t b x a && (decide (x.Op = 17) == decide (a = (slL b.Code).length - 1))) ∧ Keeps h h2 (fun _ => False)) := by
  have kind : ∀ n : Int, btw n (slL b.Slots).length = true → ((gD b.Slots n).Kind = 1 ∨ (gD b.Slots n).Kind = 3) → (gD b.Slots n).Rec = 0 := fun n hq hk => by
    have := hsl _ (z2m (z1y hq))
    unfold z19 at this
    rw [if_neg (by omega)] at this
    simp only [Bool.and_eq_true, decide_eq_true_eq] at this
    exact this.2
  have hl := z3n 12
  have nq : (hasS 12 == [63]) = false := rfl
  have f100 : (hasS 12).contains 100 = false := rfl
  have f115 : (hasS 12).contains 115 = false := rfl
  have f114 : (hasS 12).contains 114 = false := rfl
  have f110 : (hasS 12).contains 110 = false := rfl
  have f116 : (hasS 12).contains 116 = false := rfl
  have f105 : (hasS 12).contains 105 = true := rfl
  have f120 : (hasS 12).contains 120 = false := rfl
  have wl : IntKind.i64.wrap (((slL b.Code).length : Int) - 1) = ((slL b.Code).length : Int) - 1 := wrapI (by omega) (by omega)
  apply z0y
  (repeat (first | simp -dsimp -implicitDefEqProofs (disch := omega) only [↓rP, rQ, rO, rL, ↓reduceIte, Nat.reduceEqDiff, Nat.reduceAdd, Nat.reduceLeDiff, z01, z05, ↓tyr, ixI hb, ixI hx] | refine Cut.go ?_))
  have e2 : (h.push (.row 51 b.cells)).next = h.next + 1 := rfl
  have o1 : ((h.push (.row 51 b.cells)).push (.row 58 x.cells)).objs h.next = some (.row 51 b.cells) := by simp
  have o2 : ((h.push (.row 51 b.cells)).push (.row 58 x.cells)).objs (h.next + 1) = some (.row 58 x.cells) := by simp
  have nx : ((h.push (.row 51 b.cells)).push (.row 58 x.cells)).next = h.next + 2 := rfl
  have kH : Keeps h ((h.push (.row 51 b.cells)).push (.row 58 x.cells)) (fun _ => False) := (Keeps.one _ _).go (Keeps.one _ _)
  rw [e2]
  generalize ((h.push (.row 51 b.cells)).push (.row 58 x.cells)) = H at *
  simp only [hop]
  obtain ⟨l1, l2, g0, g1, std, dd0, dd1, dd3, sts, ss0, ss1, ss4, stds, ds0, ds1, ds3, ds4, px, pd, qx, kDSp, kSp, kG, kD, kS, kDS⟩ := z3o o1 o2 nx kH
  refine z03.go (z1n 12 _) ?_
  repeat' (first | (simp -dsimp -implicitDefEqProofs only [↓rP, rQ, rL, ↓reduceIte, Nat.reduceEqDiff, Nat.reduceAdd, Nat.reduceLeDiff, z01, z05, ↓tyr, Int.reduceBEq, Int.reduceBNe, Int.reduceLT, Int.reduceLE, decide_true, decide_false, f100, f115, f114, f110, f116, f105, f120, nq, hop, ↓l1, ↓l2, wl, ixI hb, ixI hx, ↓g0, ↓g1, ↓std, ↓dd0, ↓dd1, ↓dd3, ↓sts, ↓ss0, ↓ss1, ↓ss4, ↓stds, ↓ds0, ↓ds1, ↓ds3, ↓ds4, ↓px, ↓pd, ↓qx]) | with_reducible refine Cut.go ?_ | with_reducible refine z03.go (has_100 _ hl _) ?_ | with_reducible refine z03.go (has_115 _ hl _) ?_ | with_reducible refine z03.go (has_114 _ hl _) ?_ | with_reducible refine z03.go (has_110 _ hl _) ?_ | with_reducible refine z03.go (has_116 _ hl _) ?_ | with_reducible refine z03.go (has_105 _ hl _) ?_ | with_reducible refine z03.go (has_120 _ hl _) ?_ | with_reducible refine z03.go (z1f _ _ _) ?_ | with_reducible refine z03.go (z1v c hs _ _ _) ?_ | with_reducible refine z03.go (z0w _ hn _ hit hitl _) ?_ | with_reducible refine z03.go (z0w _ hn _ hix hixl _) ?_ | with_reducible refine ixB_go (by assumption) ?_ | unfold z0q | unfold z0r | unfold z0s | unfold z0t | unfold z0u | (with_reducible refine Split.intro (fun hq => ?_) (fun hq => ?_) <;> (try simp only [Bool.not_eq_true', Bool.not_eq_false'] at hq) <;> (try rw [hq])))
  all_goals clear l1 l2 g0 g1 std dd0 dd1 dd3 sts ss0 ss1 ss4 stds ds0 ds1 ds3 ds4 px pd qx o1 o2
  all_goals refine And.intro (congrArg AV.bool ?_) (by first | exact kH | exact kG | exact kD _ | exact kS _ | exact kDS _ _ | exact kDSp _ _ _ | exact kSp _ _)
  all_goals clear kH kG kD kS kDS kDSp kSp nx wl nq hl f100 f115 f114 f110 f116 f105 f120 e2 hb hx hcl hixl hitl hix hit hn hs hc
  all_goals have kd := kind x.Dst
  all_goals have ks := kind x.Src
  all_goals clear kind
  all_goals clear hsl
  all_goals simp_all [z2u, z1l, z3s, z3c, z3r, z14, goesB, z2h, siteB, sameB, isB_btw, z5c, List.length_pos_iff, z1y, z5b, z3p]
  all_goals try omega
  all_goals try (rw [Bool.eq_iff_iff]; simp_all [beqI]; try omega)
  all_goals try (split <;> simp_all)
  all_goals try omega
theorem ri_13 (c : Cd) (hc : c.ok) (hs : (slL c.Sections).length ≤ 1000000) (t a : Int) (b : Bd) (x : In) (hb : getI (slL c.Threads) t = some b) (hx : getI (slL b.Code) a = some x) (hsl : ∀ l ∈ slL b.Slots, z19 c l = true)
    (hn : okI (slL b.Slots).length) (hit : okSl z0j.ok x.Items) (hix : okSl z0j.ok x.Index) (hitl : (slL x.Items).length ≤ 1000000) (hixl : (slL x.Index).length ≤ 1000000) (hcl : (slL b.Code).length ≤ 1000000) (hop : x.Op = 13) (h : z04) :
    z03 Tryd.prog 39 [.agg c.cells, .int .i64 t, .int .i64 a] h (fun v h2 => v = .bool (z1l c t b x a && (decide (x.Op = 17) == decide (a = (slL b.Code).length - 1))) ∧ Keeps h h2 (fun _ => False)) := by
  have kind : ∀ n : Int, btw n (slL b.Slots).length = true → ((gD b.Slots n).Kind = 1 ∨ (gD b.Slots n).Kind = 3) → (gD b.Slots n).Rec = 0 := fun n hq hk => by
    have := hsl _ (z2m (z1y hq))
    unfold z19 at this
    rw [if_neg (by omega)] at this
    simp only [Bool.and_eq_true, decide_eq_true_eq] at this
    exact this.2
  have hl := z3n 13
  have nq : (hasS 13 == [63]) = false := rfl
  have f100 : (hasS 13).contains 100 = false := rfl
  have f115 : (hasS 13).contains 115 = false := rfl
  have f114 : (hasS 13).contains 114 = false := rfl
  have f110 : (hasS 13).contains 110 = false := rfl
  have f116 : (hasS 13).contains 116 = true := rfl
  have f105 : (hasS 13).contains 105 = false := rfl
  have f120 : (hasS 13).contains 120 = false := rfl
  have wl : IntKind.i64.wrap (((slL b.Code).length : Int) - 1) = ((slL b.Code).length : Int) - 1 := wrapI (by omega) (by omega)
  apply z0y
  (repeat (first | simp -dsimp -implicitDefEqProofs (disch := omega) only [↓rP, rQ, rO, rL, ↓reduceIte, Nat.reduceEqDiff, Nat.reduceAdd, Nat.reduceLeDiff, z01, z05, ↓tyr, ixI hb, ixI hx] | refine Cut.go ?_))
  have e2 : (h.push (.row 51 b.cells)).next = h.next + 1 := rfl
  have o1 : ((h.push (.row 51 b.cells)).push (.row 58 x.cells)).objs h.next = some (.row 51 b.cells) := by simp
  have o2 : ((h.push (.row 51 b.cells)).push (.row 58 x.cells)).objs (h.next + 1) = some (.row 58 x.cells) := by simp
  have nx : ((h.push (.row 51 b.cells)).push (.row 58 x.cells)).next = h.next + 2 := rfl
  have kH : Keeps h ((h.push (.row 51 b.cells)).push (.row 58 x.cells)) (fun _ => False) := (Keeps.one _ _).go (Keeps.one _ _)
  rw [e2]
  generalize ((h.push (.row 51 b.cells)).push (.row 58 x.cells)) = H at *
  simp only [hop]
  obtain ⟨l1, l2, g0, g1, std, dd0, dd1, dd3, sts, ss0, ss1, ss4, stds, ds0, ds1, ds3, ds4, px, pd, qx, kDSp, kSp, kG, kD, kS, kDS⟩ := z3o o1 o2 nx kH
  refine z03.go (z1n 13 _) ?_
  repeat' (first | (simp -dsimp -implicitDefEqProofs only [↓rP, rQ, rL, ↓reduceIte, Nat.reduceEqDiff, Nat.reduceAdd, Nat.reduceLeDiff, z01, z05, ↓tyr, Int.reduceBEq, Int.reduceBNe, Int.reduceLT, Int.reduceLE, decide_true, decide_false, f100, f115, f114, f110, f116, f105, f120, nq, hop, ↓l1, ↓l2, wl, ixI hb, ixI hx, ↓g0, ↓g1, ↓std, ↓dd0, ↓dd1, ↓dd3, ↓sts, ↓ss0, ↓ss1, ↓ss4, ↓stds, ↓ds0, ↓ds1, ↓ds3, ↓ds4, ↓px, ↓pd, ↓qx]) | with_reducible refine Cut.go ?_ | with_reducible refine z03.go (has_100 _ hl _) ?_ | with_reducible refine z03.go (has_115 _ hl _) ?_ | with_reducible refine z03.go (has_114 _ hl _) ?_ | with_reducible refine z03.go (has_110 _ hl _) ?_ | with_reducible refine z03.go (has_116 _ hl _) ?_ | with_reducible refine z03.go (has_105 _ hl _) ?_ | with_reducible refine z03.go (has_120 _ hl _) ?_ | with_reducible refine z03.go (z1f _ _ _) ?_ | with_reducible refine z03.go (z1v c hs _ _ _) ?_ | with_reducible refine z03.go (z0w _ hn _ hit hitl _) ?_ | with_reducible refine z03.go (z0w _ hn _ hix hixl _) ?_ | with_reducible refine ixB_go (by assumption) ?_ | unfold z0q | unfold z0r | unfold z0s | unfold z0t | unfold z0u | (with_reducible refine Split.intro (fun hq => ?_) (fun hq => ?_) <;> (try simp only [Bool.not_eq_true', Bool.not_eq_false'] at hq) <;> (try rw [hq])))
  all_goals clear l1 l2 g0 g1 std dd0 dd1 dd3 sts ss0 ss1 ss4 stds ds0 ds1 ds3 ds4 px pd qx o1 o2
  all_goals refine And.intro (congrArg AV.bool ?_) (by first | exact kH | exact kG | exact kD _ | exact kS _ | exact kDS _ _ | exact kDSp _ _ _ | exact kSp _ _)
  all_goals clear kH kG kD kS kDS kDSp kSp nx wl nq hl f100 f115 f114 f110 f116 f105 f120 e2 hb hx hcl hixl hitl hix hit hn hs hc
  all_goals have kd := kind x.Dst
  all_goals have ks := kind x.Src
  all_goals clear kind
  all_goals clear hsl
  all_goals simp_all [z2u, z1l, z3s, z3c, z3r, z14, goesB, z2h, siteB, sameB, isB_btw, z5c, List.length_pos_iff, z1y, z5b, z3p]
  all_goals try omega
  all_goals try (rw [Bool.eq_iff_iff]; simp_all [beqI]; try omega)
  all_goals try (split <;> simp_all)
  all_goals try omega
theorem ri_14 (c : Cd) (hc : c.ok) (hs : (slL c.Sections).length ≤ 1000000) (t a : Int) (b : Bd) (x : In) (hb : getI (slL c.Threads) t = some b) (hx : getI (slL b.Code) a = some x) (hsl : ∀ l ∈ slL b.Slots, z19 c l = true)
    (hn : okI (slL b.Slots).length) (hit : okSl z0j.ok x.Items) (hix : okSl z0j.ok x.Index) (hitl : (slL x.Items).length ≤ 1000000) (hixl : (slL x.Index).length ≤ 1000000) (hcl : (slL b.Code).length ≤ 1000000) (hop : x.Op = 14) (h : z04) :
    z03 Tryd.prog 39 [.agg c.cells, .int .i64 t, .int .i64 a] h (fun v h2 => v = .bool (z1l c t b x a && (decide (x.Op = 17) == decide (a = (slL b.Code).length - 1))) ∧ Keeps h h2 (fun _ => False)) := by
  have kind : ∀ n : Int, btw n (slL b.Slots).length = true → ((gD b.Slots n).Kind = 1 ∨ (gD b.Slots n).Kind = 3) → (gD b.Slots n).Rec = 0 := fun n hq hk => by
    have := hsl _ (z2m (z1y hq))
    unfold z19 at this
    rw [if_neg (by omega)] at this
    simp only [Bool.and_eq_true, decide_eq_true_eq] at this
    exact this.2
  have hl := z3n 14
  have nq : (hasS 14 == [63]) = false := rfl
  have f100 : (hasS 14).contains 100 = false := rfl
  have f115 : (hasS 14).contains 115 = false := rfl
  have f114 : (hasS 14).contains 114 = false := rfl
  have f110 : (hasS 14).contains 110 = false := rfl
  have f116 : (hasS 14).contains 116 = true := rfl
  have f105 : (hasS 14).contains 105 = true := rfl
  have f120 : (hasS 14).contains 120 = false := rfl
  have wl : IntKind.i64.wrap (((slL b.Code).length : Int) - 1) = ((slL b.Code).length : Int) - 1 := wrapI (by omega) (by omega)
  apply z0y
  (repeat (first | simp -dsimp -implicitDefEqProofs (disch := omega) only [↓rP, rQ, rO, rL, ↓reduceIte, Nat.reduceEqDiff, Nat.reduceAdd, Nat.reduceLeDiff, z01, z05, ↓tyr, ixI hb, ixI hx] | refine Cut.go ?_))
  have e2 : (h.push (.row 51 b.cells)).next = h.next + 1 := rfl
  have o1 : ((h.push (.row 51 b.cells)).push (.row 58 x.cells)).objs h.next = some (.row 51 b.cells) := by simp
  have o2 : ((h.push (.row 51 b.cells)).push (.row 58 x.cells)).objs (h.next + 1) = some (.row 58 x.cells) := by simp
  have nx : ((h.push (.row 51 b.cells)).push (.row 58 x.cells)).next = h.next + 2 := rfl
  have kH : Keeps h ((h.push (.row 51 b.cells)).push (.row 58 x.cells)) (fun _ => False) := (Keeps.one _ _).go (Keeps.one _ _)
  rw [e2]
  generalize ((h.push (.row 51 b.cells)).push (.row 58 x.cells)) = H at *
  simp only [hop]
  obtain ⟨l1, l2, g0, g1, std, dd0, dd1, dd3, sts, ss0, ss1, ss4, stds, ds0, ds1, ds3, ds4, px, pd, qx, kDSp, kSp, kG, kD, kS, kDS⟩ := z3o o1 o2 nx kH
  refine z03.go (z1n 14 _) ?_
  repeat' (first | (simp -dsimp -implicitDefEqProofs only [↓rP, rQ, rL, ↓reduceIte, Nat.reduceEqDiff, Nat.reduceAdd, Nat.reduceLeDiff, z01, z05, ↓tyr, Int.reduceBEq, Int.reduceBNe, Int.reduceLT, Int.reduceLE, decide_true, decide_false, f100, f115, f114, f110, f116, f105, f120, nq, hop, ↓l1, ↓l2, wl, ixI hb, ixI hx, ↓g0, ↓g1, ↓std, ↓dd0, ↓dd1, ↓dd3, ↓sts, ↓ss0, ↓ss1, ↓ss4, ↓stds, ↓ds0, ↓ds1, ↓ds3, ↓ds4, ↓px, ↓pd, ↓qx]) | with_reducible refine Cut.go ?_ | with_reducible refine z03.go (has_100 _ hl _) ?_ | with_reducible refine z03.go (has_115 _ hl _) ?_ | with_reducible refine z03.go (has_114 _ hl _) ?_ | with_reducible refine z03.go (has_110 _ hl _) ?_ | with_reducible refine z03.go (has_116 _ hl _) ?_ | with_reducible refine z03.go (has_105 _ hl _) ?_ | with_reducible refine z03.go (has_120 _ hl _) ?_ | with_reducible refine z03.go (z1f _ _ _) ?_ | with_reducible refine z03.go (z1v c hs _ _ _) ?_ | with_reducible refine z03.go (z0w _ hn _ hit hitl _) ?_ | with_reducible refine z03.go (z0w _ hn _ hix hixl _) ?_ | with_reducible refine ixB_go (by assumption) ?_ | unfold z0q | unfold z0r | unfold z0s | unfold z0t | unfold z0u | (with_reducible refine Split.intro (fun hq => ?_) (fun hq => ?_) <;> (try simp only [Bool.not_eq_true', Bool.not_eq_false'] at hq) <;> (try rw [hq])))
  all_goals clear l1 l2 g0 g1 std dd0 dd1 dd3 sts ss0 ss1 ss4 stds ds0 ds1 ds3 ds4 px pd qx o1 o2
  all_goals refine And.intro (congrArg AV.bool ?_) (by first | exact kH | exact kG | exact kD _ | exact kS _ | exact kDS _ _ | exact kDSp _ _ _ | exact kSp _ _)
  all_goals clear kH kG kD kS kDS kDSp kSp nx wl nq hl f100 f115 f114 f110 f116 f105 f120 e2 hb hx hcl hixl hitl hix hit hn hs hc
  all_goals have kd := kind x.Dst
  all_goals have ks := kind x.Src
  all_goals clear kind
  all_goals clear hsl
  all_goals simp_all [z2u, z1l, z3s, z3c, z3r, z14, goesB, z2h, siteB, sameB, isB_btw, z5c, List.length_pos_iff, z1y, z5b, z3p]
  all_goals try omega
  all_goals try (rw [Bool.eq_iff_iff]; simp_all [beqI]; try omega)
  all_goals try (split <;> simp_all)
  all_goals try omega
theorem ri_17 (c : Cd) (hc : c.ok) (hs : (slL c.Sections).length ≤ 1000000) (t a : Int) (b : Bd) (x : In) (hb : getI (slL c.Threads) t = some b) (hx : getI (slL b.Code) a = some x) (hsl : ∀ l ∈ slL b.Slots, z19 c l = true)
    (hn : okI (slL b.Slots).length) (hit : okSl z0j.ok x.Items) (hix : okSl z0j.ok x.Index) (hitl : (slL x.Items).length ≤ 1000000) (hixl : (slL x.Index).length ≤ 1000000) (hcl : (slL b.Code).length ≤ 1000000) (hop : x.Op = 17) (h : z04) :
    z03 Tryd.prog 39 [.agg c.cells, .int .i64 t, .int .i64 a] h (fun v h2 => v = .bool (z1l c t b x a && (decide (x.Op = 17) == decide (a = (slL b.Code).length - 1))) ∧ Keeps h h2 (fun _ => False)) := by
  have kind : ∀ n : Int, btw n (slL b.Slots).length = true → ((gD b.Slots n).Kind = 1 ∨ (gD b.Slots n).Kind = 3) → (gD b.Slots n).Rec = 0 := fun n hq hk => by
    have := hsl _ (z2m (z1y hq))
    unfold z19 at this
    rw [if_neg (by omega)] at this
    simp only [Bool.and_eq_true, decide_eq_true_eq] at this
    exact this.2
  have hl := z3n 17
  have nq : (hasS 17 == [63]) = false := rfl
  have f100 : (hasS 17).contains 100 = false := rfl
  have f115 : (hasS 17).contains 115 = false := rfl
  have f114 : (hasS 17).contains 114 = false := rfl
  have f110 : (hasS 17).contains 110 = false := rfl
  have f116 : (hasS 17).contains 116 = false := rfl
  have f105 : (hasS 17).contains 105 = false := rfl
  have f120 : (hasS 17).contains 120 = false := rfl
  have wl : IntKind.i64.wrap (((slL b.Code).length : Int) - 1) = ((slL b.Code).length : Int) - 1 := wrapI (by omega) (by omega)
  apply z0y
  (repeat (first | simp -dsimp -implicitDefEqProofs (disch := omega) only [↓rP, rQ, rO, rL, ↓reduceIte, Nat.reduceEqDiff, Nat.reduceAdd, Nat.reduceLeDiff, z01, z05, ↓tyr, ixI hb, ixI hx] | refine Cut.go ?_))
  have e2 : (h.push (.row 51 b.cells)).next = h.next + 1 := rfl
  have o1 : ((h.push (.row 51 b.cells)).push (.row 58 x.cells)).objs h.next = some (.row 51 b.cells) := by simp
  have o2 : ((h.push (.row 51 b.cells)).push (.row 58 x.cells)).objs (h.next + 1) = some (.row 58 x.cells) := by simp
  have nx : ((h.push (.row 51 b.cells)).push (.row 58 x.cells)).next = h.next + 2 := rfl
  have kH : Keeps h ((h.push (.row 51 b.cells)).push (.row 58 x.cells)) (fun _ => False) := (Keeps.one _ _).go (Keeps.one _ _)
  rw [e2]
  generalize ((h.push (.row 51 b.cells)).push (.row 58 x.cells)) = H at *
  simp only [hop]
  obtain ⟨l1, l2, g0, g1, std, dd0, dd1, dd3, sts, ss0, ss1, ss4, stds, ds0, ds1, ds3, ds4, px, pd, qx, kDSp, kSp, kG, kD, kS, kDS⟩ := z3o o1 o2 nx kH
  refine z03.go (z1n 17 _) ?_
  repeat' (first | (simp -dsimp -implicitDefEqProofs only [↓rP, rQ, rL, ↓reduceIte, Nat.reduceEqDiff, Nat.reduceAdd, Nat.reduceLeDiff, z01, z05, ↓tyr, Int.reduceBEq, Int.reduceBNe, Int.reduceLT, Int.reduceLE, decide_true, decide_false, f100, f115, f114, f110, f116, f105, f120, nq, hop, ↓l1, ↓l2, wl, ixI hb, ixI hx, ↓g0, ↓g1, ↓std, ↓dd0, ↓dd1, ↓dd3, ↓sts, ↓ss0, ↓ss1, ↓ss4, ↓stds, ↓ds0, ↓ds1, ↓ds3, ↓ds4, ↓px, ↓pd, ↓qx]) | with_reducible refine Cut.go ?_ | with_reducible refine z03.go (has_100 _ hl _) ?_ | with_reducible refine z03.go (has_115 _ hl _) ?_ | with_reducible refine z03.go (has_114 _ hl _) ?_ | with_reducible refine z03.go (has_110 _ hl _) ?_ | with_reducible refine z03.go (has_116 _ hl _) ?_ | with_reducible refine z03.go (has_105 _ hl _) ?_ | with_reducible refine z03.go (has_120 _ hl _) ?_ | with_reducible refine z03.go (z1f _ _ _) ?_ | with_reducible refine z03.go (z1v c hs _ _ _) ?_ | with_reducible refine z03.go (z0w _ hn _ hit hitl _) ?_ | with_reducible refine z03.go (z0w _ hn _ hix hixl _) ?_ | with_reducible refine ixB_go (by assumption) ?_ | unfold z0q | unfold z0r | unfold z0s | unfold z0t | unfold z0u | (with_reducible refine Split.intro (fun hq => ?_) (fun hq => ?_) <;> (try simp only [Bool.not_eq_true', Bool.not_eq_false'] at hq) <;> (try rw [hq])))
  all_goals clear l1 l2 g0 g1 std dd0 dd1 dd3 sts ss0 ss1 ss4 stds ds0 ds1 ds3 ds4 px pd qx o1 o2
  all_goals refine And.intro (congrArg AV.bool ?_) (by first | exact kH | exact kG | exact kD _ | exact kS _ | exact kDS _ _ | exact kDSp _ _ _ | exact kSp _ _)
  all_goals clear kH kG kD kS kDS kDSp kSp nx wl nq hl f100 f115 f114 f110 f116 f105 f120 e2 hb hx hcl hixl hitl hix hit hn hs hc
  all_goals have kd := kind x.Dst
  all_goals have ks := kind x.Src
  all_goals clear kind
  all_goals clear hsl
  all_goals simp_all [z2u, z1l, z3s, z3c, z3r, z14, goesB, z2h, siteB, sameB, isB_btw, z5c, List.length_pos_iff, z1y, z5b, z3p]
  all_goals try omega
  all_goals try (rw [Bool.eq_iff_iff]; simp_all [beqI]; try omega)
  all_goals try (split <;> simp_all)
  all_goals try omega
end Go.Proofs.YtopfjochppdnfaaDoor
end

section
/- What the document's instr computes, kind by kind. -/
set_option maxRecDepth 100000
set_option maxHeartbeats 4000000
namespace Go.Proofs.YtopfjochppdnfaaDoor
open Go.Abs
theorem ri_2 (c : Cd) (hc : c.ok) (hs : (slL c.Sections).length ≤ 1000000) (t a : Int) (b : Bd) (x : In) (hb : getI (slL c.Threads) t = some b) (hx : getI (slL b.Code) a = some x) (hsl : ∀ l ∈ slL b.Slots, z19 c l = true)
    (hn : okI (slL b.Slots).length) (hit : okSl z0j.ok x.Items) (hix : okSl z0j.ok x.Index) (hitl : (slL x.Items).length ≤ 1000000) (hixl : (slL x.Index).length ≤ 1000000) (hcl : (slL b.Code).length ≤ 1000000) (hop : x.Op = 2) (h : z04) :
    z03 Tryd.prog 39 [.agg c.cells, .int .i64 t, .int .i64 a] h (fun v h2 => v = .bool (z1l c t b x a && (decide (x.Op = 17) == decide (a = (slL b.Code).length - 1))) ∧ Keeps h h2 (fun _ => False)) := by
  have kind : ∀ n : Int, btw n (slL b.Slots).length = true → ((gD b.Slots n).Kind = 1 ∨ (gD b.Slots n).Kind = 3) → (gD b.Slots n).Rec = 0 := fun n hq hk => by
    have := hsl _ (z2m (z1y hq))
    unfold z19 at this
    rw [if_neg (by omega)] at this
    simp only [Bool.and_eq_true, decide_eq_true_eq] at this
    exact this.2
  have hl := z3n 2
  have nq : (hasS 2 == [63]) = false := rfl
  have f100 : (hasS 2).contains 100 = true := rfl
  have f115 : (hasS 2).contains 115 = false := rfl
  have f114 : (hasS 2).contains 114 = false := rfl
  have f110 : (hasS 2).contains 110 = true := rfl
  have f116 : (hasS 2).contains 116 = false := rfl
  have f105 : (hasS 2).contains 105 = false := rfl
  have f120 : (hasS 2).contains 120 = false := rfl
  have wl : IntKind.i64.wrap (((slL b.Code).length : Int) - 1) = ((slL b.Code).length : Int) - 1 := wrapI (by omega) (by omega)
  apply z0y
  (repeat (first | simp -dsimp -implicitDefEqProofs (disch := omega) only [↓rP, rQ, rO, rL, ↓reduceIte, Nat.reduceEqDiff, Nat.reduceAdd, Nat.reduceLeDiff, z01, z05, ↓tyr, ixI hb, ixI hx] | refine Cut.go ?_))
  have e2 : (h.push (.row 51 b.cells)).next = h.next + 1 := rfl
  have o1 : ((h.push (.row 51 b.cells)).push (.row 58 x.cells)).objs h.next = some (.row 51 b.cells) := by simp
  have o2 : ((h.push (.row 51 b.cells)).push (.row 58 x.cells)).objs (h.next + 1) = some (.row 58 x.cells) := by simp
  have nx : ((h.push (.row 51 b.cells)).push (.row 58 x.cells)).next = h.next + 2 := rfl
  have kH : Keeps h ((h.push (.row 51 b.cells)).push (.row 58 x.cells)) (fun _ => False) := (Keeps.one _ _).go (Keeps.one _ _)
  rw [e2]
  generalize ((h.push (.row 51 b.cells)).push (.row 58 x.cells)) = H at *
  simp only [hop]
  obtain ⟨l1, l2, g0, g1, std, dd0, dd1, dd3, sts, ss0, ss1, ss4, stds, ds0, ds1, ds3, ds4, px, pd, qx, kDSp, kSp, kG, kD, kS, kDS⟩ := z3o o1 o2 nx kH
  refine z03.go (z1n 2 _) ?_
  repeat' (first | (simp -dsimp -implicitDefEqProofs only [↓rP, rQ, rL, ↓reduceIte, Nat.reduceEqDiff, Nat.reduceAdd, Nat.reduceLeDiff, z01, z05, ↓tyr, Int.reduceBEq, Int.reduceBNe, Int.reduceLT, Int.reduceLE, decide_true, decide_false, f100, f115, f114, f110, f116, f105, f120, nq, hop, ↓l1, ↓l2, wl, ixI hb, ixI hx, ↓g0, ↓g1, ↓std, ↓dd0, ↓dd1, ↓dd3, ↓sts, ↓ss0, ↓ss1, ↓ss4, ↓stds, ↓ds0, ↓ds1, ↓ds3, ↓ds4, ↓px, ↓pd, ↓qx]) | with_reducible refine Cut.go ?_ | with_reducible refine z03.go (has_100 _ hl _) ?_ | with_reducible refine z03.go (has_115 _ hl _) ?_ | with_reducible refine z03.go (has_114 _ hl _) ?_ | with_reducible refine z03.go (has_110 _ hl _) ?_ | with_reducible refine z03.go (has_116 _ hl _) ?_ | with_reducible refine z03.go (has_105 _ hl _) ?_ | with_reducible refine z03.go (has_120 _ hl _) ?_ | with_reducible refine z03.go (z1f _ _ _) ?_ | with_reducible refine z03.go (z1v c hs _ _ _) ?_ | with_reducible refine z03.go (z0w _ hn _ hit hitl _) ?_ | with_reducible refine z03.go (z0w _ hn _ hix hixl _) ?_ | with_reducible refine ixB_go (by assumption) ?_ | unfold z0q | unfold z0r | unfold z0s | unfold z0t | unfold z0u | (with_reducible refine Split.intro (fun hq => ?_) (fun hq => ?_) <;> (try simp only [Bool.not_eq_true', Bool.not_eq_false'] at hq) <;> (try rw [hq])))
  all_goals clear l1 l2 g0 g1 std dd0 dd1 dd3 sts ss0 ss1 ss4 stds ds0 ds1 ds3 ds4 px pd qx o1 o2
  all_goals refine And.intro (congrArg AV.bool ?_) (by first | exact kH | exact kG | exact kD _ | exact kS _ | exact kDS _ _ | exact kDSp _ _ _ | exact kSp _ _)
  all_goals clear kH kG kD kS kDS kDSp kSp nx wl nq hl f100 f115 f114 f110 f116 f105 f120 e2 hb hx hcl hixl hitl hix hit hn hs hc
  all_goals have kd := kind x.Dst
  all_goals have ks := kind x.Src
  all_goals clear kind
  all_goals clear hsl
  all_goals simp_all [z2u, z1l, z3s, z3c, z3r, z14, goesB, z2h, siteB, sameB, isB_btw, z5c, List.length_pos_iff, z1y, z5b, z3p]
  all_goals try omega
  all_goals try (rw [Bool.eq_iff_iff]; simp_all [beqI]; try omega)
  all_goals try (split <;> simp_all)
  all_goals try omega
theorem ri_4 (c : Cd) (hc : c.ok) (hs : (slL c.Sections).length ≤ 1000000) (t a : Int) (b : Bd) (x : In) (hb : getI (slL c.Threads) t = some b) (hx : getI (slL b.Code) a = some x) (hsl : ∀ l ∈ slL b.Slots, z19 c l = true)
    (hn : okI (slL b.Slots).length) (hit : okSl z0j.ok x.Items) (hix : okSl z0j.ok x.Index) (hitl : (slL x.Items).length ≤ 1000000) (hixl : (slL x.Index).length ≤ 1000000) (hcl : (slL b.Code).length ≤ 1000000) (hop : x.Op = 4) (h : z04) :
    z03 Tryd.prog 39 [.agg c.cells, .int .i64 t, .int .i64 a] h (fun v h2 => v = .bool (z1l c t b x a && (decide (x.Op = 17) == decide (a = (slL b.Code).length - 1))) ∧ Keeps h h2 (fun _ => False)) := by
  have kind : ∀ n : Int, btw n (slL b.Slots).length = true → ((gD b.Slots n).Kind = 1 ∨ (gD b.Slots n).Kind = 3) → (gD b.Slots n).Rec = 0 := fun n hq hk => by
    have := hsl _ (z2m (z1y hq))
    unfold z19 at this
    rw [if_neg (by omega)] at this
    simp only [Bool.and_eq_true, decide_eq_true_eq] at this
    exact this.2
  have hl := z3n 4
  have nq : (hasS 4 == [63]) = false := rfl
  have f100 : (hasS 4).contains 100 = true := rfl
  have f115 : (hasS 4).contains 115 = true := rfl
  have f114 : (hasS 4).contains 114 = false := rfl
  have f110 : (hasS 4).contains 110 = false := rfl
  have f116 : (hasS 4).contains 116 = false := rfl
  have f105 : (hasS 4).contains 105 = false := rfl
  have f120 : (hasS 4).contains 120 = true := rfl
  have wl : IntKind.i64.wrap (((slL b.Code).length : Int) - 1) = ((slL b.Code).length : Int) - 1 := wrapI (by omega) (by omega)
  apply z0y
  (repeat (first | simp -dsimp -implicitDefEqProofs (disch := omega) only [↓rP, rQ, rO, rL, ↓reduceIte, Nat.reduceEqDiff, Nat.reduceAdd, Nat.reduceLeDiff, z01, z05, ↓tyr, ixI hb, ixI hx] | refine Cut.go ?_))
  have e2 : (h.push (.row 51 b.cells)).next = h.next + 1 := rfl
  have o1 : ((h.push (.row 51 b.cells)).push (.row 58 x.cells)).objs h.next = some (.row 51 b.cells) := by simp
  have o2 : ((h.push (.row 51 b.cells)).push (.row 58 x.cells)).objs (h.next + 1) = some (.row 58 x.cells) := by simp
  have nx : ((h.push (.row 51 b.cells)).push (.row 58 x.cells)).next = h.next + 2 := rfl
  have kH : Keeps h ((h.push (.row 51 b.cells)).push (.row 58 x.cells)) (fun _ => False) := (Keeps.one _ _).go (Keeps.one _ _)
  rw [e2]
  generalize ((h.push (.row 51 b.cells)).push (.row 58 x.cells)) = H at *
  simp only [hop]
  obtain ⟨l1, l2, g0, g1, std, dd0, dd1, dd3, sts, ss0, ss1, ss4, stds, ds0, ds1, ds3, ds4, px, pd, qx, kDSp, kSp, kG, kD, kS, kDS⟩ := z3o o1 o2 nx kH
  refine z03.go (z1n 4 _) ?_
  repeat' (first | (simp -dsimp -implicitDefEqProofs only [↓rP, rQ, rL, ↓reduceIte, Nat.reduceEqDiff, Nat.reduceAdd, Nat.reduceLeDiff, z01, z05, ↓tyr, Int.reduceBEq, Int.reduceBNe, Int.reduceLT, Int.reduceLE, decide_true, decide_false, f100, f115, f114, f110, f116, f105, f120, nq, hop, ↓l1, ↓l2, wl, ixI hb, ixI hx, ↓g0, ↓g1, ↓std, ↓dd0, ↓dd1, ↓dd3, ↓sts, ↓ss0, ↓ss1, ↓ss4, ↓stds, ↓ds0, ↓ds1, ↓ds3, ↓ds4, ↓px, ↓pd, ↓qx]) | with_reducible refine Cut.go ?_ | with_reducible refine z03.go (has_100 _ hl _) ?_ | with_reducible refine z03.go (has_115 _ hl _) ?_ | with_reducible refine z03.go (has_114 _ hl _) ?_ | with_reducible refine z03.go (has_110 _ hl _) ?_ | with_reducible refine z03.go (has_116 _ hl _) ?_ | with_reducible refine z03.go (has_105 _ hl _) ?_ | with_reducible refine z03.go (has_120 _ hl _) ?_ | with_reducible refine z03.go (z1f _ _ _) ?_ | with_reducible refine z03.go (z1v c hs _ _ _) ?_ | with_reducible refine z03.go (z0w _ hn _ hit hitl _) ?_ | with_reducible refine z03.go (z0w _ hn _ hix hixl _) ?_ | with_reducible refine ixB_go (by assumption) ?_ | unfold z0q | unfold z0r | unfold z0s | unfold z0t | unfold z0u | (with_reducible refine Split.intro (fun hq => ?_) (fun hq => ?_) <;> (try simp only [Bool.not_eq_true', Bool.not_eq_false'] at hq) <;> (try rw [hq])))
  all_goals clear l1 l2 g0 g1 std dd0 dd1 dd3 sts ss0 ss1 ss4 stds ds0 ds1 ds3 ds4 px pd qx o1 o2
  all_goals refine And.intro (congrArg AV.bool ?_) (by first | exact kH | exact kG | exact kD _ | exact kS _ | exact kDS _ _ | exact kDSp _ _ _ | exact kSp _ _)
  all_goals clear kH kG kD kS kDS kDSp kSp nx wl nq hl f100 f115 f114 f110 f116 f105 f120 e2 hb hx hcl hixl hitl hix hit hn hs hc
  all_goals have kd := kind x.Dst
  all_goals have ks := kind x.Src
  all_goals clear kind
  all_goals clear hsl
  all_goals simp_all [z2u, z1l, z3s, z3c, z3r, z14, goesB, z2h, siteB, sameB, isB_btw, z5c, List.length_pos_iff, z1y, z5b, z3p]
  all_goals try omega
  all_goals try (rw [Bool.eq_iff_iff]; simp_all [beqI]; try omega)
  all_goals try (split <;> simp_all)
  all_goals try omega
theorem ri_5 (c : Cd) (hc : c.ok) (hs : (slL c.Sections).length ≤ 1000000) (t a : Int) (b : Bd) (x : In) (hb : getI (slL c.Threads) t = some b) (hx : getI (slL b.Code) a = some x) (hsl : ∀ l ∈ slL b.Slots, z19 c l = true)
    (hn : okI (slL b.Slots).length) (hit : okSl z0j.ok x.Items) (hix : okSl z0j.ok x.Index) (hitl : (slL x.Items).length ≤ 1000000) (hixl : (slL x.Index).length ≤ 1000000) (hcl : (slL b.Code).length ≤ 1000000) (hop : x.Op = 5) (h : z04) :
    z03 Tryd.prog 39 [.agg c.cells, .int .i64 t, .int .i64 a] h (fun v h2 => v = .bool (z1l c t b x a && (decide (x.Op = 17) == decide (a = (slL b.Code).length - 1))) ∧ Keeps h h2 (fun _ => False)) := by
  have kind : ∀ n : Int, btw n (slL b.Slots).length = true → ((gD b.Slots n).Kind = 1 ∨ (gD b.Slots n).Kind = 3) → (gD b.Slots n).Rec = 0 := fun n hq hk => by
    have := hsl _ (z2m (z1y hq))
    unfold z19 at this
    rw [if_neg (by omega)] at this
    simp only [Bool.and_eq_true, decide_eq_true_eq] at this
    exact this.2
  have hl := z3n 5
  have nq : (hasS 5 == [63]) = false := rfl
  have f100 : (hasS 5).contains 100 = false := rfl
  have f115 : (hasS 5).contains 115 = false := rfl
  have f114 : (hasS 5).contains 114 = false := rfl
  have f110 : (hasS 5).contains 110 = true := rfl
  have f116 : (hasS 5).contains 116 = false := rfl
  have f105 : (hasS 5).contains 105 = true := rfl
  have f120 : (hasS 5).contains 120 = false := rfl
  have wl : IntKind.i64.wrap (((slL b.Code).length : Int) - 1) = ((slL b.Code).length : Int) - 1 := wrapI (by omega) (by omega)
  apply z0y
  (repeat (first | simp -dsimp -implicitDefEqProofs (disch := omega) only [↓rP, rQ, rO, rL, ↓reduceIte, Nat.reduceEqDiff, Nat.reduceAdd, Nat.reduceLeDiff, z01, z05, ↓tyr, ixI hb, ixI hx] | refine Cut.go ?_))
  have e2 : (h.push (.row 51 b.cells)).next = h.next + 1 := rfl
  have o1 : ((h.push (.row 51 b.cells)).push (.row 58 x.cells)).objs h.next = some (.row 51 b.cells) := by simp
  have o2 : ((h.push (.row 51 b.cells)).push (.row 58 x.cells)).objs (h.next + 1) = some (.row 58 x.cells) := by simp
  have nx : ((h.push (.row 51 b.cells)).push (.row 58 x.cells)).next = h.next + 2 := rfl
  have kH : Keeps h ((h.push (.row 51 b.cells)).push (.row 58 x.cells)) (fun _ => False) := (Keeps.one _ _).go (Keeps.one _ _)
  rw [e2]
  generalize ((h.push (.row 51 b.cells)).push (.row 58 x.cells)) = H at *
  simp only [hop]
  obtain ⟨l1, l2, g0, g1, std, dd0, dd1, dd3, sts, ss0, ss1, ss4, stds, ds0, ds1, ds3, ds4, px, pd, qx, kDSp, kSp, kG, kD, kS, kDS⟩ := z3o o1 o2 nx kH
  refine z03.go (z1n 5 _) ?_
  repeat' (first | (simp -dsimp -implicitDefEqProofs only [↓rP, rQ, rL, ↓reduceIte, Nat.reduceEqDiff, Nat.reduceAdd, Nat.reduceLeDiff, z01, z05, ↓tyr, Int.reduceBEq, Int.reduceBNe, Int.reduceLT, Int.reduceLE, decide_true, decide_false, f100, f115, f114, f110, f116, f105, f120, nq, hop, ↓l1, ↓l2, wl, ixI hb, ixI hx, ↓g0, ↓g1, ↓std, ↓dd0, ↓dd1, ↓dd3, ↓sts, ↓ss0, ↓ss1, ↓ss4, ↓stds, ↓ds0, ↓ds1, ↓ds3, ↓ds4, ↓px, ↓pd, ↓qx]) | with_reducible refine Cut.go ?_ | with_reducible refine z03.go (has_100 _ hl _) ?_ | with_reducible refine z03.go (has_115 _ hl _) ?_ | with_reducible refine z03.go (has_114 _ hl _) ?_ | with_reducible refine z03.go (has_110 _ hl _) ?_ | with_reducible refine z03.go (has_116 _ hl _) ?_ | with_reducible refine z03.go (has_105 _ hl _) ?_ | with_reducible refine z03.go (has_120 _ hl _) ?_ | with_reducible refine z03.go (z1f _ _ _) ?_ | with_reducible refine z03.go (z1v c hs _ _ _) ?_ | with_reducible refine z03.go (z0w _ hn _ hit hitl _) ?_ | with_reducible refine z03.go (z0w _ hn _ hix hixl _) ?_ | with_reducible refine ixB_go (by assumption) ?_ | unfold z0q | unfold z0r | unfold z0s | unfold z0t | unfold z0u | (with_reducible refine Split.intro (fun hq => ?_) (fun hq => ?_) <;> (try simp only [Bool.not_eq_true', Bool.not_eq_false'] at hq) <;> (try rw [hq])))
  all_goals clear l1 l2 g0 g1 std dd0 dd1 dd3 sts ss0 ss1 ss4 stds ds0 ds1 ds3 ds4 px pd qx o1 o2
  all_goals refine And.intro (congrArg AV.bool ?_) (by first | exact kH | exact kG | exact kD _ | exact kS _ | exact kDS _ _ | exact kDSp _ _ _ | exact kSp _ _)
  all_goals clear kH kG kD kS kDS kDSp kSp nx wl nq hl f100 f115 f114 f110 f116 f105 f120 e2 hb hx hcl hixl hitl hix hit hn hs hc
  all_goals have kd := kind x.Dst
  all_goals have ks := kind x.Src
  all_goals clear kind
  all_goals clear hsl
  all_goals simp_all [z2u, z1l, z3s, z3c, z3r, z14, goesB, z2h, siteB, sameB, isB_btw, z5c, List.length_pos_iff, z1y, z5b, z3p]
  all_goals try omega
  all_goals try (rw [Bool.eq_iff_iff]; simp_all [beqI]; try omega)
  all_goals try (split <;> simp_all)
  all_goals try omega
theorem ri_7 (c : Cd) (hc : c.ok) (hs : (slL c.Sections).length ≤ 1000000) (t a : Int) (b : Bd) (x : In) (hb : getI (slL c.Threads) t = some b) (hx : getI (slL b.Code) a = some x) (hsl : ∀ l ∈ slL b.Slots, z19 c l = true)
    (hn : okI (slL b.Slots).length) (hit : okSl z0j.ok x.Items) (hix : okSl z0j.ok x.Index) (hitl : (slL x.Items).length ≤ 1000000) (hixl : (slL x.Index).length ≤ 1000000) (hcl : (slL b.Code).length ≤ 1000000) (hop : x.Op = 7) (h : z04) :
    z03 Tryd.prog 39 [.agg c.cells, .int .i64 t, .int .i64 a] h (fun v h2 => v = .bool (z1l c t b x a && (decide (x.Op = 17) == decide (a = (slL b.Code).length - 1))) ∧ Keeps h h2 (fun _ => False)) := by
  have kind : ∀ n : Int, btw n (slL b.Slots).length = true → ((gD b.Slots n).Kind = 1 ∨ (gD b.Slots n).Kind = 3) → (gD b.Slots n).Rec = 0 := fun n hq hk => by
    have := hsl _ (z2m (z1y hq))
    unfold z19 at this
    rw [if_neg (by omega)] at this
    simp only [Bool.and_eq_true, decide_eq_true_eq] at this
    exact this.2
  have hl := z3n 7
  have nq : (hasS 7 == [63]) = false := rfl
  have f100 : (hasS 7).contains 100 = false := rfl
  have f115 : (hasS 7).contains 115 = true := rfl
  have f114 : (hasS 7).contains 114 = false := rfl
  have f110 : (hasS 7).contains 110 = false := rfl
  have f116 : (hasS 7).contains 116 = false := rfl
  have f105 : (hasS 7).contains 105 = true := rfl
  have f120 : (hasS 7).contains 120 = true := rfl
  have wl : IntKind.i64.wrap (((slL b.Code).length : Int) - 1) = ((slL b.Code).length : Int) - 1 := wrapI (by omega) (by omega)
  apply z0y
  (repeat (first | simp -dsimp -implicitDefEqProofs (disch := omega) only [↓rP, rQ, rO, rL, ↓reduceIte, Nat.reduceEqDiff, Nat.reduceAdd, Nat.reduceLeDiff, z01, z05, ↓tyr, ixI hb, ixI hx] | refine Cut.go ?_))
  have e2 : (h.push (.row 51 b.cells)).next = h.next + 1 := rfl
  have o1 : ((h.push (.row 51 b.cells)).push (.row 58 x.cells)).objs h.next = some (.row 51 b.cells) := by simp
  have o2 : ((h.push (.row 51 b.cells)).push (.row 58 x.cells)).objs (h.next + 1) = some (.row 58 x.cells) := by simp
  have nx : ((h.push (.row 51 b.cells)).push (.row 58 x.cells)).next = h.next + 2 := rfl
  have kH : Keeps h ((h.push (.row 51 b.cells)).push (.row 58 x.cells)) (fun _ => False) := (Keeps.one _ _).go (Keeps.one _ _)
  rw [e2]
  generalize ((h.push (.row 51 b.cells)).push (.row 58 x.cells)) = H at *
  simp only [hop]
  obtain ⟨l1, l2, g0, g1, std, dd0, dd1, dd3, sts, ss0, ss1, ss4, stds, ds0, ds1, ds3, ds4, px, pd, qx, kDSp, kSp, kG, kD, kS, kDS⟩ := z3o o1 o2 nx kH
  refine z03.go (z1n 7 _) ?_
  repeat' (first | (simp -dsimp -implicitDefEqProofs only [↓rP, rQ, rL, ↓reduceIte, Nat.reduceEqDiff, Nat.reduceAdd, Nat.reduceLeDiff, z01, z05, ↓tyr, Int.reduceBEq, Int.reduceBNe, Int.reduceLT, Int.reduceLE, decide_true, decide_false, f100, f115, f114, f110, f116, f105, f120, nq, hop, ↓l1, ↓l2, wl, ixI hb, ixI hx, ↓g0, ↓g1, ↓std, ↓dd0, ↓dd1, ↓dd3, ↓sts, ↓ss0, ↓ss1, ↓ss4, ↓stds, ↓ds0, ↓ds1, ↓ds3, ↓ds4, ↓px, ↓pd, ↓qx]) | with_reducible refine Cut.go ?_ | with_reducible refine z03.go (has_100 _ hl _) ?_ | with_reducible refine z03.go (has_115 _ hl _) ?_ | with_reducible refine z03.go (has_114 _ hl _) ?_ | with_reducible refine z03.go (has_110 _ hl _) ?_ | with_reducible refine z03.go (has_116 _ hl _) ?_ | with_reducible refine z03.go (has_105 _ hl _) ?_ | with_reducible refine z03.go (has_120 _ hl _) ?_ | with_reducible refine z03.go (z1f _ _ _) ?_ | with_reducible refine z03.go (z1v c hs _ _ _) ?_ | with_reducible refine z03.go (z0w _ hn _ hit hitl _) ?_ | with_reducible refine z03.go (z0w _ hn _ hix hixl _) ?_ | with_reducible refine ixB_go (by assumption) ?_ | unfold z0q | unfold z0r | unfold z0s | unfold z0t | unfold z0u | (with_reducible refine Split.intro (fun hq => ?_) (fun hq => ?_) <;> (try simp only [Bool.not_eq_true', Bool.not_eq_false'] at hq) <;> (try rw [hq])))
  all_goals clear l1 l2 g0 g1 std dd0 dd1 dd3 sts ss0 ss1 ss4 stds ds0 ds1 ds3 ds4 px pd qx o1 o2
  all_goals refine And.intro (congrArg AV.bool ?_) (by first | exact kH | exact kG | exact kD _ | exact kS _ | exact kDS _ _ | exact kDSp _ _ _ | exact kSp _ _)
  all_goals clear kH kG kD kS kDS kDSp kSp nx wl nq hl f100 f115 f114 f110 f116 f105 f120 e2 hb hx hcl hixl hitl hix hit hn hs hc
  all_goals have kd := kind x.Dst
  all_goals have ks := kind x.Src
  all_goals clear kind
  all_goals clear hsl
  all_goals simp_all [z2u, z1l, z3s, z3c, z3r, z14, goesB, z2h, siteB, sameB, isB_btw, z5c, List.length_pos_iff, z1y, z5b, z3p]
  all_goals try omega
  all_goals try (rw [Bool.eq_iff_iff]; simp_all [beqI]; try omega)
  all_goals try (split <;> simp_all)
  all_goals try omega
theorem ri_10 (c : Cd) (hc : c.ok) (hs : (slL c.Sections).length ≤ 1000000) (t a : Int) (b : Bd) (x : In) (hb : getI (slL c.Threads) t = some b) (hx : getI (slL b.Code) a = some x) (hsl : ∀ l ∈ slL b.Slots, z19 c l = true)
    (hn : okI (slL b.Slots).length) (hit : okSl z0j.ok x.Items) (hix : okSl z0j.ok x.Index) (hitl : (slL x.Items).length ≤ 1000000) (hixl : (slL x.Index).length ≤ 1000000) (hcl : (slL b.Code).length ≤ 1000000) (hop : x.Op = 10) (h : z04) :
    z03 Tryd.prog 39 [.agg c.cells, .int .i64 t, .int .i64 a] h (fun v h2 => v = .bool (z1l c t b x a && (decide (x.Op = 17) == decide (a = (slL b.Code).length - 1))) ∧ Keeps h h2 (fun _ => False)) := by
  have kind : ∀ n : Int, btw n (slL b.Slots).length = true → ((gD b.Slots n).Kind = 1 ∨ (gD b.Slots n).Kind = 3) → (gD b.Slots n).Rec = 0 := fun n hq hk => by
    have := hsl _ (z2m (z1y hq))
    unfold z19 at this
    rw [if_neg (by omega)] at this
    simp only [Bool.and_eq_true, decide_eq_true_eq] at this
    exact this.2
  have hl := z3n 10
  have nq : (hasS 10 == [63]) = false := rfl
  have f100 : (hasS 10).contains 100 = true := rfl
  have f115 : (hasS 10).contains 115 = true := rfl
  have f114 : (hasS 10).contains 114 = false := rfl
  have f110 : (hasS 10).contains 110 = false := rfl
  have f116 : (hasS 10).contains 116 = false := rfl
  have f105 : (hasS 10).contains 105 = false := rfl
  have f120 : (hasS 10).contains 120 = false := rfl
  have wl : IntKind.i64.wrap (((slL b.Code).length : Int) - 1) = ((slL b.Code).length : Int) - 1 := wrapI (by omega) (by omega)
  apply z0y
  (repeat (first | simp -dsimp -implicitDefEqProofs (disch := omega) only [↓rP, rQ, rO, rL, ↓reduceIte, Nat.reduceEqDiff, Nat.reduceAdd, Nat.reduceLeDiff, z01, z05, ↓tyr, ixI hb, ixI hx] | refine Cut.go ?_))
  have e2 : (h.push (.row 51 b.cells)).next = h.next + 1 := rfl
  have o1 : ((h.push (.row 51 b.cells)).push (.row 58 x.cells)).objs h.next = some (.row 51 b.cells) := by simp
  have o2 : ((h.push (.row 51 b.cells)).push (.row 58 x.cells)).objs (h.next + 1) = some (.row 58 x.cells) := by simp
  have nx : ((h.push (.row 51 b.cells)).push (.row 58 x.cells)).next = h.next + 2 := rfl
  have kH : Keeps h ((h.push (.row 51 b.cells)).push (.row 58 x.cells)) (fun _ => False) := (Keeps.one _ _).go (Keeps.one _ _)
  rw [e2]
  generalize ((h.push (.row 51 b.cells)).push (.row 58 x.cells)) = H at *
  simp only [hop]
  obtain ⟨l1, l2, g0, g1, std, dd0, dd1, dd3, sts, ss0, ss1, ss4, stds, ds0, ds1, ds3, ds4, px, pd, qx, kDSp, kSp, kG, kD, kS, kDS⟩ := z3o o1 o2 nx kH
  refine z03.go (z1n 10 _) ?_
  repeat' (first | (simp -dsimp -implicitDefEqProofs only [↓rP, rQ, rL, ↓reduceIte, Nat.reduceEqDiff, Nat.reduceAdd, Nat.reduceLeDiff, z01, z05, ↓tyr, Int.reduceBEq, Int.reduceBNe, Int.reduceLT, Int.reduceLE, decide_true, decide_false, f100, f115, f114, f110, f116, f105, f120, nq, hop, ↓l1, ↓l2, wl, ixI hb, ixI hx, ↓g0, ↓g1, ↓std, ↓dd0, ↓dd1, ↓dd3, ↓sts, ↓ss0, ↓ss1, ↓ss4, ↓stds, ↓ds0, ↓ds1, ↓ds3, ↓ds4, ↓px, ↓pd, ↓qx]) | with_reducible refine Cut.go ?_ | with_reducible refine z03.go (has_100 _ hl _) ?_ | with_reducible refine z03.go (has_115 _ hl _) ?_ | with_reducible refine z03.go (has_114 _ hl _) ?_ | with_reducible refine z03.go (has_110 _ hl _) ?_ | with_reducible refine z03.go (has_116 _ hl _) ?_ | with_reducible refine z03.go (has_105 _ hl _) ?_ | with_reducible refine z03.go (has_120 _ hl _) ?_ | with_reducible refine z03.go (z1f _ _ _) ?_ | with_reducible refine z03.go (z1v c hs _ _ _) ?_ | with_reducible refine z03.go (z0w _ hn _ hit hitl _) ?_ | with_reducible refine z03.go (z0w _ hn _ hix hixl _) ?_ | with_reducible refine ixB_go (by assumption) ?_ | unfold z0q | unfold z0r | unfold z0s | unfold z0t | unfold z0u | (with_reducible refine Split.intro (fun hq => ?_) (fun hq => ?_) <;> (try simp only [Bool.not_eq_true', Bool.not_eq_false'] at hq) <;> (try rw [hq])))
  all_goals clear l1 l2 g0 g1 std dd0 dd1 dd3 sts ss0 ss1 ss4 stds ds0 ds1 ds3 ds4 px pd qx o1 o2
  all_goals refine And.intro (congrArg AV.bool ?_) (by first | exact kH | exact kG | exact kD _ | exact kS _ | exact kDS _ _ | exact kDSp _ _ _ | exact kSp _ _)
  all_goals clear kH kG kD kS kDS kDSp kSp nx wl nq hl f100 f115 f114 f110 f116 f105 f120 e2 hb hx hcl hixl hitl hix hit hn hs hc
  all_goals have kd := kind x.Dst
  all_goals have ks := kind x.Src
  all_goals clear kind
  all_goals clear hsl
  all_goals simp_all [z2u, z1l, z3s, z3c, z3r, z14, goesB, z2h, siteB, sameB, isB_btw, z5c, List.length_pos_iff, z1y, z5b, z3p]
  all_goals try omega
  all_goals try (rw [Bool.eq_iff_iff]; simp_all [beqI]; try omega)
  all_goals try (split <;> simp_all)
  all_goals try omega
end Go.Proofs.YtopfjochppdnfaaDoor
end

section
/- What the document's instr computes, kind by kind. -/
set_option maxRecDepth 100000
set_option maxHeartbeats 4000000
namespace Go.Proofs.YtopfjochppdnfaaDoor
open Go.Abs
theorem ri_3 (c : Cd) (hc : c.ok) (hs : (slL c.Sections).length ≤ 1000000) (t a : Int) (b : Bd) (x : In) (hb : getI (slL c.Threads) t = some b) (hx : getI (slL b.Code) a = some x) (hsl : ∀ l ∈ slL b.Slots, z19 c l = true)
    (hn : okI (slL b.Slots).length) (hit : okSl z0j.ok x.Items) (hix : okSl z0j.ok x.Index) (hitl : (slL x.Items).length ≤ 1000000) (hixl : (slL x.Index).length ≤ 1000000) (hcl : (slL b.Code).length ≤ 1000000) (hop : x.Op = 3) (h : z04) :
    z03 Tryd.prog 39 [.agg c.cells, .int .i64 t, .int .i64 a] h (fun v h2 => v = .bool (z1l c t b x a && (decide (x.Op = 17) == decide (a = (slL b.Code).length - 1))) ∧ Keeps h h2 (fun _ => False)) := by
  have kind : ∀ n : Int, btw n (slL b.Slots).length = true → ((gD b.Slots n).Kind = 1 ∨ (gD b.Slots n).Kind = 3) → (gD b.Slots n).Rec = 0 := fun n hq hk => by
    have := hsl _ (z2m (z1y hq))
    unfold z19 at this
    rw [if_neg (by omega)] at this
    simp only [Bool.and_eq_true, decide_eq_true_eq] at this
    exact this.2
  have hl := z3n 3
  have nq : (hasS 3 == [63]) = false := rfl
  have f100 : (hasS 3).contains 100 = true := rfl
  have f115 : (hasS 3).contains 115 = true := rfl
  have f114 : (hasS 3).contains 114 = true := rfl
  have f110 : (hasS 3).contains 110 = true := rfl
  have f116 : (hasS 3).contains 116 = false := rfl
  have f105 : (hasS 3).contains 105 = false := rfl
  have f120 : (hasS 3).contains 120 = false := rfl
  have wl : IntKind.i64.wrap (((slL b.Code).length : Int) - 1) = ((slL b.Code).length : Int) - 1 := wrapI (by omega) (by omega)
  apply z0y
  (repeat (first | simp -dsimp -implicitDefEqProofs (disch := omega) only [↓rP, rQ, rO, rL, ↓reduceIte, Nat.reduceEqDiff, Nat.reduceAdd, Nat.reduceLeDiff, z01, z05, ↓tyr, ixI hb, ixI hx] | refine Cut.go ?_))
  have e2 : (h.push (.row 51 b.cells)).next = h.next + 1 := rfl
  have o1 : ((h.push (.row 51 b.cells)).push (.row 58 x.cells)).objs h.next = some (.row 51 b.cells) := by simp
  have o2 : ((h.push (.row 51 b.cells)).push (.row 58 x.cells)).objs (h.next + 1) = some (.row 58 x.cells) := by simp
  have nx : ((h.push (.row 51 b.cells)).push (.row 58 x.cells)).next = h.next + 2 := rfl
  have kH : Keeps h ((h.push (.row 51 b.cells)).push (.row 58 x.cells)) (fun _ => False) := (Keeps.one _ _).go (Keeps.one _ _)
  rw [e2]
  generalize ((h.push (.row 51 b.cells)).push (.row 58 x.cells)) = H at *
  simp only [hop]
  obtain ⟨l1, l2, g0, g1, std, dd0, dd1, dd3, sts, ss0, ss1, ss4, stds, ds0, ds1, ds3, ds4, px, pd, qx, kDSp, kSp, kG, kD, kS, kDS⟩ := z3o o1 o2 nx kH
  refine z03.go (z1n 3 _) ?_
  repeat' (first | (simp -dsimp -implicitDefEqProofs only [↓rP, rQ, rL, ↓reduceIte, Nat.reduceEqDiff, Nat.reduceAdd, Nat.reduceLeDiff, z01, z05, ↓tyr, Int.reduceBEq, Int.reduceBNe, Int.reduceLT, Int.reduceLE, decide_true, decide_false, f100, f115, f114, f110, f116, f105, f120, nq, hop, ↓l1, ↓l2, wl, ixI hb, ixI hx, ↓g0, ↓g1, ↓std, ↓dd0, ↓dd1, ↓dd3, ↓sts, ↓ss0, ↓ss1, ↓ss4, ↓stds, ↓ds0, ↓ds1, ↓ds3, ↓ds4, ↓px, ↓pd, ↓qx]) | with_reducible refine Cut.go ?_ | with_reducible refine z03.go (has_100 _ hl _) ?_ | with_reducible refine z03.go (has_115 _ hl _) ?_ | with_reducible refine z03.go (has_114 _ hl _) ?_ | with_reducible refine z03.go (has_110 _ hl _) ?_ | with_reducible refine z03.go (has_116 _ hl _) ?_ | with_reducible refine z03.go (has_105 _ hl _) ?_ | with_reducible refine z03.go (has_120 _ hl _) ?_ | with_reducible refine z03.go (z1f _ _ _) ?_ | with_reducible refine z03.go (z1v c hs _ _ _) ?_ | with_reducible refine z03.go (z0w _ hn _ hit hitl _) ?_ | with_reducible refine z03.go (z0w _ hn _ hix hixl _) ?_ | with_reducible refine ixB_go (by assumption) ?_ | unfold z0q | unfold z0r | unfold z0s | unfold z0t | unfold z0u | (with_reducible refine Split.intro (fun hq => ?_) (fun hq => ?_) <;> (try simp only [Bool.not_eq_true', Bool.not_eq_false'] at hq) <;> (try rw [hq])))
  all_goals clear l1 l2 g0 g1 std dd0 dd1 dd3 sts ss0 ss1 ss4 stds ds0 ds1 ds3 ds4 px pd qx o1 o2
  all_goals refine And.intro (congrArg AV.bool ?_) (by first | exact kH | exact kG | exact kD _ | exact kS _ | exact kDS _ _ | exact kDSp _ _ _ | exact kSp _ _)
  all_goals clear kH kG kD kS kDS kDSp kSp nx wl nq hl f100 f115 f114 f110 f116 f105 f120 e2 hb hx hcl hixl hitl hix hit hn hs hc
  all_goals have kd := kind x.Dst
  all_goals have ks := kind x.Src
  all_goals clear kind
  all_goals clear hsl
  all_goals simp_all [z2u, z1l, z3s, z3c, z3r, z14, goesB, z2h, siteB, sameB, isB_btw, z5c, List.length_pos_iff, z1y, z5b, z3p]
  all_goals try omega
  all_goals try (rw [Bool.eq_iff_iff]; simp_all [beqI]; try omega)
  all_goals try (split <;> simp_all)
  all_goals try omega
theorem ri_6 (c : Cd) (hc : c.ok) (hs : (slL c.Sections).length ≤ 1000000) (t a : Int) (b : Bd) (x : In) (hb : getI (slL c.Threads) t = some b) (hx : getI (slL b.Code) a = some x) (hsl : ∀ l ∈ slL b.Slots, z19 c l = true)
    (hn : okI (slL b.Slots).length) (hit : okSl z0j.ok x.Items) (hix : okSl z0j.ok x.Index) (hitl : (slL x.Items).length ≤ 1000000) (hixl : (slL x.Index).length ≤ 1000000) (hcl : (slL b.Code).length ≤ 1000000) (hop : x.Op = 6) (h : z04) :
    z03 Tryd.prog 39 [.agg c.cells, .int .i64 t, .int .i64 a] h (fun v h2 => v = .bool (z1l c t b x a && (decide (x.Op = 17) == decide (a = (slL b.Code).length - 1))) ∧ Keeps h h2 (fun _ => False)) := by
  have kind : ∀ n : Int, btw n (slL b.Slots).length = true → ((gD b.Slots n).Kind = 1 ∨ (gD b.Slots n).Kind = 3) → (gD b.Slots n).Rec = 0 := fun n hq hk => by
    have := hsl _ (z2m (z1y hq))
    unfold z19 at this
    rw [if_neg (by omega)] at this
    simp only [Bool.and_eq_true, decide_eq_true_eq] at this
    exact this.2
  have hl := z3n 6
  have nq : (hasS 6 == [63]) = false := rfl
  have f100 : (hasS 6).contains 100 = false := rfl
  have f115 : (hasS 6).contains 115 = true := rfl
  have f114 : (hasS 6).contains 114 = true := rfl
  have f110 : (hasS 6).contains 110 = true := rfl
  have f116 : (hasS 6).contains 116 = false := rfl
  have f105 : (hasS 6).contains 105 = true := rfl
  have f120 : (hasS 6).contains 120 = false := rfl
  have wl : IntKind.i64.wrap (((slL b.Code).length : Int) - 1) = ((slL b.Code).length : Int) - 1 := wrapI (by omega) (by omega)
  apply z0y
  (repeat (first | simp -dsimp -implicitDefEqProofs (disch := omega) only [↓rP, rQ, rO, rL, ↓reduceIte, Nat.reduceEqDiff, Nat.reduceAdd, Nat.reduceLeDiff, z01, z05, ↓tyr, ixI hb, ixI hx] | refine Cut.go ?_))
  have e2 : (h.push (.row 51 b.cells)).next = h.next + 1 := rfl
  have o1 : ((h.push (.row 51 b.cells)).push (.row 58 x.cells)).objs h.next = some (.row 51 b.cells) := by simp
  have o2 : ((h.push (.row 51 b.cells)).push (.row 58 x.cells)).objs (h.next + 1) = some (.row 58 x.cells) := by simp
  have nx : ((h.push (.row 51 b.cells)).push (.row 58 x.cells)).next = h.next + 2 := rfl
  have kH : Keeps h ((h.push (.row 51 b.cells)).push (.row 58 x.cells)) (fun _ => False) := (Keeps.one _ _).go (Keeps.one _ _)
  rw [e2]
  generalize ((h.push (.row 51 b.cells)).push (.row 58 x.cells)) = H at *
  simp only [hop]
  obtain ⟨l1, l2, g0, g1, std, dd0, dd1, dd3, sts, ss0, ss1, ss4, stds, ds0, ds1, ds3, ds4, px, pd, qx, kDSp, kSp, kG, kD, kS, kDS⟩ := z3o o1 o2 nx kH
  refine z03.go (z1n 6 _) ?_
  repeat' (first | (simp -dsimp -implicitDefEqProofs only [↓rP, rQ, rL, ↓reduceIte, Nat.reduceEqDiff, Nat.reduceAdd, Nat.reduceLeDiff, z01, z05, ↓tyr, Int.reduceBEq, Int.reduceBNe, Int.reduceLT, Int.reduceLE, decide_true, decide_false, f100, f115, f114, f110, f116, f105, f120, nq, hop, ↓l1, ↓l2, wl, ixI hb, ixI hx, ↓g0, ↓g1, ↓std, ↓dd0, ↓dd1, ↓dd3, ↓sts, ↓ss0, ↓ss1, ↓ss4, ↓stds, ↓ds0, ↓ds1, ↓ds3, ↓ds4, ↓px, ↓pd, ↓qx]) | with_reducible refine Cut.go ?_ | with_reducible refine z03.go (has_100 _ hl _) ?_ | with_reducible refine z03.go (has_115 _ hl _) ?_ | with_reducible refine z03.go (has_114 _ hl _) ?_ | with_reducible refine z03.go (has_110 _ hl _) ?_ | with_reducible refine z03.go (has_116 _ hl _) ?_ | with_reducible refine z03.go (has_105 _ hl _) ?_ | with_reducible refine z03.go (has_120 _ hl _) ?_ | with_reducible refine z03.go (z1f _ _ _) ?_ | with_reducible refine z03.go (z1v c hs _ _ _) ?_ | with_reducible refine z03.go (z0w _ hn _ hit hitl _) ?_ | with_reducible refine z03.go (z0w _ hn _ hix hixl _) ?_ | with_reducible refine ixB_go (by assumption) ?_ | unfold z0q | unfold z0r | unfold z0s | unfold z0t | unfold z0u | (with_reducible refine Split.intro (fun hq => ?_) (fun hq => ?_) <;> (try simp only [Bool.not_eq_true', Bool.not_eq_false'] at hq) <;> (try rw [hq])))
  all_goals clear l1 l2 g0 g1 std dd0 dd1 dd3 sts ss0 ss1 ss4 stds ds0 ds1 ds3 ds4 px pd qx o1 o2
  all_goals refine And.intro (congrArg AV.bool ?_) (by first | exact kH | exact kG | exact kD _ | exact kS _ | exact kDS _ _ | exact kDSp _ _ _ | exact kSp _ _)
  all_goals clear kH kG kD kS kDS kDSp kSp nx wl nq hl f100 f115 f114 f110 f116 f105 f120 e2 hb hx hcl hixl hitl hix hit hn hs hc
  all_goals have kd := kind x.Dst
  all_goals have ks := kind x.Src
  all_goals clear kind
  all_goals clear hsl
  all_goals simp_all [z2u, z1l, z3s, z3c, z3r, z14, goesB, z2h, siteB, sameB, isB_btw, z5c, List.length_pos_iff, z1y, z5b, z3p]
  all_goals try omega
  all_goals try (rw [Bool.eq_iff_iff]; simp_all [beqI]; try omega)
  all_goals try (split <;> simp_all)
  all_goals try omega
end Go.Proofs.YtopfjochppdnfaaDoor
end

section
/- What the document's instr computes, kind by kind. -/
set_option maxRecDepth 100000
set_option maxHeartbeats 4000000
namespace Go.Proofs.YtopfjochppdnfaaDoor
open Go.Abs
theorem ri_8 (c : Cd) (hc : c.ok) (hs : (slL c.Sections).length ≤ 1000000) (t a : Int) (b : Bd) (x : In) (hb : getI (slL c.Threads) t = some b) (hx : getI (slL b.Code) a = some x) (hsl : ∀ l ∈ slL b.Slots, z19 c l = true)
    (hn : okI (slL b.Slots).length) (hit : okSl z0j.ok x.Items) (hix : okSl z0j.ok x.Index) (hitl : (slL x.Items).length ≤ 1000000) (hixl : (slL x.Index).length ≤ 1000000) (hcl : (slL b.Code).length ≤ 1000000) (hop : x.Op = 8) (h : z04) :
    z03 Tryd.prog 39 [.agg c.cells, .int .i64 t, .int .i64 a] h (fun v h2 => v = .bool (z1l c t b x a && (decide (x.Op = 17) == decide (a = (slL b.Code).length - 1))) ∧ Keeps h h2 (fun _ => False)) := by
  have kind : ∀ n : Int, btw n (slL b.Slots).length = true → ((gD b.Slots n).Kind = 1 ∨ (gD b.Slots n).Kind = 3) → (gD b.Slots n).Rec = 0 := fun n hq hk => by
    have := hsl _ (z2m (z1y hq))
    unfold z19 at this
    rw [if_neg (by omega)] at this
    simp only [Bool.and_eq_true, decide_eq_true_eq] at this
    exact this.2
  have hl := z3n 8
  have nq : (hasS 8 == [63]) = false := rfl
  have f100 : (hasS 8).contains 100 = true := rfl
  have f115 : (hasS 8).contains 115 = false := rfl
  have f114 : (hasS 8).contains 114 = true := rfl
  have f110 : (hasS 8).contains 110 = true := rfl
  have f116 : (hasS 8).contains 116 = false := rfl
  have f105 : (hasS 8).contains 105 = false := rfl
  have f120 : (hasS 8).contains 120 = false := rfl
  have wl : IntKind.i64.wrap (((slL b.Code).length : Int) - 1) = ((slL b.Code).length : Int) - 1 := wrapI (by omega) (by omega)
  apply z0y
  (repeat (first | simp -dsimp -implicitDefEqProofs (disch := omega) only [↓rP, rQ, rO, rL, ↓reduceIte, Nat.reduceEqDiff, Nat.reduceAdd, Nat.reduceLeDiff, z01, z05, ↓tyr, ixI hb, ixI hx] | refine Cut.go ?_))
  have e2 : (h.push (.row 51 b.cells)).next = h.next + 1 := rfl
  have o1 : ((h.push (.row 51 b.cells)).push (.row 58 x.cells)).objs h.next = some (.row 51 b.cells) := by simp
  have o2 : ((h.push (.row 51 b.cells)).push (.row 58 x.cells)).objs (h.next + 1) = some (.row 58 x.cells) := by simp
  have nx : ((h.push (.row 51 b.cells)).push (.row 58 x.cells)).next = h.next + 2 := rfl
  have kH : Keeps h ((h.push (.row 51 b.cells)).push (.row 58 x.cells)) (fun _ => False) := (Keeps.one _ _).go (Keeps.one _ _)
  rw [e2]
  generalize ((h.push (.row 51 b.cells)).push (.row 58 x.cells)) = H at *
  simp only [hop]
  obtain ⟨l1, l2, g0, g1, std, dd0, dd1, dd3, sts, ss0, ss1, ss4, stds, ds0, ds1, ds3, ds4, px, pd, qx, kDSp, kSp, kG, kD, kS, kDS⟩ := z3o o1 o2 nx kH
  refine z03.go (z1n 8 _) ?_
  repeat' (first | (simp -dsimp -implicitDefEqProofs only [↓rP, rQ, rL, ↓reduceIte, Nat.reduceEqDiff, Nat.reduceAdd, Nat.reduceLeDiff, z01, z05, ↓tyr, Int.reduceBEq, Int.reduceBNe, Int.reduceLT, Int.reduceLE, decide_true, decide_false, f100, f115, f114, f110, f116, f105, f120, nq, hop, ↓l1, ↓l2, wl, ixI hb, ixI hx, ↓g0, ↓g1, ↓std, ↓dd0, ↓dd1, ↓dd3, ↓sts, ↓ss0, ↓ss1, ↓ss4, ↓stds, ↓ds0, ↓ds1, ↓ds3, ↓ds4, ↓px, ↓pd, ↓qx]) | with_reducible refine Cut.go ?_ | with_reducible refine z03.go (has_100 _ hl _) ?_ | with_reducible refine z03.go (has_115 _ hl _) ?_ | with_reducible refine z03.go (has_114 _ hl _) ?_ | with_reducible refine z03.go (has_110 _ hl _) ?_ | with_reducible refine z03.go (has_116 _ hl _) ?_ | with_reducible refine z03.go (has_105 _ hl _) ?_ | with_reducible refine z03.go (has_120 _ hl _) ?_ | with_reducible refine z03.go (z1f _ _ _) ?_ | with_reducible refine z03.go (z1v c hs _ _ _) ?_ | with_reducible refine z03.go (z0w _ hn _ hit hitl _) ?_ | with_reducible refine z03.go (z0w _ hn _ hix hixl _) ?_ | with_reducible refine ixB_go (by assumption) ?_ | unfold z0q | unfold z0r | unfold z0s | unfold z0t | unfold z0u | (with_reducible refine Split.intro (fun hq => ?_) (fun hq => ?_) <;> (try simp only [Bool.not_eq_true', Bool.not_eq_false'] at hq) <;> (try rw [hq])))
  all_goals clear l1 l2 g0 g1 std dd0 dd1 dd3 sts ss0 ss1 ss4 stds ds0 ds1 ds3 ds4 px pd qx o1 o2
  all_goals refine And.intro (congrArg AV.bool ?_) (by first | exact kH | exact kG | exact kD _ | exact kS _ | exact kDS _ _ | exact kDSp _ _ _ | exact kSp _ _)
  all_goals clear kH kG kD kS kDS kDSp kSp nx wl nq hl f100 f115 f114 f110 f116 f105 f120 e2 hb hx hcl hixl hitl hix hit hn hs hc
  all_goals have kd := kind x.Dst
  all_goals have ks := kind x.Src
  all_goals clear kind
  all_goals clear hsl
  all_goals simp_all [z2u, z1l, z3s, z3c, z3r, z14, goesB, z2h, siteB, sameB, isB_btw, z5c, List.length_pos_iff, z1y, z5b, z3p]
  all_goals try omega
  all_goals try (rw [Bool.eq_iff_iff]; simp_all [beqI]; try omega)
  all_goals try (split <;> simp_all)
  all_goals try omega
theorem ri_9 (c : Cd) (hc : c.ok) (hs : (slL c.Sections).length ≤ 1000000) (t a : Int) (b : Bd) (x : In) (hb : getI (slL c.Threads) t = some b) (hx : getI (slL b.Code) a = some x) (hsl : ∀ l ∈ slL b.Slots, z19 c l = true)
    (hn : okI (slL b.Slots).length) (hit : okSl z0j.ok x.Items) (hix : okSl z0j.ok x.Index) (hitl : (slL x.Items).length ≤ 1000000) (hixl : (slL x.Index).length ≤ 1000000) (hcl : (slL b.Code).length ≤ 1000000) (hop : x.Op = 9) (h : z04) :
    z03 Tryd.prog 39 [.agg c.cells, .int .i64 t, .int .i64 a] h (fun v h2 => v = .bool (z1l c t b x a && (decide (x.Op = 17) == decide (a = (slL b.Code).length - 1))) ∧ Keeps h h2 (fun _ => False)) := by
  have kind : ∀ n : Int, btw n (slL b.Slots).length = true → ((gD b.Slots n).Kind = 1 ∨ (gD b.Slots n).Kind = 3) → (gD b.Slots n).Rec = 0 := fun n hq hk => by
    have := hsl _ (z2m (z1y hq))
    unfold z19 at this
    rw [if_neg (by omega)] at this
    simp only [Bool.and_eq_true, decide_eq_true_eq] at this
    exact this.2
  have hl := z3n 9
  have nq : (hasS 9 == [63]) = false := rfl
  have f100 : (hasS 9).contains 100 = true := rfl
  have f115 : (hasS 9).contains 115 = false := rfl
  have f114 : (hasS 9).contains 114 = false := rfl
  have f110 : (hasS 9).contains 110 = true := rfl
  have f116 : (hasS 9).contains 116 = false := rfl
  have f105 : (hasS 9).contains 105 = true := rfl
  have f120 : (hasS 9).contains 120 = false := rfl
  have wl : IntKind.i64.wrap (((slL b.Code).length : Int) - 1) = ((slL b.Code).length : Int) - 1 := wrapI (by omega) (by omega)
  apply z0y
  (repeat (first | simp -dsimp -implicitDefEqProofs (disch := omega) only [↓rP, rQ, rO, rL, ↓reduceIte, Nat.reduceEqDiff, Nat.reduceAdd, Nat.reduceLeDiff, z01, z05, ↓tyr, ixI hb, ixI hx] | refine Cut.go ?_))
  have e2 : (h.push (.row 51 b.cells)).next = h.next + 1 := rfl
  have o1 : ((h.push (.row 51 b.cells)).push (.row 58 x.cells)).objs h.next = some (.row 51 b.cells) := by simp
  have o2 : ((h.push (.row 51 b.cells)).push (.row 58 x.cells)).objs (h.next + 1) = some (.row 58 x.cells) := by simp
  have nx : ((h.push (.row 51 b.cells)).push (.row 58 x.cells)).next = h.next + 2 := rfl
  have kH : Keeps h ((h.push (.row 51 b.cells)).push (.row 58 x.cells)) (fun _ => False) := (Keeps.one _ _).go (Keeps.one _ _)
  rw [e2]
  generalize ((h.push (.row 51 b.cells)).push (.row 58 x.cells)) = H at *
  simp only [hop]
  obtain ⟨l1, l2, g0, g1, std, dd0, dd1, dd3, sts, ss0, ss1, ss4, stds, ds0, ds1, ds3, ds4, px, pd, qx, kDSp, kSp, kG, kD, kS, kDS⟩ := z3o o1 o2 nx kH
  refine z03.go (z1n 9 _) ?_
  repeat' (first | (simp -dsimp -implicitDefEqProofs only [↓rP, rQ, rL, ↓reduceIte, Nat.reduceEqDiff, Nat.reduceAdd, Nat.reduceLeDiff, z01, z05, ↓tyr, Int.reduceBEq, Int.reduceBNe, Int.reduceLT, Int.reduceLE, decide_true, decide_false, f100, f115, f114, f110, f116, f105, f120, nq, hop, ↓l1, ↓l2, wl, ixI hb, ixI hx, ↓g0, ↓g1, ↓std, ↓dd0, ↓dd1, ↓dd3, ↓sts, ↓ss0, ↓ss1, ↓ss4, ↓stds, ↓ds0, ↓ds1, ↓ds3, ↓ds4, ↓px, ↓pd, ↓qx]) | with_reducible refine Cut.go ?_ | with_reducible refine z03.go (has_100 _ hl _) ?_ | with_reducible refine z03.go (has_115 _ hl _) ?_ | with_reducible refine z03.go (has_114 _ hl _) ?_ | with_reducible refine z03.go (has_110 _ hl _) ?_ | with_reducible refine z03.go (has_116 _ hl _) ?_ | with_reducible refine z03.go (has_105 _ hl _) ?_ | with_reducible refine z03.go (has_120 _ hl _) ?_ | with_reducible refine z03.go (z1f _ _ _) ?_ | with_reducible refine z03.go (z1v c hs _ _ _) ?_ | with_reducible refine z03.go (z0w _ hn _ hit hitl _) ?_ | with_reducible refine z03.go (z0w _ hn _ hix hixl _) ?_ | with_reducible refine ixB_go (by assumption) ?_ | unfold z0q | unfold z0r | unfold z0s | unfold z0t | unfold z0u | (with_reducible refine Split.intro (fun hq => ?_) (fun hq => ?_) <;> (try simp only [Bool.not_eq_true', Bool.not_eq_false'] at hq) <;> (try rw [hq])))
  all_goals clear l1 l2 g0 g1 std dd0 dd1 dd3 sts ss0 ss1 ss4 stds ds0 ds1 ds3 ds4 px pd qx o1 o2
  all_goals refine And.intro (congrArg AV.bool ?_) (by first | exact kH | exact kG | exact kD _ | exact kS _ | exact kDS _ _ | exact kDSp _ _ _ | exact kSp _ _)
  all_goals clear kH kG kD kS kDS kDSp kSp nx wl nq hl f100 f115 f114 f110 f116 f105 f120 e2 hb hx hcl hixl hitl hix hit hn hs hc
  all_goals have kd := kind x.Dst
  all_goals have ks := kind x.Src
  all_goals clear kind
  all_goals clear hsl
  all_goals simp_all [z2u, z1l, z3s, z3c, z3r, z14, goesB, z2h, siteB, sameB, isB_btw, z5c, List.length_pos_iff, z1y, z5b, z3p]
  all_goals try omega
  all_goals try (rw [Bool.eq_iff_iff]; simp_all [beqI]; try omega)
  all_goals try (split <;> simp_all)
  all_goals try omega
theorem ri_15 (c : Cd) (hc : c.ok) (hs : (slL c.Sections).length ≤ 1000000) (t a : Int) (b : Bd) (x : In) (hb : getI (slL c.Threads) t = some b) (hx : getI (slL b.Code) a = some x) (hsl : ∀ l ∈ slL b.Slots, z19 c l = true)
    (hn : okI (slL b.Slots).length) (hit : okSl z0j.ok x.Items) (hix : okSl z0j.ok x.Index) (hitl : (slL x.Items).length ≤ 1000000) (hixl : (slL x.Index).length ≤ 1000000) (hcl : (slL b.Code).length ≤ 1000000) (hop : x.Op = 15) (h : z04) :
    z03 Tryd.prog 39 [.agg c.cells, .int .i64 t, .int .i64 a] h (fun v h2 => v = .bool (z1l c t b x a && (decide (x.Op = 17) == decide (a = (slL b.Code).length - 1))) ∧ Keeps h h2 (fun _ => False)) := by
  have kind : ∀ n : Int, btw n (slL b.Slots).length = true → ((gD b.Slots n).Kind = 1 ∨ (gD b.Slots n).Kind = 3) → (gD b.Slots n).Rec = 0 := fun n hq hk => by
    have := hsl _ (z2m (z1y hq))
    unfold z19 at this
    rw [if_neg (by omega)] at this
    simp only [Bool.and_eq_true, decide_eq_true_eq] at this
    exact this.2
  have hl := z3n 15
  have nq : (hasS 15 == [63]) = false := rfl
  have f100 : (hasS 15).contains 100 = false := rfl
  have f115 : (hasS 15).contains 115 = false := rfl
  have f114 : (hasS 15).contains 114 = false := rfl
  have f110 : (hasS 15).contains 110 = true := rfl
  have f116 : (hasS 15).contains 116 = false := rfl
  have f105 : (hasS 15).contains 105 = false := rfl
  have f120 : (hasS 15).contains 120 = false := rfl
  have wl : IntKind.i64.wrap (((slL b.Code).length : Int) - 1) = ((slL b.Code).length : Int) - 1 := wrapI (by omega) (by omega)
  apply z0y
  (repeat (first | simp -dsimp -implicitDefEqProofs (disch := omega) only [↓rP, rQ, rO, rL, ↓reduceIte, Nat.reduceEqDiff, Nat.reduceAdd, Nat.reduceLeDiff, z01, z05, ↓tyr, ixI hb, ixI hx] | refine Cut.go ?_))
  have e2 : (h.push (.row 51 b.cells)).next = h.next + 1 := rfl
  have o1 : ((h.push (.row 51 b.cells)).push (.row 58 x.cells)).objs h.next = some (.row 51 b.cells) := by simp
  have o2 : ((h.push (.row 51 b.cells)).push (.row 58 x.cells)).objs (h.next + 1) = some (.row 58 x.cells) := by simp
  have nx : ((h.push (.row 51 b.cells)).push (.row 58 x.cells)).next = h.next + 2 := rfl
  have kH : Keeps h ((h.push (.row 51 b.cells)).push (.row 58 x.cells)) (fun _ => False) := (Keeps.one _ _).go (Keeps.one _ _)
  rw [e2]
  generalize ((h.push (.row 51 b.cells)).push (.row 58 x.cells)) = H at *
  simp only [hop]
  obtain ⟨l1, l2, g0, g1, std, dd0, dd1, dd3, sts, ss0, ss1, ss4, stds, ds0, ds1, ds3, ds4, px, pd, qx, kDSp, kSp, kG, kD, kS, kDS⟩ := z3o o1 o2 nx kH
  refine z03.go (z1n 15 _) ?_
  repeat' (first | (simp -dsimp -implicitDefEqProofs only [↓rP, rQ, rL, ↓reduceIte, Nat.reduceEqDiff, Nat.reduceAdd, Nat.reduceLeDiff, z01, z05, ↓tyr, Int.reduceBEq, Int.reduceBNe, Int.reduceLT, Int.reduceLE, decide_true, decide_false, f100, f115, f114, f110, f116, f105, f120, nq, hop, ↓l1, ↓l2, wl, ixI hb, ixI hx, ↓g0, ↓g1, ↓std, ↓dd0, ↓dd1, ↓dd3, ↓sts, ↓ss0, ↓ss1, ↓ss4, ↓stds, ↓ds0, ↓ds1, ↓ds3, ↓ds4, ↓px, ↓pd, ↓qx]) | with_reducible refine Cut.go ?_ | with_reducible refine z03.go (has_100 _ hl _) ?_ | with_reducible refine z03.go (has_115 _ hl _) ?_ | with_reducible refine z03.go (has_114 _ hl _) ?_ | with_reducible refine z03.go (has_110 _ hl _) ?_ | with_reducible refine z03.go (has_116 _ hl _) ?_ | with_reducible refine z03.go (has_105 _ hl _) ?_ | with_reducible refine z03.go (has_120 _ hl _) ?_ | with_reducible refine z03.go (z1f _ _ _) ?_ | with_reducible refine z03.go (z1v c hs _ _ _) ?_ | with_reducible refine z03.go (z0w _ hn _ hit hitl _) ?_ | with_reducible refine z03.go (z0w _ hn _ hix hixl _) ?_ | with_reducible refine ixB_go (by assumption) ?_ | unfold z0q | unfold z0r | unfold z0s | unfold z0t | unfold z0u | (with_reducible refine Split.intro (fun hq => ?_) (fun hq => ?_) <;> (try simp only [Bool.not_eq_true', Bool.not_eq_false'] at hq) <;> (try rw [hq])))
  all_goals clear l1 l2 g0 g1 std dd0 dd1 dd3 sts ss0 ss1 ss4 stds ds0 ds1 ds3 ds4 px pd qx o1 o2
  all_goals refine And.intro (congrArg AV.bool ?_) (by first | exact kH | exact kG | exact kD _ | exact kS _ | exact kDS _ _ | exact kDSp _ _ _ | exact kSp _ _)
  all_goals clear kH kG kD kS kDS kDSp kSp nx wl nq hl f100 f115 f114 f110 f116 f105 f120 e2 hb hx hcl hixl hitl hix hit hn hs hc
  all_goals have kd := kind x.Dst
  all_goals have ks := kind x.Src
  all_goals clear kind
  all_goals clear hsl
  all_goals simp_all [z2u, z1l, z3s, z3c, z3r, z14, goesB, z2h, siteB, sameB, isB_btw, z5c, List.length_pos_iff, z1y, z5b, z3p]
  all_goals try omega
  all_goals try (rw [Bool.eq_iff_iff]; simp_all [beqI]; try omega)
  all_goals try (split <;> simp_all)
  all_goals try omega
theorem ri_16 (c : Cd) (hc : c.ok) (hs : (slL c.Sections).length ≤ 1000000) (t a : Int) (b : Bd) (x : In) (hb : getI (slL c.Threads) t = some b) (hx : getI (slL b.Code) a = some x) (hsl : ∀ l ∈ slL b.Slots, z19 c l = true)
    (hn : okI (slL b.Slots).length) (hit : okSl z0j.ok x.Items) (hix : okSl z0j.ok x.Index) (hitl : (slL x.Items).length ≤ 1000000) (hixl : (slL x.Index).length ≤ 1000000) (hcl : (slL b.Code).length ≤ 1000000) (hop : x.Op = 16) (h : z04) :
    z03 Tryd.prog 39 [.agg c.cells, .int .i64 t, .int .i64 a] h (fun v h2 => v = .bool (z1l c t b x a && (decide (x.Op = 17) == decide (a = (slL b.Code).length - 1))) ∧ Keeps h h2 (fun _ => False)) := by
  have kind : ∀ n : Int, btw n (slL b.Slots).length = true → ((gD b.Slots n).Kind = 1 ∨ (gD b.Slots n).Kind = 3) → (gD b.Slots n).Rec = 0 := fun n hq hk => by
    have := hsl _ (z2m (z1y hq))
    unfold z19 at this
    rw [if_neg (by omega)] at this
    simp only [Bool.and_eq_true, decide_eq_true_eq] at this
    exact this.2
  have hl := z3n 16
  have nq : (hasS 16 == [63]) = false := rfl
  have f100 : (hasS 16).contains 100 = false := rfl
  have f115 : (hasS 16).contains 115 = false := rfl
  have f114 : (hasS 16).contains 114 = false := rfl
  have f110 : (hasS 16).contains 110 = true := rfl
  have f116 : (hasS 16).contains 116 = false := rfl
  have f105 : (hasS 16).contains 105 = false := rfl
  have f120 : (hasS 16).contains 120 = false := rfl
  have wl : IntKind.i64.wrap (((slL b.Code).length : Int) - 1) = ((slL b.Code).length : Int) - 1 := wrapI (by omega) (by omega)
  apply z0y
  (repeat (first | simp -dsimp -implicitDefEqProofs (disch := omega) only [↓rP, rQ, rO, rL, ↓reduceIte, Nat.reduceEqDiff, Nat.reduceAdd, Nat.reduceLeDiff, z01, z05, ↓tyr, ixI hb, ixI hx] | refine Cut.go ?_))
  have e2 : (h.push (.row 51 b.cells)).next = h.next + 1 := rfl
  have o1 : ((h.push (.row 51 b.cells)).push (.row 58 x.cells)).objs h.next = some (.row 51 b.cells) := by simp
  have o2 : ((h.push (.row 51 b.cells)).push (.row 58 x.cells)).objs (h.next + 1) = some (.row 58 x.cells) := by simp
  have nx : ((h.push (.row 51 b.cells)).push (.row 58 x.cells)).next = h.next + 2 := rfl
  have kH : Keeps h ((h.push (.row 51 b.cells)).push (.row 58 x.cells)) (fun _ => False) := (Keeps.one _ _).go (Keeps.one _ _)
  rw [e2]
  generalize ((h.push (.row 51 b.cells)).push (.row 58 x.cells)) = H at *
  simp only [hop]
  obtain ⟨l1, l2, g0, g1, std, dd0, dd1, dd3, sts, ss0, ss1, ss4, stds, ds0, ds1, ds3, ds4, px, pd, qx, kDSp, kSp, kG, kD, kS, kDS⟩ := z3o o1 o2 nx kH
  refine z03.go (z1n 16 _) ?_
  repeat' (first | (simp -dsimp -implicitDefEqProofs only [↓rP, rQ, rL, ↓reduceIte, Nat.reduceEqDiff, Nat.reduceAdd, Nat.reduceLeDiff, z01, z05, ↓tyr, Int.reduceBEq, Int.reduceBNe, Int.reduceLT, Int.reduceLE, decide_true, decide_false, f100, f115, f114, f110, f116, f105, f120, nq, hop, ↓l1, ↓l2, wl, ixI hb, ixI hx, ↓g0, ↓g1, ↓std, ↓dd0, ↓dd1, ↓dd3, ↓sts, ↓ss0, ↓ss1, ↓ss4, ↓stds, ↓ds0, ↓ds1, ↓ds3, ↓ds4, ↓px, ↓pd, ↓qx]) | with_reducible refine Cut.go ?_ | with_reducible refine z03.go (has_100 _ hl _) ?_ | with_reducible refine z03.go (has_115 _ hl _) ?_ | with_reducible refine z03.go (has_114 _ hl _) ?_ | with_reducible refine z03.go (has_110 _ hl _) ?_ | with_reducible refine z03.go (has_116 _ hl _) ?_ | with_reducible refine z03.go (has_105 _ hl _) ?_ | with_reducible refine z03.go (has_120 _ hl _) ?_ | with_reducible refine z03.go (z1f _ _ _) ?_ | with_reducible refine z03.go (z1v c hs _ _ _) ?_ | with_reducible refine z03.go (z0w _ hn _ hit hitl _) ?_ | with_reducible refine z03.go (z0w _ hn _ hix hixl _) ?_ | with_reducible refine ixB_go (by assumption) ?_ | unfold z0q | unfold z0r | unfold z0s | unfold z0t | unfold z0u | (with_reducible refine Split.intro (fun hq => ?_) (fun hq => ?_) <;> (try simp only [Bool.not_eq_true', Bool.not_eq_false'] at hq) <;> (try rw [hq])))
  all_goals clear l1 l2 g0 g1 std dd0 dd1 dd3 sts ss0 ss1 ss4 stds ds0 ds1 ds3 ds4 px pd qx o1 o2
  all_goals refine And.intro (congrArg AV.bool ?_) (by first | exact kH | exact kG | exact kD _ | exact kS _ | exact kDS _ _ | exact kDSp _ _ _ | exact kSp _ _)
  all_goals clear kH kG kD kS kDS kDSp kSp nx wl nq hl f100 f115 f114 f110 f116 f105 f120 e2 hb hx hcl hixl hitl hix hit hn hs hc
  all_goals have kd := kind x.Dst
  all_goals have ks := kind x.Src
  all_goals clear kind
  all_goals clear hsl
  all_goals simp_all [z2u, z1l, z3s, z3c, z3r, z14, goesB, z2h, siteB, sameB, isB_btw, z5c, List.length_pos_iff, z1y, z5b, z3p]
  all_goals try omega
  all_goals try (rw [Bool.eq_iff_iff]; simp_all [beqI]; try omega)
  all_goals try (split <;> simp_all)
  all_goals try omega
end Go.Proofs.YtopfjochppdnfaaDoor
end

section
/- What the document's instr computes, of every instruction. -/
set_option maxRecDepth 100000
set_option maxHeartbeats 1000000
namespace Go.Proofs.YtopfjochppdnfaaDoor
open Go.Abs
noncomputable def instrR (c : Cd) (t : Int) (b : Bd) (x : In) (a : Int) : Bool := z1l c t b x a && (decide (x.Op = 17) == decide (a = (slL b.Code).length - 1))
theorem instrB_none {c : Cd} {t : Int} {b : Bd} {x : In} {a : Int} (ho : x.Op < 1 ∨ 17 < x.Op) : z1l c t b x a = false := by
  unfold z1l
  rw [if_neg (by omega), if_neg (by omega), if_neg (by omega), if_neg (by omega), if_neg (by omega), if_neg (by omega), if_neg (by omega), if_neg (by omega)]
  have : decide (x.Op = 17) = false := decide_eq_false (by omega)
  simp [this]
theorem ri_0 (c : Cd) (t a : Int) (b : Bd) (x : In) (hb : getI (slL c.Threads) t = some b) (hx : getI (slL b.Code) a = some x) (ho : x.Op < 1 ∨ 17 < x.Op) (h : z04) :
    z03 Tryd.prog 39 [.agg c.cells, .int .i64 t, .int .i64 a] h (fun v h2 => v = .bool (instrR c t b x a) ∧ Keeps h h2 (fun _ => False)) := by
  have hs : hasS x.Op = [63] := by unfold hasS; rw [if_pos (by omega)]
  have nq : ([63] == ([63] : List UInt8)) = true := rfl
  apply z0y
  (repeat (first | simp -dsimp -implicitDefEqProofs (disch := omega) only [↓rP, rQ, rO, rL, ↓reduceIte, Nat.reduceEqDiff, Nat.reduceAdd, Nat.reduceLeDiff, z01, z05, ↓tyr, ixI hb, ixI hx] | refine Cut.go ?_))
  refine z03.go (z1n x.Op _) ?_
  rw [hs]
  repeat' (first | (simp -dsimp -implicitDefEqProofs only [↓rP, rQ, rL, ↓reduceIte, Nat.reduceEqDiff, Nat.reduceAdd, Nat.reduceLeDiff, z01, z05, ↓tyr, Int.reduceBEq, Int.reduceBNe, Int.reduceLT, Int.reduceLE, decide_true, decide_false, nq]) | with_reducible refine Cut.go ?_ | unfold z0q | unfold z0r | unfold z0s | unfold z0t | unfold z0u)
  unfold instrR
  rw [instrB_none ho]
  exact ⟨rfl, (Keeps.one _ _).go (Keeps.one _ _)⟩
theorem ref_instr_does (c : Cd) (hc : c.ok) (sm : Small c) (t a : Int) (b : Bd) (x : In) (hb : getI (slL c.Threads) t = some b) (hx : getI (slL b.Code) a = some x) (hsl : ∀ l ∈ slL b.Slots, z19 c l = true) (h : z04) :
    z03 Tryd.prog 39 [.agg c.cells, .int .i64 t, .int .i64 a] h (fun v h2 => v = .bool (instrR c t b x a) ∧ h2 = h) := by
  have mb := z2m hb
  have mx := z2m hx
  have hs : (slL c.Sections).length ≤ 1000000 := by have := sm.secs; omega
  have h1 := sm.slots b mb
  have h2 := sm.code b mb
  have h3 := sm.items b mb x mx
  have h4 := sm.index b mb x mx
  have hxo := (hc.2.2.1.2 b mb).2.1.2 x mx
  have hit := hxo.2.2.2.2.2.2.1
  have hix := hxo.2.2.2.2.2.2.2
  have hn : okI (slL b.Slots).length := by unfold okI; omega
  refine z03.forget (by simp [z3b]) ?_
  unfold instrR
  rcases (by omega : (x.Op < 1 ∨ 17 < x.Op) ∨ x.Op = 1 ∨ x.Op = 2 ∨ x.Op = 3 ∨ x.Op = 4 ∨ x.Op = 5 ∨ x.Op = 6 ∨ x.Op = 7 ∨ x.Op = 8 ∨ x.Op = 9 ∨ x.Op = 10 ∨ x.Op = 11 ∨ x.Op = 12 ∨ x.Op = 13 ∨ x.Op = 14 ∨ x.Op = 15 ∨ x.Op = 16 ∨ x.Op = 17) with ho | ho | ho | ho | ho | ho | ho | ho | ho | ho | ho | ho | ho | ho | ho | ho | ho | ho
  · exact ri_0 c t a b x hb hx ho h
  · exact ri_1 c hc hs t a b x hb hx hsl hn hit hix (by omega) (by omega) (by omega) ho h
  · exact ri_2 c hc hs t a b x hb hx hsl hn hit hix (by omega) (by omega) (by omega) ho h
  · exact ri_3 c hc hs t a b x hb hx hsl hn hit hix (by omega) (by omega) (by omega) ho h
  · exact ri_4 c hc hs t a b x hb hx hsl hn hit hix (by omega) (by omega) (by omega) ho h
  · exact ri_5 c hc hs t a b x hb hx hsl hn hit hix (by omega) (by omega) (by omega) ho h
  · exact ri_6 c hc hs t a b x hb hx hsl hn hit hix (by omega) (by omega) (by omega) ho h
  · exact ri_7 c hc hs t a b x hb hx hsl hn hit hix (by omega) (by omega) (by omega) ho h
  · exact ri_8 c hc hs t a b x hb hx hsl hn hit hix (by omega) (by omega) (by omega) ho h
  · exact ri_9 c hc hs t a b x hb hx hsl hn hit hix (by omega) (by omega) (by omega) ho h
  · exact ri_10 c hc hs t a b x hb hx hsl hn hit hix (by omega) (by omega) (by omega) ho h
  · exact ri_11 c hc hs t a b x hb hx hsl hn hit hix (by omega) (by omega) (by omega) ho h
  · exact ri_12 c hc hs t a b x hb hx hsl hn hit hix (by omega) (by omega) (by omega) ho h
  · exact ri_13 c hc hs t a b x hb hx hsl hn hit hix (by omega) (by omega) (by omega) ho h
  · exact ri_14 c hc hs t a b x hb hx hsl hn hit hix (by omega) (by omega) (by omega) ho h
  · exact ri_15 c hc hs t a b x hb hx hsl hn hit hix (by omega) (by omega) (by omega) ho h
  · exact ri_16 c hc hs t a b x hb hx hsl hn hit hix (by omega) (by omega) (by omega) ho h
  · exact ri_17 c hc hs t a b x hb hx hsl hn hit hix (by omega) (by omega) (by omega) ho h
end Go.Proofs.YtopfjochppdnfaaDoor
end

section
/- The document's Good: its loops within loops. -/
set_option maxRecDepth 100000
set_option maxHeartbeats 1000000
namespace Go.Proofs.YtopfjochppdnfaaDoor
open Go.Abs
theorem all_no {α : Type} {p : α → Bool} {l : List α} {k : Nat} {x : α} (hx : l[k]? = some x) (hp : p x = false) : l.all p = false := List.all_eq_false.2 ⟨x, List.mem_of_getElem? hx, by simp [hp]⟩
theorem all_yes {α : Type} {p : α → Bool} {l : List α} (h : upTo (fun _ x => p x) l l.length) : l.all p = true := by
  rw [List.all_eq_true]
  intro x hx
  obtain ⟨k, hk⟩ := List.getElem?_of_mem hx
  exact h k x (List.getElem?_eq_some_iff.1 hk).1 hk
theorem g_cells (c : Cd) (o : Option (List Lo)) (hl : (slL o).length ≤ 1000000) (a57 a58 a59 : AV) (h0 : z04) (Q : z18 → Fr → z04 → Prop)
    (hret : ∀ h2, (slL o).all (fun x => !x.Once && z19 c x) = false → Keeps h0 h2 (fun _ => False) → Q .ret (frOf [(2, .bool false)]) h2)
    (hex : ∀ h2, (slL o).all (fun x => !x.Once && z19 c x) = true → Keeps h0 h2 (fun _ => False) → Q (.exit 2) (frOf [(1, .iptr c.cells), (57, a57), (58, a58), (59, a59)]) h2) :
    WP Tryd.prog 324 (.loop z3e) (frOf [(1, .iptr c.cells), (57, a57), (58, a58), (59, a59), (71, slAV 3 z0d.cells o), (72, .int .i64 (slL o).length), (73, .int .i64 0)]) h0 Q := by
  obtain ⟨I, hI⟩ : ∃ I : Nat → Fr → z04 → Prop, I = (fun n fr hh => ∃ k : Nat, k ≤ (slL o).length ∧ n = (slL o).length - k ∧ upTo (fun _ x => !x.Once && z19 c x) (slL o) k ∧ Keeps h0 hh (fun _ => False) ∧ fr = frOf [(1, .iptr c.cells), (57, a57), (58, a58), (59, a59), (71, slAV 3 z0d.cells o), (72, .int .i64 (slL o).length), (73, .int .i64 k)]) := ⟨_, rfl⟩
  refine z1c z0l (by kernel_rfl) I (slL o).length (by rw [hI]; exact ⟨0, by omega, by omega, z2w _ _, .refl _ _, rfl⟩) ?_
  intro n fr hh H
  rw [hI] at H
  obtain ⟨k, hk, rfl, hup, kp, rfl⟩ := H
  apply padlockref09_GoodR_loop10
  (repeat simp -dsimp -implicitDefEqProofs (disch := omega) only [↓rP, rQ, rO, rL, ↓reduceIte, Nat.reduceEqDiff, Nat.reduceAdd, Nat.reduceLeDiff, z01, z05, ↓tyr])
  refine z0e (fun hkl => ?_) (fun hkl => ?_)
  · obtain ⟨x, hx⟩ : ∃ x, (slL o)[k]? = some x := ⟨_, List.getElem?_eq_getElem (by omega)⟩
    have kp1 := kp.go (Keeps.one hh (.row 69 x.cells))
    have on : (!x.Once && z19 c x) = true → loopPost I ((slL o).length - k) Q .normal (frOf [(1, .iptr c.cells), (57, a57), (58, a58), (59, a59), (71, slAV 3 z0d.cells o), (72, .int .i64 (slL o).length), (73, .int .i64 (k + 1 : Nat))]) (hh.push (.row 69 x.cells)) := fun hp => by
      rw [z0a, hI]
      exact ⟨_, by omega, k + 1, by omega, rfl, z2p hup hx hp, kp1, rfl⟩
    have no : (!x.Once && z19 c x) = false → Q .ret (frOf [(2, .bool false)]) (hh.push (.row 69 x.cells)) := fun hp => hret _ (all_no hx hp) kp1
    (repeat simp -dsimp -implicitDefEqProofs (disch := omega) only [↓rP, rQ, rO, rL, ↓reduceIte, Nat.reduceEqDiff, Nat.reduceAdd, Nat.reduceLeDiff, z01, z05, ↓tyr, z0k hx])
    rcases ho : x.Once with _ | _
    · (repeat simp -dsimp -implicitDefEqProofs (disch := omega) only [↓rP, rQ, rO, rL, ↓reduceIte, Nat.reduceEqDiff, Nat.reduceAdd, Nat.reduceLeDiff, z01, z05, ↓tyr, ho])
      refine z03.go (ref_local_does c x _) ?_
      rcases hb : z19 c x with _ | _
      · (repeat simp -dsimp -implicitDefEqProofs (disch := omega) only [↓rP, rQ, rO, rL, ↓reduceIte, Nat.reduceEqDiff, Nat.reduceAdd, Nat.reduceLeDiff, z01, z05, ↓tyr, ho, Bool.not_false])
        exact no (by rw [ho, hb]; rfl)
      · (repeat simp -dsimp -implicitDefEqProofs (disch := omega) only [↓rP, rQ, rO, rL, ↓reduceIte, Nat.reduceEqDiff, Nat.reduceAdd, Nat.reduceLeDiff, z01, z05, ↓tyr, ho, Bool.not_true, wkS k (by omega)])
        exact on (by rw [ho, hb]; rfl)
    · (repeat simp -dsimp -implicitDefEqProofs (disch := omega) only [↓rP, rQ, rO, rL, ↓reduceIte, Nat.reduceEqDiff, Nat.reduceAdd, Nat.reduceLeDiff, z01, z05, ↓tyr, ho])
      exact no (by rw [ho]; rfl)
  · have hke : k = (slL o).length := by omega
    subst hke
    (repeat simp -dsimp -implicitDefEqProofs (disch := omega) only [↓rP, rQ, rO, rL, ↓reduceIte, Nat.reduceEqDiff, Nat.reduceAdd, Nat.reduceLeDiff, z01, z05, ↓tyr])
    exact hex hh (all_yes hup) kp
theorem g_slots (c : Cd) (o : Option (List Lo)) (hl : (slL o).length ≤ 1000000) (a88 a89 a90 : AV) (h0 : z04) (Q : z18 → Fr → z04 → Prop)
    (hret : ∀ h2, (slL o).all (z19 c) = false → Keeps h0 h2 (fun _ => False) → Q .ret (frOf [(2, .bool false)]) h2)
    (hex : ∀ h2, (slL o).all (z19 c) = true → Keeps h0 h2 (fun _ => False) → Q (.exit 6) (frOf [(1, .iptr c.cells), (88, a88), (89, a89), (90, a90)]) h2) :
    WP Tryd.prog 324 (.loop z4d) (frOf [(1, .iptr c.cells), (88, a88), (89, a89), (90, a90), (121, slAV 3 z0d.cells o), (122, .int .i64 (slL o).length), (123, .int .i64 0)]) h0 Q := by
  obtain ⟨I, hI⟩ : ∃ I : Nat → Fr → z04 → Prop, I = (fun n fr hh => ∃ k : Nat, k ≤ (slL o).length ∧ n = (slL o).length - k ∧ upTo (fun _ x => z19 c x) (slL o) k ∧ Keeps h0 hh (fun _ => False) ∧ fr = frOf [(1, .iptr c.cells), (88, a88), (89, a89), (90, a90), (121, slAV 3 z0d.cells o), (122, .int .i64 (slL o).length), (123, .int .i64 k)]) := ⟨_, rfl⟩
  refine z1c z0l (by kernel_rfl) I (slL o).length (by rw [hI]; exact ⟨0, by omega, by omega, z2w _ _, .refl _ _, rfl⟩) ?_
  intro n fr hh H
  rw [hI] at H
  obtain ⟨k, hk, rfl, hup, kp, rfl⟩ := H
  apply padlockref09_GoodR_loop22
  (repeat simp -dsimp -implicitDefEqProofs (disch := omega) only [↓rP, rQ, rO, rL, ↓reduceIte, Nat.reduceEqDiff, Nat.reduceAdd, Nat.reduceLeDiff, z01, z05, ↓tyr])
  refine z0e (fun hkl => ?_) (fun hkl => ?_)
  · obtain ⟨x, hx⟩ : ∃ x, (slL o)[k]? = some x := ⟨_, List.getElem?_eq_getElem (by omega)⟩
    have kp1 := kp.go (Keeps.one hh (.row 69 x.cells))
    (repeat simp -dsimp -implicitDefEqProofs (disch := omega) only [↓rP, rQ, rO, rL, ↓reduceIte, Nat.reduceEqDiff, Nat.reduceAdd, Nat.reduceLeDiff, z01, z05, ↓tyr, z0k hx])
    refine z03.go (ref_local_does c x _) ?_
    rcases hb : z19 c x with _ | _
    · (repeat simp -dsimp -implicitDefEqProofs (disch := omega) only [↓rP, rQ, rO, rL, ↓reduceIte, Nat.reduceEqDiff, Nat.reduceAdd, Nat.reduceLeDiff, z01, z05, ↓tyr, Bool.not_false])
      exact hret _ (all_no hx hb) kp1
    · (repeat simp -dsimp -implicitDefEqProofs (disch := omega) only [↓rP, rQ, rO, rL, ↓reduceIte, Nat.reduceEqDiff, Nat.reduceAdd, Nat.reduceLeDiff, z01, z05, ↓tyr, Bool.not_true, wkS k (by omega)])
      rw [z0a, hI]
      exact ⟨_, by omega, k + 1, by omega, rfl, z2p hup hx hb, kp1, rfl⟩
  · have hke : k = (slL o).length := by omega
    subst hke
    (repeat simp -dsimp -implicitDefEqProofs (disch := omega) only [↓rP, rQ, rO, rL, ↓reduceIte, Nat.reduceEqDiff, Nat.reduceAdd, Nat.reduceLeDiff, z01, z05, ↓tyr])
    exact hex hh (all_yes hup) kp
theorem g_instrs (c : Cd) (hc : c.ok) (sm : Small c) (i : Nat) (b : Bd) (hb : (slL c.Threads)[i]? = some b) (hsl : ∀ l ∈ slL b.Slots, z19 c l = true) (a304 a305 a306 : AV) (h0 : z04) (Q : z18 → Fr → z04 → Prop)
    (hret : allK (fun k x => instrR c i b x k) (slL b.Code) = false → Q .ret (frOf [(2, .bool false)]) h0)
    (hex : allK (fun k x => instrR c i b x k) (slL b.Code) = true → Q (.exit 16) (frOf [(1, .iptr c.cells), (304, a304), (305, a305), (306, a306)]) h0) :
    WP Tryd.prog 324 (.loop z4i) (frOf [(1, .iptr c.cells), (20, .int .i64 i), (304, a304), (305, a305), (306, a306), (313, .int .i64 (slL b.Code).length), (314, .int .i64 0)]) h0 Q := by
  have hcl := sm.code b (List.mem_of_getElem? hb)
  obtain ⟨I, hI⟩ : ∃ I : Nat → Fr → z04 → Prop, I = (fun n fr hh => ∃ k : Nat, k ≤ (slL b.Code).length ∧ n = (slL b.Code).length - k ∧ upTo (fun k x => instrR c i b x k) (slL b.Code) k ∧ hh = h0 ∧ fr = frOf [(1, .iptr c.cells), (20, .int .i64 i), (304, a304), (305, a305), (306, a306), (313, .int .i64 (slL b.Code).length), (314, .int .i64 k)]) := ⟨_, rfl⟩
  refine z1c z0l (by kernel_rfl) I (slL b.Code).length (by rw [hI]; exact ⟨0, by omega, by omega, z2w _ _, rfl, rfl⟩) ?_
  intro n fr hh H
  rw [hI] at H
  obtain ⟨k, hk, rfl, hup, rfl, rfl⟩ := H
  apply padlockref09_GoodR_loop56
  (repeat simp -dsimp -implicitDefEqProofs (disch := omega) only [↓rP, rQ, rO, rL, ↓reduceIte, Nat.reduceEqDiff, Nat.reduceAdd, Nat.reduceLeDiff, z01, z05, ↓tyr])
  refine z0e (fun hkl => ?_) (fun hkl => ?_)
  · obtain ⟨x, hx⟩ : ∃ x, (slL b.Code)[k]? = some x := ⟨_, List.getElem?_eq_getElem (by omega)⟩
    (repeat simp -dsimp -implicitDefEqProofs (disch := omega) only [↓rP, rQ, rO, rL, ↓reduceIte, Nat.reduceEqDiff, Nat.reduceAdd, Nat.reduceLeDiff, z01, z05, ↓tyr])
    refine z03.go (ref_instr_does c hc sm i k b x (by rw [z2v]; exact hb) (by rw [z2v]; exact hx) hsl _) ?_
    rcases hi : instrR c i b x k with _ | _
    · (repeat simp -dsimp -implicitDefEqProofs (disch := omega) only [↓rP, rQ, rO, rL, ↓reduceIte, Nat.reduceEqDiff, Nat.reduceAdd, Nat.reduceLeDiff, z01, z05, ↓tyr, Bool.not_false])
      exact hret (z3k hx hi)
    · (repeat simp -dsimp -implicitDefEqProofs (disch := omega) only [↓rP, rQ, rO, rL, ↓reduceIte, Nat.reduceEqDiff, Nat.reduceAdd, Nat.reduceLeDiff, z01, z05, ↓tyr, Bool.not_true, wkS k (by omega)])
      rw [z0a, hI]
      exact ⟨_, by omega, k + 1, by omega, rfl, z2p hup hx hi, rfl, rfl⟩
  · have hke : k = (slL b.Code).length := by omega
    subst hke
    (repeat simp -dsimp -implicitDefEqProofs (disch := omega) only [↓rP, rQ, rO, rL, ↓reduceIte, Nat.reduceEqDiff, Nat.reduceAdd, Nat.reduceLeDiff, z01, z05, ↓tyr])
    exact hex (upTo_all hup)
end Go.Proofs.YtopfjochppdnfaaDoor
end

section
/- The document's Good: its outer loops. -/
set_option maxRecDepth 100000
set_option maxHeartbeats 1000000
namespace Go.Proofs.YtopfjochppdnfaaDoor
open Go.Abs
def cellP (c : Cd) (o : Option (List Lo)) : Bool := (slL o).all (fun x => !x.Once && z19 c x)
def rowP (c : Cd) (i : Nat) (o : Option (List Lo)) : Bool := !(decide (0 < i) && decide (6 < (slL o).length)) && cellP c o
theorem g_rows (c : Cd) (ls : List (Option (List Lo))) (hl : ls.length ≤ 1000) (hr : ∀ o ∈ ls, (slL o).length ≤ 1000) (h0 : z04) (id : Nat) (hid : id < h0.next) (ho : h0.objs id = some (.row 39 (ls.map fun o => slAV 3 z0d.cells o))) (Q : z18 → Fr → z04 → Prop)
    (hret : ∀ h2, allK (rowP c) ls = false → Keeps h0 h2 (fun _ => False) → Q .ret (frOf [(2, .bool false)]) h2)
    (hex : ∀ h2, allK (rowP c) ls = true → Keeps h0 h2 (fun _ => False) → Q (.exit 0) (frOf [(1, .iptr c.cells)]) h2) :
    WP Tryd.prog 324 (.loop z4s) (frOf [(1, .iptr c.cells), (57, .sl id 0 ls.length 1), (58, .int .i64 ls.length), (59, .int .i64 0)]) h0 Q := by
  obtain ⟨I, hI⟩ : ∃ I : Nat → Fr → z04 → Prop, I = (fun n fr hh => ∃ k : Nat, k ≤ ls.length ∧ n = ls.length - k ∧ upTo (rowP c) ls k ∧ Keeps h0 hh (fun _ => False) ∧ fr = frOf [(1, .iptr c.cells), (57, .sl id 0 ls.length 1), (58, .int .i64 ls.length), (59, .int .i64 k)]) := ⟨_, rfl⟩
  refine z1c z0l (by kernel_rfl) I ls.length (by rw [hI]; exact ⟨0, by omega, by omega, z2w _ _, .refl _ _, rfl⟩) ?_
  intro n fr hh H
  rw [hI] at H
  obtain ⟨k, hk, rfl, hup, kp, rfl⟩ := H
  apply padlockref09_GoodR_loop5
  (repeat simp -dsimp -implicitDefEqProofs (disch := omega) only [↓rP, rQ, rO, rL, ↓reduceIte, Nat.reduceEqDiff, Nat.reduceAdd, Nat.reduceLeDiff, z01, z05, ↓tyr])
  refine z0e (fun hkl => ?_) (fun hkl => ?_)
  · obtain ⟨o, hx⟩ : ∃ o, ls[k]? = some o := ⟨_, List.getElem?_eq_getElem (by omega)⟩
    have hol := hr o (List.mem_of_getElem? hx)
    have ix : ∀ K : AV → Prop, z06 (.slice 1) (.sl id 0 ls.length 1) (.int .i64 (k : Int)) K = K (.ptr id k) := fun K => by
      simp [z06]; omega
    have ho2 : hh.objs id = some (.row 39 (ls.map fun o => slAV 3 z0d.cells o)) := by rw [kp.objs id hid (by simp)]; exact ho
    have ld : ∀ K : AV → Prop, z02 none (.ptr id k) hh K = K (slAV 3 z0d.cells o) := fun K => by
      rw [z0x ho2, pCells_none_some (v := slAV 3 z0d.cells o) (by rw [List.getElem?_map, hx]; rfl)]
    have bad : rowP c k o = false → allK (rowP c) ls = false := fun hp => z3k hx hp
    have inner : rowP c k o = cellP c o → WP Tryd.prog 324 (.loop z3e) (frOf [(1, .iptr c.cells), (57, .sl id 0 ls.length 1), (58, .int .i64 ls.length), (59, .int .i64 k), (71, slAV 3 z0d.cells o), (72, .int .i64 (slL o).length), (73, .int .i64 0)]) hh (fun e fr h2 => match e with | .ret => cellP c o = false ∧ Keeps hh h2 (fun _ => False) ∧ fr = frOf [(2, .bool false)] | .exit i => i = 2 ∧ cellP c o = true ∧ Keeps hh h2 (fun _ => False) ∧ fr = frOf [(1, .iptr c.cells), (57, .sl id 0 ls.length 1), (58, .int .i64 ls.length), (59, .int .i64 k)] | .normal => False) := fun _ =>
      g_cells c o (by omega) _ _ _ hh _ (fun h2 h k => ⟨h, k, rfl⟩) (fun h2 h k => ⟨rfl, h, k, rfl⟩)
    (repeat simp -dsimp -implicitDefEqProofs (disch := omega) only [↓rP, rQ, rO, rL, ↓reduceIte, Nat.reduceEqDiff, Nat.reduceAdd, Nat.reduceLeDiff, z01, z05, ↓tyr, ↓ix, ↓ld])
    refine z0e (fun h0k => ?_) (fun h0k => ?_)
    · (repeat simp -dsimp -implicitDefEqProofs (disch := omega) only [↓rP, rQ, rO, rL, ↓reduceIte, Nat.reduceEqDiff, Nat.reduceAdd, Nat.reduceLeDiff, z01, z05, ↓tyr, ↓ix, ↓ld])
      refine z0e (fun h6 => ?_) (fun h6 => ?_)
      · (repeat simp -dsimp -implicitDefEqProofs (disch := omega) only [↓rP, rQ, rO, rL, ↓reduceIte, Nat.reduceEqDiff, Nat.reduceAdd, Nat.reduceLeDiff, z01, z05, ↓tyr])
        have e1 : decide (0 < k) = true := decide_eq_true (by omega)
        have e2 : decide (6 < (slL o).length) = true := decide_eq_true (by omega)
        exact hret hh (bad (by unfold rowP; rw [e1, e2]; rfl)) kp
      · have e2 : decide (6 < (slL o).length) = false := decide_eq_false (by omega)
        have e : rowP c k o = cellP c o := by unfold rowP; rw [e2, Bool.and_false]; rfl
        (repeat simp -dsimp -implicitDefEqProofs (disch := omega) only [↓rP, rQ, rO, rL, ↓reduceIte, Nat.reduceEqDiff, Nat.reduceAdd, Nat.reduceLeDiff, z01, z05, ↓tyr])
        refine (inner e).mono ?_
        rintro (_ | i | _) fr h2 hq
        · exact hq.elim
        · obtain ⟨rfl, q1, q2, rfl⟩ := hq
          (repeat simp -dsimp -implicitDefEqProofs (disch := omega) only [↓rP, rQ, rO, rL, ↓reduceIte, Nat.reduceEqDiff, Nat.reduceAdd, Nat.reduceLeDiff, z01, z05, ↓tyr, wkS k (by omega)])
          rw [z0a, hI]
          exact ⟨_, by omega, k + 1, by omega, rfl, z2p hup hx (by rw [e]; exact q1), kp.go q2, rfl⟩
        · obtain ⟨q1, q2, rfl⟩ := hq
          (repeat simp -dsimp -implicitDefEqProofs (disch := omega) only [↓rP, rQ, rO, rL, ↓reduceIte, Nat.reduceEqDiff, Nat.reduceAdd, Nat.reduceLeDiff, z01, z05, ↓tyr])
          exact hret h2 (bad (by rw [e]; exact q1)) (kp.go q2)
    · have e1 : decide (0 < k) = false := decide_eq_false (by omega)
      have e : rowP c k o = cellP c o := by unfold rowP; rw [e1, Bool.false_and]; rfl
      (repeat simp -dsimp -implicitDefEqProofs (disch := omega) only [↓rP, rQ, rO, rL, ↓reduceIte, Nat.reduceEqDiff, Nat.reduceAdd, Nat.reduceLeDiff, z01, z05, ↓tyr])
      refine (inner e).mono ?_
      rintro (_ | i | _) fr h2 hq
      · exact hq.elim
      · obtain ⟨rfl, q1, q2, rfl⟩ := hq
        (repeat simp -dsimp -implicitDefEqProofs (disch := omega) only [↓rP, rQ, rO, rL, ↓reduceIte, Nat.reduceEqDiff, Nat.reduceAdd, Nat.reduceLeDiff, z01, z05, ↓tyr, wkS k (by omega)])
        rw [z0a, hI]
        exact ⟨_, by omega, k + 1, by omega, rfl, z2p hup hx (by rw [e]; exact q1), kp.go q2, rfl⟩
      · obtain ⟨q1, q2, rfl⟩ := hq
        (repeat simp -dsimp -implicitDefEqProofs (disch := omega) only [↓rP, rQ, rO, rL, ↓reduceIte, Nat.reduceEqDiff, Nat.reduceAdd, Nat.reduceLeDiff, z01, z05, ↓tyr])
        exact hret h2 (bad (by rw [e]; exact q1)) (kp.go q2)
  · have hke : k = ls.length := by omega
    subst hke
    (repeat simp -dsimp -implicitDefEqProofs (disch := omega) only [↓rP, rQ, rO, rL, ↓reduceIte, Nat.reduceEqDiff, Nat.reduceAdd, Nat.reduceLeDiff, z01, z05, ↓tyr])
    exact hex hh (upTo_all hup) kp
theorem g_bodies (c : Cd) (sm : Small c) (h0 : z04) (Q : z18 → Fr → z04 → Prop)
    (hret : ∀ h2, (slL c.Threads).all (bodyB c) = false → Keeps h0 h2 (fun _ => False) → Q .ret (frOf [(2, .bool false)]) h2)
    (hex : ∀ h2, (slL c.Threads).all (bodyB c) = true → Keeps h0 h2 (fun _ => False) → Q (.exit 4) (frOf [(1, .iptr c.cells)]) h2) :
    WP Tryd.prog 324 (.loop z4c) (frOf [(1, .iptr c.cells), (88, slAV 3 z0n.cells c.Threads), (89, .int .i64 (slL c.Threads).length), (90, .int .i64 0)]) h0 Q := by
  have hth := sm.threads
  obtain ⟨I, hI⟩ : ∃ I : Nat → Fr → z04 → Prop, I = (fun n fr hh => ∃ k : Nat, k ≤ (slL c.Threads).length ∧ n = (slL c.Threads).length - k ∧ upTo (fun _ b => bodyB c b) (slL c.Threads) k ∧ Keeps h0 hh (fun _ => False) ∧ fr = frOf [(1, .iptr c.cells), (88, slAV 3 z0n.cells c.Threads), (89, .int .i64 (slL c.Threads).length), (90, .int .i64 k)]) := ⟨_, rfl⟩
  refine z1c z0l (by kernel_rfl) I (slL c.Threads).length (by rw [hI]; exact ⟨0, by omega, by omega, z2w _ _, .refl _ _, rfl⟩) ?_
  intro n fr hh H
  rw [hI] at H
  obtain ⟨k, hk, rfl, hup, kp, rfl⟩ := H
  apply padlockref09_GoodR_loop17
  (repeat simp -dsimp -implicitDefEqProofs (disch := omega) only [↓rP, rQ, rO, rL, ↓reduceIte, Nat.reduceEqDiff, Nat.reduceAdd, Nat.reduceLeDiff, z01, z05, ↓tyr])
  refine z0e (fun hkl => ?_) (fun hkl => ?_)
  · obtain ⟨b, hx⟩ : ∃ b, (slL c.Threads)[k]? = some b := ⟨_, List.getElem?_eq_getElem (by omega)⟩
    have kp1 := kp.go (Keeps.one hh (.row 51 b.cells))
    have hsl := sm.slots b (List.mem_of_getElem? hx)
    have no : bodyB c b = false → Q .ret (frOf [(2, .bool false)]) (hh.push (.row 51 b.cells)) := fun hp => hret _ (all_no hx hp) kp1
    (repeat simp -dsimp -implicitDefEqProofs (disch := omega) only [↓rP, rQ, rO, rL, ↓reduceIte, Nat.reduceEqDiff, Nat.reduceAdd, Nat.reduceLeDiff, z01, z05, ↓tyr, z0k hx])
    refine z0e (fun h1 => ?_) (fun h1 => ?_)
    · (repeat simp -dsimp -implicitDefEqProofs (disch := omega) only [↓rP, rQ, rO, rL, ↓reduceIte, Nat.reduceEqDiff, Nat.reduceAdd, Nat.reduceLeDiff, z01, z05, ↓tyr])
      exact no (by simp [bodyB]; intros; omega)
    (repeat simp -dsimp -implicitDefEqProofs (disch := omega) only [↓rP, rQ, rO, rL, ↓reduceIte, Nat.reduceEqDiff, Nat.reduceAdd, Nat.reduceLeDiff, z01, z05, ↓tyr])
    refine z0e (fun h2 => ?_) (fun h2 => ?_)
    · (repeat simp -dsimp -implicitDefEqProofs (disch := omega) only [↓rP, rQ, rO, rL, ↓reduceIte, Nat.reduceEqDiff, Nat.reduceAdd, Nat.reduceLeDiff, z01, z05, ↓tyr])
      exact no (by simp [bodyB]; intros; omega)
    (repeat simp -dsimp -implicitDefEqProofs (disch := omega) only [↓rP, rQ, rO, rL, ↓reduceIte, Nat.reduceEqDiff, Nat.reduceAdd, Nat.reduceLeDiff, z01, z05, ↓tyr])
    refine z0e (fun h3 => ?_) (fun h3 => ?_)
    · (repeat simp -dsimp -implicitDefEqProofs (disch := omega) only [↓rP, rQ, rO, rL, ↓reduceIte, Nat.reduceEqDiff, Nat.reduceAdd, Nat.reduceLeDiff, z01, z05, ↓tyr])
      exact no (by simp [bodyB]; intros; omega)
    (repeat simp -dsimp -implicitDefEqProofs (disch := omega) only [↓rP, rQ, rO, rL, ↓reduceIte, Nat.reduceEqDiff, Nat.reduceAdd, Nat.reduceLeDiff, z01, z05, ↓tyr])
    refine z0e (fun h4 => ?_) (fun h4 => ?_)
    · (repeat simp -dsimp -implicitDefEqProofs (disch := omega) only [↓rP, rQ, rO, rL, ↓reduceIte, Nat.reduceEqDiff, Nat.reduceAdd, Nat.reduceLeDiff, z01, z05, ↓tyr])
      exact no (by simp [bodyB]; intros; omega)
    (repeat simp -dsimp -implicitDefEqProofs (disch := omega) only [↓rP, rQ, rO, rL, ↓reduceIte, Nat.reduceEqDiff, Nat.reduceAdd, Nat.reduceLeDiff, z01, z05, ↓tyr])
    refine z0e (fun h5 => ?_) (fun h5 => ?_)
    · (repeat simp -dsimp -implicitDefEqProofs (disch := omega) only [↓rP, rQ, rO, rL, ↓reduceIte, Nat.reduceEqDiff, Nat.reduceAdd, Nat.reduceLeDiff, z01, z05, ↓tyr])
      exact no (by simp [bodyB]; intros; omega)
    have e : bodyB c b = (slL b.Slots).all (z19 c) := by
      unfold bodyB
      rw [decide_eq_true (by omega : (slL b.Slots).length ≤ 64), decide_eq_true (by omega : 1 ≤ (slL b.Code).length), decide_eq_true (by omega : (slL b.Code).length ≤ 256), decide_eq_true (by omega : 0 ≤ b.Most), decide_eq_true (by omega : b.Most ≤ 4096)]
      rfl
    (repeat simp -dsimp -implicitDefEqProofs (disch := omega) only [↓rP, rQ, rO, rL, ↓reduceIte, Nat.reduceEqDiff, Nat.reduceAdd, Nat.reduceLeDiff, z01, z05, ↓tyr])
    refine g_slots c b.Slots (by omega) _ _ _ _ _ (fun h2 hg k2 => ?_) (fun h2 hg k2 => ?_)
    · (repeat simp -dsimp -implicitDefEqProofs (disch := omega) only [↓rP, rQ, rO, rL, ↓reduceIte, Nat.reduceEqDiff, Nat.reduceAdd, Nat.reduceLeDiff, z01, z05, ↓tyr])
      exact hret _ (all_no hx (by rw [e]; exact hg)) (kp1.go k2)
    · (repeat simp -dsimp -implicitDefEqProofs (disch := omega) only [↓rP, rQ, rO, rL, ↓reduceIte, Nat.reduceEqDiff, Nat.reduceAdd, Nat.reduceLeDiff, z01, z05, ↓tyr, wkS k (by omega)])
      rw [z0a, hI]
      exact ⟨_, by omega, k + 1, by omega, rfl, z2p hup hx (by rw [e]; exact hg), kp1.go k2, rfl⟩
  · have hke : k = (slL c.Threads).length := by omega
    subst hke
    (repeat simp -dsimp -implicitDefEqProofs (disch := omega) only [↓rP, rQ, rO, rL, ↓reduceIte, Nat.reduceEqDiff, Nat.reduceAdd, Nat.reduceLeDiff, z01, z05, ↓tyr])
    exact hex hh (all_yes hup) kp
theorem g_threads (c : Cd) (hc : c.ok) (sm : Small c) (hbd : (slL c.Threads).all (bodyB c) = true) (h0 : z04) (Q : z18 → Fr → z04 → Prop)
    (hret : ∀ h2, allK (fun i b => allK (fun k x => instrR c i b x k) (slL b.Code)) (slL c.Threads) = false → Keeps h0 h2 (fun _ => False) → Q .ret (frOf [(2, .bool false)]) h2)
    (hex : ∀ h2, allK (fun i b => allK (fun k x => instrR c i b x k) (slL b.Code)) (slL c.Threads) = true → Keeps h0 h2 (fun _ => False) → Q (.exit 14) (frOf []) h2) :
    WP Tryd.prog 324 (.loop z4h) (frOf [(1, .iptr c.cells), (304, slAV 3 z0n.cells c.Threads), (305, .int .i64 (slL c.Threads).length), (306, .int .i64 0)]) h0 Q := by
  have hth := sm.threads
  obtain ⟨I, hI⟩ : ∃ I : Nat → Fr → z04 → Prop, I = (fun n fr hh => ∃ k : Nat, k ≤ (slL c.Threads).length ∧ n = (slL c.Threads).length - k ∧ upTo (fun i b => allK (fun k x => instrR c i b x k) (slL b.Code)) (slL c.Threads) k ∧ Keeps h0 hh (fun _ => False) ∧ fr = frOf [(1, .iptr c.cells), (304, slAV 3 z0n.cells c.Threads), (305, .int .i64 (slL c.Threads).length), (306, .int .i64 k)]) := ⟨_, rfl⟩
  refine z1c z0l (by kernel_rfl) I (slL c.Threads).length (by rw [hI]; exact ⟨0, by omega, by omega, z2w _ _, .refl _ _, rfl⟩) ?_
  intro n fr hh H
  rw [hI] at H
  obtain ⟨k, hk, rfl, hup, kp, rfl⟩ := H
  apply padlockref09_GoodR_loop53
  (repeat simp -dsimp -implicitDefEqProofs (disch := omega) only [↓rP, rQ, rO, rL, ↓reduceIte, Nat.reduceEqDiff, Nat.reduceAdd, Nat.reduceLeDiff, z01, z05, ↓tyr])
  refine z0e (fun hkl => ?_) (fun hkl => ?_)
  · obtain ⟨b, hx⟩ : ∃ b, (slL c.Threads)[k]? = some b := ⟨_, List.getElem?_eq_getElem (by omega)⟩
    have kp1 := kp.go (Keeps.one hh (.row 51 b.cells))
    have hsl : ∀ l ∈ slL b.Slots, z19 c l = true := by
      have := List.all_eq_true.1 hbd b (List.mem_of_getElem? hx)
      unfold bodyB at this
      rw [Bool.and_eq_true] at this
      exact List.all_eq_true.1 this.2
    (repeat simp -dsimp -implicitDefEqProofs (disch := omega) only [↓rP, rQ, rO, rL, ↓reduceIte, Nat.reduceEqDiff, Nat.reduceAdd, Nat.reduceLeDiff, z01, z05, ↓tyr, z0k hx])
    refine g_instrs c hc sm k b hx hsl _ _ _ _ _ (fun hg => ?_) (fun hg => ?_)
    · (repeat simp -dsimp -implicitDefEqProofs (disch := omega) only [↓rP, rQ, rO, rL, ↓reduceIte, Nat.reduceEqDiff, Nat.reduceAdd, Nat.reduceLeDiff, z01, z05, ↓tyr])
      exact hret _ (z3k hx hg) kp1
    · (repeat simp -dsimp -implicitDefEqProofs (disch := omega) only [↓rP, rQ, rO, rL, ↓reduceIte, Nat.reduceEqDiff, Nat.reduceAdd, Nat.reduceLeDiff, z01, z05, ↓tyr, wkS k (by omega)])
      rw [z0a, hI]
      exact ⟨_, by omega, k + 1, by omega, rfl, z2p hup hx hg, kp1, rfl⟩
  · have hke : k = (slL c.Threads).length := by omega
    subst hke
    (repeat simp -dsimp -implicitDefEqProofs (disch := omega) only [↓rP, rQ, rO, rL, ↓reduceIte, Nat.reduceEqDiff, Nat.reduceAdd, Nat.reduceLeDiff, z01, z05, ↓tyr])
    exact hex hh (upTo_all hup) kp
end Go.Proofs.YtopfjochppdnfaaDoor
end

section
/- The document's Good: sections and sites. -/
set_option maxRecDepth 100000
set_option maxHeartbeats 1000000
namespace Go.Proofs.YtopfjochppdnfaaDoor
open Go.Abs
def sepP (i : Nat) (s : z0h) (j : Nat) (o : z0h) : Bool := decide (j = i) || !meetB s o
def secR (c : Cd) (i : Nat) (s : z0h) : Bool := endsB c i s && allK (sepP i s) (slL c.Sections)
theorem g_sep (c : Cd) (sm : Small c) (i : Nat) (hi : i ≤ 1000) (s : z0h) (a134 a135 a136 : AV) (h0 : z04) (id : Nat) (hid : id < h0.next) (ho : h0.objs id = some (.row 71 s.cells)) (Q : z18 → Fr → z04 → Prop)
    (hret : ∀ h2, allK (sepP i s) (slL c.Sections) = false → Keeps h0 h2 (fun _ => False) → Q .ret (frOf [(2, .bool false)]) h2)
    (hex : ∀ h2, allK (sepP i s) (slL c.Sections) = true → Keeps h0 h2 (fun _ => False) → Q (.exit 10) (frOf [(1, .iptr c.cells), (134, a134), (135, a135), (136, a136)]) h2) :
    WP Tryd.prog 324 (.loop z4f) (frOf [(1, .iptr c.cells), (12, .int .i64 i), (13, .ptr id 0), (134, a134), (135, a135), (136, a136), (214, slAV 3 z0h.cells c.Sections), (215, .int .i64 (slL c.Sections).length), (216, .int .i64 0)]) h0 Q := by
  have hsec := sm.secs
  obtain ⟨I, hI⟩ : ∃ I : Nat → Fr → z04 → Prop, I = (fun n fr hh => ∃ k : Nat, k ≤ (slL c.Sections).length ∧ n = (slL c.Sections).length - k ∧ upTo (sepP i s) (slL c.Sections) k ∧ Keeps h0 hh (fun _ => False) ∧ fr = frOf [(1, .iptr c.cells), (12, .int .i64 i), (13, .ptr id 0), (134, a134), (135, a135), (136, a136), (214, slAV 3 z0h.cells c.Sections), (215, .int .i64 (slL c.Sections).length), (216, .int .i64 k)]) := ⟨_, rfl⟩
  refine z1c z0l (by kernel_rfl) I (slL c.Sections).length (by rw [hI]; exact ⟨0, by omega, by omega, z2w _ _, .refl _ _, rfl⟩) ?_
  intro n fr hh H
  rw [hI] at H
  obtain ⟨k, hk, rfl, hup, kp, rfl⟩ := H
  apply padlockref09_GoodR_loop37
  (repeat (first | simp -dsimp -implicitDefEqProofs (disch := omega) only [↓rP, rQ, rO, rL, ↓reduceIte, Nat.reduceEqDiff, Nat.reduceAdd, Nat.reduceLeDiff, z01, z05, ↓tyr] | refine Cut.go ?_))
  refine z0e (fun hkl => ?_) (fun hkl => ?_)
  · obtain ⟨o, hx⟩ : ∃ o, (slL c.Sections)[k]? = some o := ⟨_, List.getElem?_eq_getElem (by omega)⟩
    have kp1 := kp.go (Keeps.one hh (.row 71 o.cells))
    have ho2 : (hh.push (.row 71 o.cells)).objs id = some (.row 71 s.cells) := by
      have := kp.next
      simp only [z04.push_objs]
      rw [if_neg (by omega), kp.objs id hid (by simp), ho]
    have ld : ∀ (off : Nat) (q : Option Nat) (K : AV → Prop), z02 q (.ptr id off) (hh.push (.row 71 o.cells)) K = z0b q s.cells off K := fun off q K => z0x ho2 q K
    have no : sepP i s k o = false → Q .ret (frOf [(2, .bool false)]) (hh.push (.row 71 o.cells)) := fun hp => hret _ (z3k hx hp) kp1
    have on : sepP i s k o = true → loopPost I ((slL c.Sections).length - k) Q .normal (frOf [(1, .iptr c.cells), (12, .int .i64 i), (13, .ptr id 0), (134, a134), (135, a135), (136, a136), (214, slAV 3 z0h.cells c.Sections), (215, .int .i64 (slL c.Sections).length), (216, .int .i64 (k + 1 : Nat))]) (hh.push (.row 71 o.cells)) := fun hp => by
      rw [z0a, hI]
      exact ⟨_, by omega, k + 1, by omega, rfl, z2p hup hx hp, kp1, rfl⟩
    have wk := wkS k (by omega)
    have end1 : sepP i s k o = true ∨ sepP i s k o = false := by cases sepP i s k o <;> simp
    have isno : k ≠ i → o.Thread = s.Thread → s.From ≤ o.To → o.From ≤ s.To → sepP i s k o = false := fun a1 a2 a3 a4 => by simp [sepP, meetB, a1, a2, a3, a4]
    have ison : (k = i ∨ o.Thread ≠ s.Thread ∨ o.To < s.From ∨ s.To < o.From) → sepP i s k o = true := fun h => by
      simp only [sepP, meetB, Bool.or_eq_true, decide_eq_true_eq, Bool.not_eq_true', Bool.and_eq_false_iff, decide_eq_false_iff_not]
      omega
    repeat' (first | (simp -dsimp -implicitDefEqProofs (disch := omega) only [↓rP, rQ, rO, rL, ↓reduceIte, Nat.reduceEqDiff, Nat.reduceAdd, Nat.reduceLeDiff, z01, z05, ↓tyr, z0k hx, ↓ld, wk]) | with_reducible refine Cut.go ?_ | with_reducible refine z10 (fun _ => ?_) (fun _ => ?_) | with_reducible refine z11 (fun _ => ?_) (fun _ => ?_) | with_reducible refine z0e (fun _ => ?_) (fun _ => ?_) | with_reducible refine z13 (fun _ => ?_) (fun _ => ?_) | with_reducible refine Split_not ?_)
    all_goals first
      | exact on (ison (by omega))
      | exact no (isno (by omega) (by omega) (by omega) (by omega))
  · have hke : k = (slL c.Sections).length := by omega
    subst hke
    (repeat (first | simp -dsimp -implicitDefEqProofs (disch := omega) only [↓rP, rQ, rO, rL, ↓reduceIte, Nat.reduceEqDiff, Nat.reduceAdd, Nat.reduceLeDiff, z01, z05, ↓tyr] | refine Cut.go ?_))
    exact hex hh (upTo_all hup) kp
theorem g_sections (c : Cd) (sm : Small c) (h0 : z04) (Q : z18 → Fr → z04 → Prop)
    (hret : ∀ h2, allK (secR c) (slL c.Sections) = false → Keeps h0 h2 (fun _ => False) → Q .ret (frOf [(2, .bool false)]) h2)
    (hex : ∀ h2, allK (secR c) (slL c.Sections) = true → Keeps h0 h2 (fun _ => False) → Q (.exit 8) (frOf [(1, .iptr c.cells)]) h2) :
    WP Tryd.prog 324 (.loop z4e) (frOf [(1, .iptr c.cells), (134, slAV 3 z0h.cells c.Sections), (135, .int .i64 (slL c.Sections).length), (136, .int .i64 0)]) h0 Q := by
  have hsec := sm.secs
  obtain ⟨I, hI⟩ : ∃ I : Nat → Fr → z04 → Prop, I = (fun n fr hh => ∃ k : Nat, k ≤ (slL c.Sections).length ∧ n = (slL c.Sections).length - k ∧ upTo (secR c) (slL c.Sections) k ∧ Keeps h0 hh (fun _ => False) ∧ fr = frOf [(1, .iptr c.cells), (134, slAV 3 z0h.cells c.Sections), (135, .int .i64 (slL c.Sections).length), (136, .int .i64 k)]) := ⟨_, rfl⟩
  refine z1c z0l (by kernel_rfl) I (slL c.Sections).length (by rw [hI]; exact ⟨0, by omega, by omega, z2w _ _, .refl _ _, rfl⟩) ?_
  intro n fr hh H
  rw [hI] at H
  obtain ⟨k, hk, rfl, hup, kp, rfl⟩ := H
  apply padlockref09_GoodR_loop29
  (repeat (first | simp -dsimp -implicitDefEqProofs (disch := omega) only [↓rP, rQ, rO, rL, ↓reduceIte, Nat.reduceEqDiff, Nat.reduceAdd, Nat.reduceLeDiff, z01, z05, ↓tyr] | refine Cut.go ?_))
  refine z0e (fun hkl => ?_) (fun hkl => ?_)
  · obtain ⟨s, hx⟩ : ∃ s, (slL c.Sections)[k]? = some s := ⟨_, List.getElem?_eq_getElem (by omega)⟩
    have kp1 := kp.go (Keeps.one hh (.row 71 s.cells))
    have no : endsB c k s = false → Q .ret (frOf [(2, .bool false)]) (hh.push (.row 71 s.cells)) := fun hp => hret _ (z3k hx (by unfold secR; rw [hp]; rfl)) kp1
    (repeat (first | simp -dsimp -implicitDefEqProofs (disch := omega) only [↓rP, rQ, rO, rL, ↓reduceIte, Nat.reduceEqDiff, Nat.reduceAdd, Nat.reduceLeDiff, z01, z05, ↓tyr, z0k hx] | refine Cut.go ?_))
    refine z03.go (z1f _ _ _) ?_
    cases hb : getI (slL c.Threads) s.Thread with
    | none =>
      have hbt := z2n.2 hb
      (repeat (first | simp -dsimp -implicitDefEqProofs (disch := omega) only [↓rP, rQ, rO, rL, ↓reduceIte, Nat.reduceEqDiff, Nat.reduceAdd, Nat.reduceLeDiff, z01, z05, ↓tyr, hbt, Bool.not_false] | refine Cut.go ?_))
      exact no (by simp [endsB, z3z, hb])
    | some b =>
      have hbt := z1r.2 ⟨b, hb⟩
      (repeat (first | simp -dsimp -implicitDefEqProofs (disch := omega) only [↓rP, rQ, rO, rL, ↓reduceIte, Nat.reduceEqDiff, Nat.reduceAdd, Nat.reduceLeDiff, z01, z05, ↓tyr, hbt, Bool.not_true] | refine Cut.go ?_))
      refine z03.go (z1f _ _ _) ?_
      rcases h1 : btw s.From s.To with _ | _
      · (repeat (first | simp -dsimp -implicitDefEqProofs (disch := omega) only [↓rP, rQ, rO, rL, ↓reduceIte, Nat.reduceEqDiff, Nat.reduceAdd, Nat.reduceLeDiff, z01, z05, ↓tyr, hbt, h1, Bool.not_false] | refine Cut.go ?_))
        exact no (by unfold endsB; unfold btw at h1; rw [h1]; rfl)
      have h1' : 0 ≤ s.From ∧ s.From < s.To := by simpa [btw] using h1
      (repeat (first | simp -dsimp -implicitDefEqProofs (disch := omega) only [↓rP, rQ, rO, rL, ↓reduceIte, Nat.reduceEqDiff, Nat.reduceAdd, Nat.reduceLeDiff, z01, z05, ↓tyr, hbt, h1, Bool.not_true, ixI hb] | refine Cut.go ?_))
      refine z03.go (z1f _ _ _) ?_
      rcases h2 : btw s.To (slL b.Code).length with _ | _
      · (repeat (first | simp -dsimp -implicitDefEqProofs (disch := omega) only [↓rP, rQ, rO, rL, ↓reduceIte, Nat.reduceEqDiff, Nat.reduceAdd, Nat.reduceLeDiff, z01, z05, ↓tyr, hbt, h1, h2, Bool.not_false] | refine Cut.go ?_))
        exact no (by simp [endsB, z3z, hb, z5b h2])
      have h2' : 0 ≤ s.To ∧ s.To < (slL b.Code).length := by simpa [btw] using h2
      obtain ⟨x, hxx⟩ : ∃ x, getI (slL b.Code) s.From = some x := z1r.1 (by unfold btw; simp; omega)
      obtain ⟨y, hyy⟩ : ∃ y, getI (slL b.Code) s.To = some y := z1r.1 h2
      (repeat (first | simp -dsimp -implicitDefEqProofs (disch := omega) only [↓rP, rQ, rO, rL, ↓reduceIte, Nat.reduceEqDiff, Nat.reduceAdd, Nat.reduceLeDiff, z01, z05, ↓tyr, hbt, h1, h2, Bool.not_true, ixI hb, ixI hxx, ixI hyy] | refine Cut.go ?_))
      refine z11 (fun h4 => ?_) (fun h4 => ?_)
      · (repeat (first | simp -dsimp -implicitDefEqProofs (disch := omega) only [↓rP, rQ, rO, rL, ↓reduceIte, Nat.reduceEqDiff, Nat.reduceAdd, Nat.reduceLeDiff, z01, z05, ↓tyr] | refine Cut.go ?_))
        exact no (by simp [endsB, z3z, hb, hxx, h4])
      (repeat (first | simp -dsimp -implicitDefEqProofs (disch := omega) only [↓rP, rQ, rO, rL, ↓reduceIte, Nat.reduceEqDiff, Nat.reduceAdd, Nat.reduceLeDiff, z01, z05, ↓tyr, ixI hb, ixI hxx, ixI hyy] | refine Cut.go ?_))
      refine z11 (fun h5 => ?_) (fun h5 => ?_)
      · (repeat (first | simp -dsimp -implicitDefEqProofs (disch := omega) only [↓rP, rQ, rO, rL, ↓reduceIte, Nat.reduceEqDiff, Nat.reduceAdd, Nat.reduceLeDiff, z01, z05, ↓tyr] | refine Cut.go ?_))
        exact no (by simp [endsB, z3z, hb, hxx, h5])
      (repeat (first | simp -dsimp -implicitDefEqProofs (disch := omega) only [↓rP, rQ, rO, rL, ↓reduceIte, Nat.reduceEqDiff, Nat.reduceAdd, Nat.reduceLeDiff, z01, z05, ↓tyr, ixI hb, ixI hxx, ixI hyy] | refine Cut.go ?_))
      refine z11 (fun h6 => ?_) (fun h6 => ?_)
      · (repeat (first | simp -dsimp -implicitDefEqProofs (disch := omega) only [↓rP, rQ, rO, rL, ↓reduceIte, Nat.reduceEqDiff, Nat.reduceAdd, Nat.reduceLeDiff, z01, z05, ↓tyr] | refine Cut.go ?_))
        exact no (by simp [endsB, z3z, hb, hyy, h6])
      (repeat (first | simp -dsimp -implicitDefEqProofs (disch := omega) only [↓rP, rQ, rO, rL, ↓reduceIte, Nat.reduceEqDiff, Nat.reduceAdd, Nat.reduceLeDiff, z01, z05, ↓tyr, ixI hb, ixI hxx, ixI hyy] | refine Cut.go ?_))
      refine z11 (fun h7 => ?_) (fun h7 => ?_)
      · (repeat (first | simp -dsimp -implicitDefEqProofs (disch := omega) only [↓rP, rQ, rO, rL, ↓reduceIte, Nat.reduceEqDiff, Nat.reduceAdd, Nat.reduceLeDiff, z01, z05, ↓tyr] | refine Cut.go ?_))
        exact no (by simp [endsB, z3z, hb, hyy, h7])
      have he : endsB c k s = true := by
        simp only [endsB, z3z, hb, hxx, hyy, h4, h5, h6, h7, decide_true, Bool.and_true, Bool.and_eq_true, decide_eq_true_eq]
        omega
      (repeat (first | simp -dsimp -implicitDefEqProofs (disch := omega) only [↓rP, rQ, rO, rL, ↓reduceIte, Nat.reduceEqDiff, Nat.reduceAdd, Nat.reduceLeDiff, z01, z05, ↓tyr] | refine Cut.go ?_))
      refine g_sep c sm k (by omega) s _ _ _ _ hh.next (by simp) (by simp) _ (fun h3 hg k3 => ?_) (fun h3 hg k3 => ?_)
      · (repeat (first | simp -dsimp -implicitDefEqProofs (disch := omega) only [↓rP, rQ, rO, rL, ↓reduceIte, Nat.reduceEqDiff, Nat.reduceAdd, Nat.reduceLeDiff, z01, z05, ↓tyr] | refine Cut.go ?_))
        exact hret _ (z3k hx (by unfold secR; rw [hg, Bool.and_false])) (kp1.go k3)
      · (repeat (first | simp -dsimp -implicitDefEqProofs (disch := omega) only [↓rP, rQ, rO, rL, ↓reduceIte, Nat.reduceEqDiff, Nat.reduceAdd, Nat.reduceLeDiff, z01, z05, ↓tyr, wkS k (by omega)] | refine Cut.go ?_))
        rw [z0a, hI]
        exact ⟨_, by omega, k + 1, by omega, rfl, z2p hup hx (by unfold secR; rw [hg, he]; rfl), kp1.go k3, rfl⟩
  · have hke : k = (slL c.Sections).length := by omega
    subst hke
    (repeat (first | simp -dsimp -implicitDefEqProofs (disch := omega) only [↓rP, rQ, rO, rL, ↓reduceIte, Nat.reduceEqDiff, Nat.reduceAdd, Nat.reduceLeDiff, z01, z05, ↓tyr] | refine Cut.go ?_))
    exact hex hh (upTo_all hup) kp
theorem g_sites (c : Cd) (sm : Small c) (h0 : z04) (Q : z18 → Fr → z04 → Prop)
    (hret : ∀ h2, allK (siteOk c) (slL c.Sites) = false → Keeps h0 h2 (fun _ => False) → Q .ret (frOf [(2, .bool false)]) h2)
    (hex : ∀ h2, allK (siteOk c) (slL c.Sites) = true → Keeps h0 h2 (fun _ => False) → Q (.exit 12) (frOf [(1, .iptr c.cells)]) h2) :
    WP Tryd.prog 324 (.loop z4g) (frOf [(1, .iptr c.cells), (249, slAV 3 z0z.cells c.Sites), (250, .int .i64 (slL c.Sites).length), (251, .int .i64 0)]) h0 Q := by
  have hsi := sm.sites
  obtain ⟨I, hI⟩ : ∃ I : Nat → Fr → z04 → Prop, I = (fun n fr hh => ∃ k : Nat, k ≤ (slL c.Sites).length ∧ n = (slL c.Sites).length - k ∧ upTo (siteOk c) (slL c.Sites) k ∧ Keeps h0 hh (fun _ => False) ∧ fr = frOf [(1, .iptr c.cells), (249, slAV 3 z0z.cells c.Sites), (250, .int .i64 (slL c.Sites).length), (251, .int .i64 k)]) := ⟨_, rfl⟩
  refine z1c z0l (by kernel_rfl) I (slL c.Sites).length (by rw [hI]; exact ⟨0, by omega, by omega, z2w _ _, .refl _ _, rfl⟩) ?_
  intro n fr hh H
  rw [hI] at H
  obtain ⟨k, hk, rfl, hup, kp, rfl⟩ := H
  apply padlockref09_GoodR_loop44
  (repeat (first | simp -dsimp -implicitDefEqProofs (disch := omega) only [↓rP, rQ, rO, rL, ↓reduceIte, Nat.reduceEqDiff, Nat.reduceAdd, Nat.reduceLeDiff, z01, z05, ↓tyr] | refine Cut.go ?_))
  refine z0e (fun hkl => ?_) (fun hkl => ?_)
  · obtain ⟨s, hx⟩ : ∃ s, (slL c.Sites)[k]? = some s := ⟨_, List.getElem?_eq_getElem (by omega)⟩
    have kp1 := kp.go (Keeps.one hh (.row 54 s.cells))
    have no : siteOk c k s = false → Q .ret (frOf [(2, .bool false)]) (hh.push (.row 54 s.cells)) := fun hp => hret _ (z3k hx hp) kp1
    (repeat (first | simp -dsimp -implicitDefEqProofs (disch := omega) only [↓rP, rQ, rO, rL, ↓reduceIte, Nat.reduceEqDiff, Nat.reduceAdd, Nat.reduceLeDiff, z01, z05, ↓tyr, z0k hx] | refine Cut.go ?_))
    refine z03.go (z1f _ _ _) ?_
    cases hb : getI (slL c.Threads) s.Thread with
    | none =>
      have hbt := z2n.2 hb
      (repeat (first | simp -dsimp -implicitDefEqProofs (disch := omega) only [↓rP, rQ, rO, rL, ↓reduceIte, Nat.reduceEqDiff, Nat.reduceAdd, Nat.reduceLeDiff, z01, z05, ↓tyr, hbt, Bool.not_false] | refine Cut.go ?_))
      exact no (by simp [siteOk, z3z, hb])
    | some b =>
      have hbt := z1r.2 ⟨b, hb⟩
      (repeat (first | simp -dsimp -implicitDefEqProofs (disch := omega) only [↓rP, rQ, rO, rL, ↓reduceIte, Nat.reduceEqDiff, Nat.reduceAdd, Nat.reduceLeDiff, z01, z05, ↓tyr, hbt, ixI hb, Bool.not_true] | refine Cut.go ?_))
      refine z03.go (z1f _ _ _) ?_
      cases hx2 : getI (slL b.Code) s.At with
      | none =>
        have hbt2 := z2n.2 hx2
        (repeat (first | simp -dsimp -implicitDefEqProofs (disch := omega) only [↓rP, rQ, rO, rL, ↓reduceIte, Nat.reduceEqDiff, Nat.reduceAdd, Nat.reduceLeDiff, z01, z05, ↓tyr, hbt, hbt2, Bool.not_false] | refine Cut.go ?_))
        exact no (by simp [siteOk, z3z, hb, hx2])
      | some x =>
        have hbt2 := z1r.2 ⟨x, hx2⟩
        have kp2 := kp1.go (Keeps.one _ (.row 58 x.cells))
        have ho2 : ∀ o, ((hh.push (.row 54 s.cells)).push o).objs hh.next = some (.row 54 s.cells) := fun o => by simp
        have ld : ∀ (o : AObj) (off : Nat) (q : Option Nat) (K : AV → Prop), z02 q (.ptr hh.next off) ((hh.push (.row 54 s.cells)).push o) K = z0b q s.cells off K := fun o off q K => z0x (ho2 o) q K
        have no2 : siteOk c k s = false → Q .ret (frOf [(2, .bool false)]) ((hh.push (.row 54 s.cells)).push (.row 58 x.cells)) := fun hp => hret _ (z3k hx hp) kp2
        have on : siteOk c k s = true → loopPost I ((slL c.Sites).length - k) Q .normal (frOf [(1, .iptr c.cells), (249, slAV 3 z0z.cells c.Sites), (250, .int .i64 (slL c.Sites).length), (251, .int .i64 (k + 1 : Nat))]) ((hh.push (.row 54 s.cells)).push (.row 58 x.cells)) := fun hm => by
          rw [z0a, hI]
          exact ⟨_, by omega, k + 1, by omega, rfl, z2p hup hx hm, kp2, rfl⟩
        repeat' (first | (simp -dsimp -implicitDefEqProofs (disch := omega) only [↓rP, rQ, rO, rL, ↓reduceIte, Nat.reduceEqDiff, Nat.reduceAdd, Nat.reduceLeDiff, z01, z05, ↓tyr, hbt, hbt2, ixI hb, ixI hx2, ↓ld, wkS k (by omega), Bool.not_true]) | refine Cut.go ?_ | refine z10 (fun _ => ?_) (fun _ => ?_) | refine z11 (fun _ => ?_) (fun _ => ?_) | refine z0e (fun _ => ?_) (fun _ => ?_) | refine z13 (fun _ => ?_) (fun _ => ?_) | refine Split.intro (fun _ => ?_) (fun _ => ?_))
        all_goals first
          | exact on (by simp [siteOk, z3z, hb, hx2, *]; try omega)
          | exact no2 (by simp [siteOk, z3z, hb, hx2, *]; try omega)
  · have hke : k = (slL c.Sites).length := by omega
    subst hke
    (repeat (first | simp -dsimp -implicitDefEqProofs (disch := omega) only [↓rP, rQ, rO, rL, ↓reduceIte, Nat.reduceEqDiff, Nat.reduceAdd, Nat.reduceLeDiff, z01, z05, ↓tyr] | refine Cut.go ?_))
    exact hex hh (upTo_all hup) kp
end Go.Proofs.YtopfjochppdnfaaDoor
end

section
/- Which codes can be: the program, of small codes. -/
set_option maxRecDepth 100000
set_option maxHeartbeats 1000000
namespace Go.Proofs.YtopfjochppdnfaaDoor
open Go.Abs
theorem fits_isl (sz : Nat) (es : List (List AV)) : (AV.isl sz es).fits = true := rfl
theorem cells_isl (sz : Nat) (es : List (List AV)) : (AV.isl sz es).cells = [AV.isl sz es] := rfl
theorem bsl_one (e : TypeId) (sz by_ : Nat) (z cs : List AV) (h : z04) (K : AV → z04 → Prop) : z1a true { e := e, sz := sz, by_ := by_ } z 1 [(0, .agg cs)] h K = (sz ≤ 16777216 ∧ z.length = sz ∧ cs.length = sz ∧ K (.isl sz [cs]) h) := by
  simp [z1a, fillE, AV.fits, AV.cells]
  by_cases hc : cs.length = sz <;> simp [hc]
theorem bsl_two (e : TypeId) (sz by_ : Nat) (z cs ds : List AV) (h : z04) (K : AV → z04 → Prop) : z1a true { e := e, sz := sz, by_ := by_ } z 2 [(0, .agg cs), (1, .agg ds)] h K = (2 * sz ≤ 16777216 ∧ z.length = sz ∧ cs.length = sz ∧ ds.length = sz ∧ K (.isl sz [cs, ds]) h) := by
  simp [z1a, fillE, AV.fits, AV.cells]
  by_cases hc : cs.length = sz <;> by_cases hd : ds.length = sz <;> simp [hc, hd, List.replicate]
theorem code_Good_p (c : Cd) (hc : c.ok) (hs : (slL c.Sections).length ≤ 1000000) (hsi : (slL c.Sites).length ≤ 1000000) (hg : (slL c.Globals).length ≤ 1000000) (hr : ∀ r ∈ slL c.Records, (slL r).length ≤ 1000000) (h : z04) : z03 Tryd.prog 34 [.agg c.cells] h (fun v h2 => v = .bool (okC c) ∧ h2 = h) := z03.forget (by simp [z3b]) (code_Good_does c hc hs hsi hg hr h)
theorem code_Good_s (c : Cd) (hc : c.ok) (s : Small c) (h : z04) : z03 Tryd.prog 34 [.agg c.cells] h (fun v h2 => v = .bool (okC c) ∧ h2 = h) := code_Good_p c hc (by have := s.secs; omega) (by have := s.sites; omega) (by have := s.globs; omega) (fun r hr => by have := s.fields r hr; omega) h
end Go.Proofs.YtopfjochppdnfaaDoor
end

