/- Own texts, merged: PathIsDoes, PathSlotsDoes, PathKeepsDoes, PathSameDoes. -/
import Derived.Test.YtnggcokgnblpgaaM9
set_option linter.unusedVariables false
set_option linter.unusedSimpArgs false
section
/- Of answers what the document says. -/
set_option maxRecDepth 8000
set_option maxHeartbeats 1000000
namespace Go.Proofs.Ytnggcokgnblpgaa
open Go.Abs
theorem pathO_len (c : Cd) (sm : Small c) (s : Int) : (slL (pathO c s)).length ≤ 300 := by
  unfold pathO
  split
  · split
    · split
      · rename_i b hb
        have := sm.slots b (z3b hb)
        unfold pathL
        simp; omega
      · simp
    · simp
  · simp
theorem pathO_FL (c : Cd) (s : Int) : ∀ v ∈ slL (pathO c s), (slL v.Path.Fields).length ≤ 3 := by
  intro v hv
  unfold pathO at hv
  split at hv
  · split at hv
    · split at hv
      · unfold pathL at hv
        simp only [slL_some, List.mem_map] at hv
        obtain ⟨k, _, rfl⟩ := hv
        exact ofV_FL _ _ _ _
      · simp at hv
    · simp at hv
  · simp at hv
theorem PathIs_does (c : Cd) (hc : c.ok) (s : Int) (h : z04) : z03 Try.prog 3 [.agg c.cells, .int .i64 s] h (fun v h2 => v = .bool true) := by
  have lc : ∀ (H : z04) (K : AV → Prop), z02 (some 5) (.iptr c.cells) H K = K (.agg c.cells) := fun H K => by rw [z2j]; exact z0n.call c K
  apply padlocklaw13_PathIs_wp
  (repeat simp -dsimp -implicitDefEqProofs (disch := omega) only [↓rP, rQ, rO, rL, ↓reduceIte, Nat.reduceEqDiff, Nat.reduceAdd, Nat.reduceLeDiff, z01, z05, ↓tyr, ↓lc])
  refine z03.go (alive13_does _) ?_
  (repeat simp -dsimp -implicitDefEqProofs (disch := omega) only [↓rP, rQ, rO, rL, ↓reduceIte, Nat.reduceEqDiff, Nat.reduceAdd, Nat.reduceLeDiff, z01, z05, ↓tyr, ↓lc])
  refine z03.go (ref_Great_does c hc _) ?_
  cases hg : greatB c with
  | true => (repeat simp -dsimp -implicitDefEqProofs (disch := omega) only [↓rP, rQ, rO, rL, ↓reduceIte, Nat.reduceEqDiff, Nat.reduceAdd, Nat.reduceLeDiff, z01, z05, ↓tyr])
  | false =>
    have sm := small_of hg
    (repeat simp -dsimp -implicitDefEqProofs (disch := omega) only [↓rP, rQ, rO, rL, ↓reduceIte, Nat.reduceEqDiff, Nat.reduceAdd, Nat.reduceLeDiff, z01, z05, ↓tyr, ↓lc])
    refine z03.go (Of_does c hc sm s _) ?_
    (repeat simp -dsimp -implicitDefEqProofs (disch := omega) only [↓rP, rQ, rO, rL, ↓reduceIte, Nat.reduceEqDiff, Nat.reduceAdd, Nat.reduceLeDiff, z01, z05, ↓tyr, ↓lc])
    refine (rOf_does c hc sm s _).mono ?_
    rintro _ _ ⟨⟨o, rfl, ho⟩, rfl⟩
    (repeat simp -dsimp -implicitDefEqProofs (disch := omega) only [↓rP, rQ, rO, rL, ↓reduceIte, Nat.reduceEqDiff, Nat.reduceAdd, Nat.reduceLeDiff, z01, z05, ↓tyr])
    have hl := pathO_len c sm s
    refine z03.go (Same_does (pathO c s) o (by omega) (fun v hv => by have := pathO_FL c s v hv; omega) _) ?_
    rw [ho, sameVs_self]
    (repeat simp -dsimp -implicitDefEqProofs (disch := omega) only [↓rP, rQ, rO, rL, ↓reduceIte, Nat.reduceEqDiff, Nat.reduceAdd, Nat.reduceLeDiff, z01, z05, ↓tyr])
end Go.Proofs.Ytnggcokgnblpgaa
end

section
/- A slot that gets no value in a section is come to by itself; one that gets several, or isn't given once, isn't known. -/
set_option maxRecDepth 8000
set_option maxHeartbeats 1000000
namespace Go.Proofs.Ytnggcokgnblpgaa
open Go.Abs
theorem ofV_step (L : List In) (on : Int → Bool) (f : Nat) : ∃ G, ofV L on f = z4f L on G := by
  cases f with
  | zero => exact ⟨_, rfl⟩
  | succ f => exact ⟨_, rfl⟩
theorem ofV_nil {L : List In} {on : Int → Bool} {f : Nat} {k : Int} (h : byS L k = []) : ofV L on f k = vWay false k := by
  obtain ⟨G, e⟩ := ofV_step L on f
  rw [e]; unfold z4f; rw [h]
theorem ofV_two {L : List In} {on : Int → Bool} {f : Nat} {k : Int} (h : 1 < (byS L k).length) : ofV L on f k = vUnk := by
  obtain ⟨G, e⟩ := ofV_step L on f
  rw [e]; unfold z4f
  split
  · rename_i e2; rw [e2] at h; simp at h
  · rename_i e2; rw [e2] at h; simp at h
  · rfl
theorem ofV_off {L : List In} {on : Int → Bool} {f : Nat} {k : Int} (h : 1 ≤ (byS L k).length) (ho : on k = false) : ofV L on f k = vUnk := by
  obtain ⟨G, e⟩ := ofV_step L on f
  rw [e]; unfold z4f
  split
  · rename_i e2; rw [e2] at h; simp at h
  · rw [ho]; rfl
  · rfl
theorem slots_14 {L : List In} (hL : L.length ≤ 1000) (k : Nat) (A1 A2 A6 A8 A51 A52 A53 : AV) (h : z04) (Q : z1j → Fr → z04 → Prop)
    (hQ : ∀ hh, Keeps h hh (fun _ => False) → Q (.exit 2) (frOf [(1, A1), (2, A2), (6, A6), (7, .int .i64 (k : Nat)), (8, A8), (9, .int .i64 (wrW L (k : Nat) : Nat)), (51, A51), (52, A52), (53, A53)]) hh) :
    WP Try.prog 108 (.loop z3h) (frOf [(1, A1), (2, A2), (6, A6), (7, .int .i64 (k : Nat)), (8, A8), (9, .int .i64 0), (51, A51), (52, A52), (53, A53), (60, slAV 8 z0b.cells (some L)), (61, .int .i64 L.length), (62, .int .i64 0)]) h Q := by
  obtain ⟨I, hI⟩ : ∃ I : Nat → Fr → z04 → Prop, I = (fun m fr hh => ∃ j : Nat, m = L.length - j ∧ j ≤ L.length ∧ Keeps h hh (fun _ => False) ∧ fr = frOf [(1, A1), (2, A2), (6, A6), (7, .int .i64 (k : Nat)), (8, A8), (9, .int .i64 (wrW (L.take j) (k : Nat) : Nat)), (51, A51), (52, A52), (53, A53), (60, slAV 8 z0b.cells (some L)), (61, .int .i64 L.length), (62, .int .i64 j)]) := ⟨_, rfl⟩
  refine z1u z0v (by kernel_rfl) I L.length (by rw [hI]; exact ⟨0, rfl, Nat.zero_le _, .refl _ _, rfl⟩) ?_
  intro m fr hh hi
  rw [hI] at hi
  obtain ⟨j, rfl, hj, kp, rfl⟩ := hi
  apply padlocklaw13_PathSlots_loop14
  (repeat simp -dsimp -implicitDefEqProofs (disch := omega) only [↓rP, rQ, rO, rL, ↓reduceIte, Nat.reduceEqDiff, Nat.reduceAdd, Nat.reduceLeDiff, z01, z05, ↓tyr])
  refine z0i (fun hjl => ?_) (fun hjl => ?_)
  · obtain ⟨x, hx⟩ : ∃ x, L[j]? = some x := ⟨_, List.getElem?_eq_getElem (by omega)⟩
    have hx' : (slL (some L))[j]? = some x := hx
    have tk : L.take (j + 1) = L.take j ++ [x] := by rw [List.take_add_one, hx]; rfl
    have ws := wrW_snoc (L.take j) x (k : Nat)
    rw [← tk] at ws
    have wl : wrW (L.take j) (k : Nat) ≤ 1000 := Nat.le_trans (wrW_le _ _) (by rw [List.length_take]; omega)
    (repeat simp -dsimp -implicitDefEqProofs (disch := omega) only [↓rP, rQ, rO, rL, ↓reduceIte, Nat.reduceEqDiff, Nat.reduceAdd, Nat.reduceLeDiff, z01, z05, ↓tyr, z0d hx'])
    refine z03.go (Dst_does x _) ?_
    have kH := kp.pushS (.row 45 x.cells)
    by_cases hd : dstI x = k
    · have ed : (dstI x == k) = true := by simpa using hd
      rw [if_pos hd] at ws
      (repeat simp -dsimp -implicitDefEqProofs (disch := omega) only [↓rP, rQ, rO, rL, ↓reduceIte, Nat.reduceEqDiff, Nat.reduceAdd, Nat.reduceLeDiff, z01, z05, ↓tyr, ed, wkP (wrW (L.take j) (k : Nat)) (by omega), wkP j (by omega)])
      rw [z0a, hI]
      exact ⟨_, by omega, j + 1, rfl, by omega, kH, by rw [ws]⟩
    · have ed : (dstI x == k) = false := by simpa using hd
      simp only [if_neg hd, Nat.add_zero] at ws
      (repeat simp -dsimp -implicitDefEqProofs (disch := omega) only [↓rP, rQ, rO, rL, ↓reduceIte, Nat.reduceEqDiff, Nat.reduceAdd, Nat.reduceLeDiff, z01, z05, ↓tyr, ed, wkP j (by omega)])
      rw [z0a, hI]
      exact ⟨_, by omega, j + 1, rfl, by omega, kH, by rw [ws]⟩
  · (repeat simp -dsimp -implicitDefEqProofs (disch := omega) only [↓rP, rQ, rO, rL, ↓reduceIte, Nat.reduceEqDiff, Nat.reduceAdd, Nat.reduceLeDiff, z01, z05, ↓tyr])
    have e : j = L.length := by omega
    subst e
    rw [List.take_length]
    exact hQ hh kp
theorem slots_10 {c : Cd} (hok : okC c = true) {s : Nat} {sec : z0e} (hs : (slL c.Sections)[s]? = some sec) {t fr to : Nat} {b : Bd} (S : SecAt c sec t b fr to) (h : z04) (Q : z1j → Fr → z04 → Prop)
    (hQ : ∀ hh, Q (.exit 0) (frOf []) hh) :
    WP Try.prog 108 (.loop z3g) (frOf [(1, .int .i64 (s : Nat)), (2, .iptr c.cells), (6, slAV 3 z0f.cells b.Slots), (51, slAV 4 z0l.cells (some (pathL b (secL b fr to)))), (52, .int .i64 (slL b.Slots).length), (53, .int .i64 0)]) h Q := by
  have wc := wf_of hok
  have hsl := wc.slo t b S.bd
  have hL := secL_len b fr to
  obtain ⟨L, eL⟩ : ∃ L, L = secL b fr to := ⟨_, rfl⟩
  rw [← eL]
  have lc : ∀ (H : z04) (K : AV → Prop), z02 (some 5) (.iptr c.cells) H K = K (.agg c.cells) := fun H K => by rw [z2j]; exact z0n.call c K
  obtain ⟨I, hI⟩ : ∃ I : Nat → Fr → z04 → Prop, I = (fun m fr' hh => ∃ j : Nat, m = (slL b.Slots).length - j ∧ j ≤ (slL b.Slots).length ∧ fr' = frOf [(1, .int .i64 (s : Nat)), (2, .iptr c.cells), (6, slAV 3 z0f.cells b.Slots), (51, slAV 4 z0l.cells (some (pathL b L))), (52, .int .i64 (slL b.Slots).length), (53, .int .i64 j)]) := ⟨_, rfl⟩
  refine z1u z0v (by kernel_rfl) I (slL b.Slots).length (by rw [hI]; exact ⟨0, rfl, Nat.zero_le _, rfl⟩) ?_
  intro m fr' hh hi
  rw [hI] at hi
  obtain ⟨j, rfl, hj, rfl⟩ := hi
  apply padlocklaw13_PathSlots_loop10
  (repeat simp -dsimp -implicitDefEqProofs (disch := omega) only [↓rP, rQ, rO, rL, ↓reduceIte, Nat.reduceEqDiff, Nat.reduceAdd, Nat.reduceLeDiff, z01, z05, ↓tyr])
  refine z0i (fun hjl => ?_) (fun hjl => ?_)
  · have hjn : j < (slL b.Slots).length := by omega
    obtain ⟨lo, hlo⟩ : ∃ lo, (slL b.Slots)[j]? = some lo := ⟨_, List.getElem?_eq_getElem hjn⟩
    obtain ⟨v, ev⟩ : ∃ v, v = ofV L (onB b) (slL b.Slots).length (j : Nat) := ⟨_, rfl⟩
    have hv : (slL (some (pathL b L)))[j]? = some v := by
      simp only [slL_some, pathL, List.getElem?_map, List.getElem?_range hjn, Option.map_some, ev]
    obtain ⟨H, hH⟩ : ∃ H, H = hh.push (.row 41 v.cells) := ⟨_, rfl⟩
    have ob : H.objs hh.next = some (.row 41 v.cells) := by rw [hH]; exact z2h _ _
    have hlt : hh.next < H.next := by rw [hH]; exact Nat.lt_succ_self _
    have lL : ∀ (J : AV → Prop), pLen .slice (slAV 8 z0b.cells (some L)) J = J (.int .i64 L.length) := fun J => by simp
    (repeat simp -dsimp -implicitDefEqProofs (disch := omega) only [↓rP, rQ, rO, rL, ↓reduceIte, Nat.reduceEqDiff, Nat.reduceAdd, Nat.reduceLeDiff, z01, z05, ↓tyr, z0d hv, ↓lc])
    refine z03.go (List_does wc hs S _) ?_
    rw [← hH, ← eL]
    (repeat simp -dsimp -implicitDefEqProofs (disch := omega) only [↓rP, rQ, rO, rL, ↓reduceIte, Nat.reduceEqDiff, Nat.reduceAdd, Nat.reduceLeDiff, z01, z05, ↓tyr, ↓lL])
    refine slots_14 (by rw [eL]; omega) j _ _ _ _ _ _ _ _ _ ?_
    intro h2 k2
    have ob2 : h2.objs hh.next = some (.row 41 v.cells) := by rw [k2.objs _ hlt (by simp)]; exact ob
    have g0 : ∀ J : AV → Prop, z02 none (.ptr hh.next 0) h2 J = J (.int .i64 v.Kind) := fun J => by rw [z0o ob2]; rfl
    have gp : ∀ J : AV → Prop, z02 (some 3) (.ptr hh.next 1) h2 J = J (.agg v.Path.cells) := fun J => by rw [z0o ob2]; simp [z0h, z0l.cells, z0w.cells]
    have next : ∀ hh2, I ((slL b.Slots).length - (j + 1)) (frOf [(1, .int .i64 (s : Nat)), (2, .iptr c.cells), (6, slAV 3 z0f.cells b.Slots), (51, slAV 4 z0l.cells (some (pathL b L))), (52, .int .i64 (slL b.Slots).length), (53, .int .i64 ((j + 1 : Nat) : Int))]) hh2 := fun hh2 => by
      rw [hI]; exact ⟨j + 1, rfl, by omega, rfl⟩
    have bp : ∀ J : AV → Prop, z01 [(0, 1), (1, 1), (2, 1)] [AV.bool false, AV.int .i64 0, AV.nils] [(1, .int .i64 (j : Nat))] J = J (.agg (z0w.cells ⟨false, (j : Nat), none⟩)) := fun J => rfl
    by_cases h0 : wrW L (j : Nat) = 0
    · have e0 : (((wrW L (j : Nat) : Nat) : Int) == 0) = true := by simp [h0]
      have e1 : decide ((1 : Int) < ((wrW L (j : Nat) : Nat) : Int)) = false := by simp; omega
      have e2 : (((wrW L (j : Nat) : Nat) : Int) == 1) = false := by simp; omega
      have hvw : v = vWay false (j : Nat) := by rw [ev]; exact ofV_nil (List.length_eq_zero_iff.1 h0)
      have ek : (v.Kind != 2) = false := by rw [hvw]; rfl
      (repeat simp -dsimp -implicitDefEqProofs (disch := omega) only [↓rP, rQ, rO, rL, ↓reduceIte, Nat.reduceEqDiff, Nat.reduceAdd, Nat.reduceLeDiff, z01, z05, ↓tyr, e0, g0, ek, ↓gp, ↓bp])
      refine z03.go (pathSame_does v.Path ⟨false, (j : Nat), none⟩ (by rw [hvw]; simp [vWay]) _) ?_
      have es : sameP v.Path ⟨false, (j : Nat), none⟩ = true := by rw [hvw]; simp [sameP, vWay]
      rw [es]
      (repeat simp -dsimp -implicitDefEqProofs (disch := omega) only [↓rP, rQ, rO, rL, ↓reduceIte, Nat.reduceEqDiff, Nat.reduceAdd, Nat.reduceLeDiff, z01, z05, ↓tyr, e1, e2, wkP j (by omega)])
      rw [z0a]
      exact ⟨(slL b.Slots).length - (j + 1), by omega, next _⟩
    · have e0 : (((wrW L (j : Nat) : Nat) : Int) == 0) = false := by simp; omega
      by_cases h1 : 1 < wrW L (j : Nat)
      · have e1 : decide ((1 : Int) < ((wrW L (j : Nat) : Nat) : Int)) = true := by simp; omega
        have hvu : v = vUnk := by rw [ev]; exact ofV_two h1
        have ek : (v.Kind != 0) = false := by rw [hvu]; rfl
        (repeat simp -dsimp -implicitDefEqProofs (disch := omega) only [↓rP, rQ, rO, rL, ↓reduceIte, Nat.reduceEqDiff, Nat.reduceAdd, Nat.reduceLeDiff, z01, z05, ↓tyr, e0, e1, g0, ek, wkP j (by omega)])
        rw [z0a]
        exact ⟨(slL b.Slots).length - (j + 1), by omega, next _⟩
      · have e1 : decide ((1 : Int) < ((wrW L (j : Nat) : Nat) : Int)) = false := by simp; omega
        have e2 : (((wrW L (j : Nat) : Nat) : Int) == 1) = true := by simp; omega
        cases hon : lo.Once with
        | true =>
          (repeat simp -dsimp -implicitDefEqProofs (disch := omega) only [↓rP, rQ, rO, rL, ↓reduceIte, Nat.reduceEqDiff, Nat.reduceAdd, Nat.reduceLeDiff, z01, z05, ↓tyr, e0, e1, e2, z0d hlo, hon, wkP j (by omega)])
          rw [z0a]
          exact ⟨(slL b.Slots).length - (j + 1), by omega, next _⟩
        | false =>
          have hvu : v = vUnk := by rw [ev]; exact ofV_off (by have : wrW L (j : Nat) = (byS L (j : Nat)).length := rfl; omega) (by rw [on_at hlo]; exact hon)
          have ek : (v.Kind != 0) = false := by rw [hvu]; rfl
          (repeat simp -dsimp -implicitDefEqProofs (disch := omega) only [↓rP, rQ, rO, rL, ↓reduceIte, Nat.reduceEqDiff, Nat.reduceAdd, Nat.reduceLeDiff, z01, z05, ↓tyr, e0, e1, e2, z0d hlo, hon, g0, ek, wkP j (by omega)])
          rw [z0a]
          exact ⟨(slL b.Slots).length - (j + 1), by omega, next _⟩
  · (repeat simp -dsimp -implicitDefEqProofs (disch := omega) only [↓rP, rQ, rO, rL, ↓reduceIte, Nat.reduceEqDiff, Nat.reduceAdd, Nat.reduceLeDiff, z01, z05, ↓tyr])
    exact hQ hh
theorem PathSlots_does (c : Cd) (hc : c.ok) (s : Int) (h : z04) : z03 Try.prog 6 [.agg c.cells, .int .i64 s] h (fun v h2 => v = .bool true) := by
  have lc : ∀ (H : z04) (K : AV → Prop), z02 (some 5) (.iptr c.cells) H K = K (.agg c.cells) := fun H K => by rw [z2j]; exact z0n.call c K
  apply padlocklaw13_PathSlots_wp
  (repeat simp -dsimp -implicitDefEqProofs (disch := omega) only [↓rP, rQ, rO, rL, ↓reduceIte, Nat.reduceEqDiff, Nat.reduceAdd, Nat.reduceLeDiff, z01, z05, ↓tyr, ↓lc])
  refine z03.go (alive13_does _) ?_
  (repeat simp -dsimp -implicitDefEqProofs (disch := omega) only [↓rP, rQ, rO, rL, ↓reduceIte, Nat.reduceEqDiff, Nat.reduceAdd, Nat.reduceLeDiff, z01, z05, ↓tyr, ↓lc])
  refine z03.go (ref_Great_does c hc _) ?_
  cases hg : greatB c with
  | true => (repeat simp -dsimp -implicitDefEqProofs (disch := omega) only [↓rP, rQ, rO, rL, ↓reduceIte, Nat.reduceEqDiff, Nat.reduceAdd, Nat.reduceLeDiff, z01, z05, ↓tyr])
  | false =>
    have sm := small_of hg
    (repeat simp -dsimp -implicitDefEqProofs (disch := omega) only [↓rP, rQ, rO, rL, ↓reduceIte, Nat.reduceEqDiff, Nat.reduceAdd, Nat.reduceLeDiff, z01, z05, ↓tyr, ↓lc])
    refine z03.go (ref_Good_c c hc sm _) ?_
    cases hok : okC c with
    | false => (repeat simp -dsimp -implicitDefEqProofs (disch := omega) only [↓rP, rQ, rO, rL, ↓reduceIte, Nat.reduceEqDiff, Nat.reduceAdd, Nat.reduceLeDiff, z01, z05, ↓tyr])
    | true =>
      have wc := wf_of hok
      by_cases h0 : s < 0
      · have e0 : decide (s < 0) = true := decide_eq_true h0
        (repeat simp -dsimp -implicitDefEqProofs (disch := omega) only [↓rP, rQ, rO, rL, ↓reduceIte, Nat.reduceEqDiff, Nat.reduceAdd, Nat.reduceLeDiff, z01, z05, ↓tyr, e0])
      have e0 : decide (s < 0) = false := decide_eq_false h0
      by_cases h1 : (slL c.Sections).length ≤ s
      · have e1 : decide (((slL c.Sections).length : Int) ≤ s) = true := decide_eq_true h1
        (repeat simp -dsimp -implicitDefEqProofs (disch := omega) only [↓rP, rQ, rO, rL, ↓reduceIte, Nat.reduceEqDiff, Nat.reduceAdd, Nat.reduceLeDiff, z01, z05, ↓tyr, e0, e1])
      have e1 : decide (((slL c.Sections).length : Int) ≤ s) = false := decide_eq_false h1
      obtain ⟨k, rfl⟩ : ∃ k : Nat, s = k := ⟨s.toNat, by omega⟩
      obtain ⟨sec, hs⟩ : ∃ sec, (slL c.Sections)[k]? = some sec := ⟨_, List.getElem?_eq_getElem (by omega)⟩
      obtain ⟨t, b, fr, to, S⟩ := sec_of hok hs
      (repeat simp -dsimp -implicitDefEqProofs (disch := omega) only [↓rP, rQ, rO, rL, ↓reduceIte, Nat.reduceEqDiff, Nat.reduceAdd, Nat.reduceLeDiff, z01, z05, ↓tyr, e0, e1, ↓lc])
      refine z03.go (Of_does c hc sm (k : Nat) _) ?_
      rw [pathO_some hok hs S]
      have pl : ∀ J : AV → Prop, pLen .slice (slAV 4 z0l.cells (some (pathL b (secL b fr to)))) J = J (.int .i64 (slL b.Slots).length) := fun J => by simp [pathL]
      have dn : (((slL b.Slots).length : Int) != ((slL b.Slots).length : Int)) = false := by simp
      (repeat simp -dsimp -implicitDefEqProofs (disch := omega) only [↓rP, rQ, rO, rL, ↓reduceIte, Nat.reduceEqDiff, Nat.reduceAdd, Nat.reduceLeDiff, z01, z05, ↓tyr, z0d hs, S.thr, z0d S.bd, ↓pl, dn])
      refine slots_10 hok hs S _ _ (fun hh => ?_)
      (repeat simp -dsimp -implicitDefEqProofs (disch := omega) only [↓rP, rQ, rO, rL, ↓reduceIte, Nat.reduceEqDiff, Nat.reduceAdd, Nat.reduceLeDiff, z01, z05, ↓tyr])
end Go.Proofs.Ytnggcokgnblpgaa
end

section
/- What a path goes by isn't stored in the section. -/
set_option maxRecDepth 8000
set_option maxHeartbeats 1000000
namespace Go.Proofs.Ytnggcokgnblpgaa
open Go.Abs
def GoodV (L : List In) (v : Vl) : Prop := (v.Kind ≠ 2 → v.Path = ⟨false, 0, none⟩) ∧ (v.Kind = 2 → (v.Path.Global = true → storeG L v.Path.N = false) ∧ (v.Path.Global = false → byS L v.Path.N = []))
theorem good_unk (L : List In) : GoodV L vUnk := ⟨fun _ => rfl, fun h => by cases h⟩
theorem good_gives {L : List In} {K : Int → Vl} (hK : ∀ k, GoodV L (K k)) (x : In) : GoodV L (z1w L K x) := by
  unfold z1w
  split
  · exact ⟨fun _ => rfl, fun h => by cases h⟩
  · split
    · unfold itemV
      split
      · split
        · exact hK _
        · exact good_unk L
      · exact good_unk L
    · split
      · split
        · exact good_unk L
        · rename_i hs
          exact ⟨fun h => absurd rfl h, fun _ => ⟨fun _ => by simpa [vWay] using hs, fun h => by simp [vWay] at h⟩⟩
      · split
        · split
          · rename_i hc
            exact ⟨fun h => absurd rfl h, fun _ => (hK x.Src).2 hc.1⟩
          · exact good_unk L
        · exact good_unk L
theorem good_ofV (L : List In) (on : Int → Bool) : ∀ f k, GoodV L (ofV L on f k) := by
  have st : ∀ G : In → Vl, (∀ x, GoodV L (G x)) → ∀ k, GoodV L (z4f L on G k) := fun G hG k => by
    unfold z4f
    split
    · rename_i hb
      exact ⟨fun h => absurd rfl h, fun _ => ⟨fun h => by simp [vWay] at h, fun _ => hb⟩⟩
    · split
      · exact hG _
      · exact good_unk L
    · exact good_unk L
  intro f
  induction f with
  | zero => exact st _ (fun x => good_unk L)
  | succ f ih => exact st _ (good_gives ih)
theorem load_ofV {L : List In} {on : Int → Bool} {f : Nat} {k : Int} {x : In} (hx : x ∈ L) (hd : dstI x = k) (h3 : x.Op = 3) (h2 : (ofV L on f k).Kind = 2) : storeF L x.Rec x.N = false ∧ ∃ l, slL (ofV L on f k).Path.Fields = l ++ [x.N] := by
  have hb : x ∈ byS L k := List.mem_filter.2 ⟨hx, by simp [hd]⟩
  by_cases h1 : 1 < (byS L k).length
  · rw [ofV_two h1] at h2; cases h2
  have hb1 : byS L k = [x] := by
    match hl : byS L k, hb, h1 with
    | [y], hb, _ => rw [List.mem_singleton.1 hb]
    | y :: z :: l, _, h1 => simp at h1
  cases f with
  | zero =>
    have : ofV L on 0 k = vUnk := by
      show z4f L on (fun _ => vUnk) k = vUnk
      unfold z4f; rw [hb1]; simp only; split <;> rfl
    rw [this] at h2; cases h2
  | succ f =>
    have he : ofV L on (f + 1) k = if on k = true then z1w L (ofV L on f) x else vUnk := by
      show z4f L on (fun x => z1w L (ofV L on f) x) k = _
      unfold z4f; rw [hb1]
    rw [he] at h2 ⊢
    by_cases ho : on k = true
    · rw [if_pos ho] at h2 ⊢
      unfold z1w at h2 ⊢
      rw [if_neg (by omega), if_neg (by omega), if_neg (by omega), if_pos h3] at h2 ⊢
      by_cases hc : (ofV L on f x.Src).Kind = 2 ∧ (slL (ofV L on f x.Src).Path.Fields).length ≤ 2 ∧ storeF L x.Rec x.N = false
      · rw [if_pos hc]
        exact ⟨hc.2.2, _, rfl⟩
      · rw [if_neg hc] at h2; cases h2
    · rw [if_neg ho] at h2; cases h2
theorem keeps_16 {c : Cd} {b : Bd} {L : List In} (hL : L.length ≤ 1000) (wf : ∀ x ∈ L, Wf c b x) (k : Nat) (v : Vl) (hB : v.Path.Global = false → byS L v.Path.N = []) (hC : ∀ x ∈ L, dstI x = k → x.Op = 3 → storeF L x.Rec x.N = false ∧ ∃ l, slL v.Path.Fields = l ++ [x.N]) (hf : (slL v.Path.Fields).length ≤ 3) (A38 A39 A40 : AV) {h : z04} {vid : Nat} (ov : h.objs vid = some (.row 41 v.cells)) (lv : vid < h.next) (Q : z1j → Fr → z04 → Prop)
    (hQ : ∀ hh, Q (.exit 2) (frOf [(5, slAV 8 z0b.cells (some L)), (38, A38), (39, A39), (40, A40)]) hh) :
    WP Try.prog 140 (.loop z2g) (frOf [(5, slAV 8 z0b.cells (some L)), (7, .int .i64 (k : Nat)), (8, .ptr vid 0), (38, A38), (39, A39), (40, A40), (81, slAV 8 z0b.cells (some L)), (82, .int .i64 L.length), (83, .int .i64 0)]) h Q := by
  obtain ⟨I, hI⟩ : ∃ I : Nat → Fr → z04 → Prop, I = (fun m fr hh => ∃ j : Nat, m = L.length - j ∧ j ≤ L.length ∧ Keeps h hh (fun _ => False) ∧ fr = frOf [(5, slAV 8 z0b.cells (some L)), (7, .int .i64 (k : Nat)), (8, .ptr vid 0), (38, A38), (39, A39), (40, A40), (81, slAV 8 z0b.cells (some L)), (82, .int .i64 L.length), (83, .int .i64 j)]) := ⟨_, rfl⟩
  refine z1u z0v (by kernel_rfl) I L.length (by rw [hI]; exact ⟨0, rfl, Nat.zero_le _, .refl _ _, rfl⟩) ?_
  intro m fr hh hi
  rw [hI] at hi
  obtain ⟨j, rfl, hj, kp, rfl⟩ := hi
  apply padlocklaw13_PathKeeps_loop16
  (repeat simp -dsimp -implicitDefEqProofs (disch := omega) only [↓rP, rQ, rO, rL, ↓reduceIte, Nat.reduceEqDiff, Nat.reduceAdd, Nat.reduceLeDiff, z01, z05, ↓tyr])
  refine z0i (fun hjl => ?_) (fun hjl => ?_)
  · obtain ⟨x, hx⟩ : ∃ x, L[j]? = some x := ⟨_, List.getElem?_eq_getElem (by omega)⟩
    have hx' : (slL (some L))[j]? = some x := hx
    have hxL := List.mem_of_getElem? hx
    obtain ⟨H, hH⟩ : ∃ H, H = hh.push (.row 45 x.cells) := ⟨_, rfl⟩
    have kH : Keeps h H (fun _ => False) := by rw [hH]; exact kp.pushS _
    have ob : H.objs hh.next = some (.row 45 x.cells) := by rw [hH]; exact z2h _ _
    have oH : H.objs vid = some (.row 41 v.cells) := by rw [kH.objs _ lv (by simp)]; exact ov
    have f0 : ∀ J : AV → Prop, z02 none (.ptr hh.next 0) H J = J (.int .i64 x.Op) := fun J => by rw [z0o ob]; rfl
    have f3 : ∀ J : AV → Prop, z02 none (.ptr hh.next 3) H J = J (.int .i64 x.Rec) := fun J => by rw [z0o ob]; rfl
    have f4 : ∀ J : AV → Prop, z02 none (.ptr hh.next 4) H J = J (.int .i64 x.N) := fun J => by rw [z0o ob]; rfl
    have g1 : ∀ J : AV → Prop, z02 none (.ptr vid 1) H J = J (.bool v.Path.Global) := fun J => by rw [z0o oH]; rfl
    have g2 : ∀ J : AV → Prop, z02 none (.ptr vid 2) H J = J (.int .i64 v.Path.N) := fun J => by rw [z0o oH]; rfl
    have g3 : ∀ J : AV → Prop, z02 none (.ptr vid 3) H J = J (slAV 1 encI v.Path.Fields) := fun J => by rw [z0o oH]; rfl
    have next : I (L.length - (j + 1)) (frOf [(5, slAV 8 z0b.cells (some L)), (7, .int .i64 (k : Nat)), (8, .ptr vid 0), (38, A38), (39, A39), (40, A40), (81, slAV 8 z0b.cells (some L)), (82, .int .i64 L.length), (83, .int .i64 ((j + 1 : Nat) : Int))]) H := by
      rw [hI]; exact ⟨j + 1, rfl, by omega, kH, rfl⟩
    (repeat simp -dsimp -implicitDefEqProofs (disch := omega) only [↓rP, rQ, rO, rL, ↓reduceIte, Nat.reduceEqDiff, Nat.reduceAdd, Nat.reduceLeDiff, z01, z05, ↓tyr, z0d hx'])
    refine z03.go (Dst_does x _) ?_
    rw [← hH]
    by_cases hd : dstI x = k
    · have ed : (dstI x == k) = true := by simpa using hd
      by_cases h3 : x.Op = 3
      · have e3 : (x.Op == 3) = true := by simpa using h3
        obtain ⟨hs, l, hl⟩ := hC x hxL hd h3
        obtain ⟨rr, hr, -, -⟩ := (wf x hxL).fld (Or.inl h3)
        have hr0 := (getI_btw hr).1
        have er : storesR L x.Rec x.N = false := by unfold storesR; rw [if_neg (by omega)]; exact hs
        have hll : (slL v.Path.Fields).length = l.length + 1 := by rw [hl]; simp
        have z0 : (((slL v.Path.Fields).length : Int) == 0) = false := by rw [hll]; simp; omega
        have z1 : IntKind.i64.wrap (((slL v.Path.Fields).length : Int) - 1) = (l.length : Nat) := by rw [wrapI (by omega) (by omega)]; omega
        have hlast : (slL v.Path.Fields)[l.length]? = some x.N := by rw [hl]; simp
        have zn : (x.N != x.N) = false := by simp
        have pcE : ∀ (n : Int) (J : AV → Prop), z0h none (encI n) 0 J = J (.int .i64 n) := fun n J => rfl
        cases hgl : v.Path.Global with
        | true =>
          rw [hgl] at g1
          (repeat simp -dsimp -implicitDefEqProofs (disch := omega) only [↓rP, rQ, rO, rL, ↓reduceIte, Nat.reduceEqDiff, Nat.reduceAdd, Nat.reduceLeDiff, z01, z05, ↓tyr, ed, g1, f0, e3, f3, f4])
          refine z03.go (Stores_does L hL x.Rec x.N _) ?_
          rw [er]
          (repeat simp -dsimp -implicitDefEqProofs (disch := omega) only [↓rP, rQ, rO, rL, ↓reduceIte, Nat.reduceEqDiff, Nat.reduceAdd, Nat.reduceLeDiff, z01, z05, ↓tyr, g3, z0, z1, z0d hlast, pcE, f4, zn, wkP j (by omega)])
          rw [z0a]
          exact ⟨L.length - (j + 1), by omega, next⟩
        | false =>
          rw [hgl] at g1
          have hne : dstI x ≠ v.Path.N := fun e => by
            have : x ∈ byS L v.Path.N := List.mem_filter.2 ⟨hxL, by simp [e]⟩
            rw [hB hgl] at this; cases this
          have en : (dstI x == v.Path.N) = false := by simpa using hne
          (repeat simp -dsimp -implicitDefEqProofs (disch := omega) only [↓rP, rQ, rO, rL, ↓reduceIte, Nat.reduceEqDiff, Nat.reduceAdd, Nat.reduceLeDiff, z01, z05, ↓tyr, ed, g1, g2, en, f0, e3, f3, f4])
          refine z03.go (Stores_does L hL x.Rec x.N _) ?_
          rw [er]
          (repeat simp -dsimp -implicitDefEqProofs (disch := omega) only [↓rP, rQ, rO, rL, ↓reduceIte, Nat.reduceEqDiff, Nat.reduceAdd, Nat.reduceLeDiff, z01, z05, ↓tyr, g3, z0, z1, z0d hlast, pcE, f4, zn, wkP j (by omega)])
          rw [z0a]
          exact ⟨L.length - (j + 1), by omega, next⟩
      · have e3 : (x.Op == 3) = false := by simpa using h3
        cases hgl : v.Path.Global with
        | true =>
          rw [hgl] at g1
          (repeat simp -dsimp -implicitDefEqProofs (disch := omega) only [↓rP, rQ, rO, rL, ↓reduceIte, Nat.reduceEqDiff, Nat.reduceAdd, Nat.reduceLeDiff, z01, z05, ↓tyr, ed, g1, f0, e3, wkP j (by omega)])
          rw [z0a]
          exact ⟨L.length - (j + 1), by omega, next⟩
        | false =>
          rw [hgl] at g1
          have hne : dstI x ≠ v.Path.N := fun e => by
            have : x ∈ byS L v.Path.N := List.mem_filter.2 ⟨hxL, by simp [e]⟩
            rw [hB hgl] at this; cases this
          have en : (dstI x == v.Path.N) = false := by simpa using hne
          (repeat simp -dsimp -implicitDefEqProofs (disch := omega) only [↓rP, rQ, rO, rL, ↓reduceIte, Nat.reduceEqDiff, Nat.reduceAdd, Nat.reduceLeDiff, z01, z05, ↓tyr, ed, g1, g2, en, f0, e3, wkP j (by omega)])
          rw [z0a]
          exact ⟨L.length - (j + 1), by omega, next⟩
    · have ed : (dstI x == k) = false := by simpa using hd
      cases hgl : v.Path.Global with
      | true =>
        rw [hgl] at g1
        (repeat simp -dsimp -implicitDefEqProofs (disch := omega) only [↓rP, rQ, rO, rL, ↓reduceIte, Nat.reduceEqDiff, Nat.reduceAdd, Nat.reduceLeDiff, z01, z05, ↓tyr, ed, g1, wkP j (by omega)])
        rw [z0a]
        exact ⟨L.length - (j + 1), by omega, next⟩
      | false =>
        rw [hgl] at g1
        have hne : dstI x ≠ v.Path.N := fun e => by
          have : x ∈ byS L v.Path.N := List.mem_filter.2 ⟨hxL, by simp [e]⟩
          rw [hB hgl] at this; cases this
        have en : (dstI x == v.Path.N) = false := by simpa using hne
        (repeat simp -dsimp -implicitDefEqProofs (disch := omega) only [↓rP, rQ, rO, rL, ↓reduceIte, Nat.reduceEqDiff, Nat.reduceAdd, Nat.reduceLeDiff, z01, z05, ↓tyr, ed, g1, g2, en, wkP j (by omega)])
        rw [z0a]
        exact ⟨L.length - (j + 1), by omega, next⟩
  · (repeat simp -dsimp -implicitDefEqProofs (disch := omega) only [↓rP, rQ, rO, rL, ↓reduceIte, Nat.reduceEqDiff, Nat.reduceAdd, Nat.reduceLeDiff, z01, z05, ↓tyr])
    exact hQ hh
theorem keeps_8 {c : Cd} {b : Bd} {L : List In} (hL : L.length ≤ 1000) (hn : (slL b.Slots).length ≤ 100) (wf : ∀ x ∈ L, Wf c b x) (h : z04) (Q : z1j → Fr → z04 → Prop)
    (hQ : ∀ hh, Q (.exit 0) (frOf []) hh) :
    WP Try.prog 140 (.loop z3k) (frOf [(5, slAV 8 z0b.cells (some L)), (38, slAV 4 z0l.cells (some (pathL b L))), (39, .int .i64 (slL b.Slots).length), (40, .int .i64 0)]) h Q := by
  obtain ⟨I, hI⟩ : ∃ I : Nat → Fr → z04 → Prop, I = (fun m fr' hh => ∃ j : Nat, m = (slL b.Slots).length - j ∧ j ≤ (slL b.Slots).length ∧ fr' = frOf [(5, slAV 8 z0b.cells (some L)), (38, slAV 4 z0l.cells (some (pathL b L))), (39, .int .i64 (slL b.Slots).length), (40, .int .i64 j)]) := ⟨_, rfl⟩
  refine z1u z0v (by kernel_rfl) I (slL b.Slots).length (by rw [hI]; exact ⟨0, rfl, Nat.zero_le _, rfl⟩) ?_
  intro m fr' hh hi
  rw [hI] at hi
  obtain ⟨j, rfl, hj, rfl⟩ := hi
  apply padlocklaw13_PathKeeps_loop8
  (repeat simp -dsimp -implicitDefEqProofs (disch := omega) only [↓rP, rQ, rO, rL, ↓reduceIte, Nat.reduceEqDiff, Nat.reduceAdd, Nat.reduceLeDiff, z01, z05, ↓tyr])
  refine z0i (fun hjl => ?_) (fun hjl => ?_)
  · have hjn : j < (slL b.Slots).length := by omega
    obtain ⟨v, ev⟩ : ∃ v, v = ofV L (onB b) (slL b.Slots).length (j : Nat) := ⟨_, rfl⟩
    have hv : (slL (some (pathL b L)))[j]? = some v := by
      simp only [slL_some, pathL, List.getElem?_map, List.getElem?_range hjn, Option.map_some, ev]
    have gv := good_ofV L (onB b) (slL b.Slots).length (j : Nat)
    have hf := ofV_FL L (onB b) (slL b.Slots).length (j : Nat)
    rw [← ev] at gv hf
    obtain ⟨H, hH⟩ : ∃ H, H = hh.push (.row 41 v.cells) := ⟨_, rfl⟩
    have ob : H.objs hh.next = some (.row 41 v.cells) := by rw [hH]; exact z2h _ _
    have hlt : hh.next < H.next := by rw [hH]; exact Nat.lt_succ_self _
    have g0 : ∀ J : AV → Prop, z02 none (.ptr hh.next 0) H J = J (.int .i64 v.Kind) := fun J => by rw [z0o ob]; rfl
    have g1 : ∀ J : AV → Prop, z02 none (.ptr hh.next 1) H J = J (.bool v.Path.Global) := fun J => by rw [z0o ob]; rfl
    have g2 : ∀ J : AV → Prop, z02 none (.ptr hh.next 2) H J = J (.int .i64 v.Path.N) := fun J => by rw [z0o ob]; rfl
    have g3 : ∀ J : AV → Prop, z02 none (.ptr hh.next 3) H J = J (slAV 1 encI v.Path.Fields) := fun J => by rw [z0o ob]; rfl
    have lL : ∀ (J : AV → Prop), pLen .slice (slAV 8 z0b.cells (some L)) J = J (.int .i64 L.length) := fun J => by simp
    have next : ∀ hh2, I ((slL b.Slots).length - (j + 1)) (frOf [(5, slAV 8 z0b.cells (some L)), (38, slAV 4 z0l.cells (some (pathL b L))), (39, .int .i64 (slL b.Slots).length), (40, .int .i64 ((j + 1 : Nat) : Int))]) hh2 := fun hh2 => by
      rw [hI]; exact ⟨j + 1, rfl, by omega, rfl⟩
    (repeat simp -dsimp -implicitDefEqProofs (disch := omega) only [↓rP, rQ, rO, rL, ↓reduceIte, Nat.reduceEqDiff, Nat.reduceAdd, Nat.reduceLeDiff, z01, z05, ↓tyr, z0d hv])
    rw [← hH]
    by_cases hk : v.Kind = 2
    · have ek : (v.Kind != 2) = false := by simpa using hk
      have e3 : decide ((3 : Int) < ((slL v.Path.Fields).length : Int)) = false := by simp; omega
      obtain ⟨hA, hB⟩ := gv.2 hk
      have tail : ∀ (G : z04), G = H → WP Try.prog 140 (.loop z2g) (frOf [(5, slAV 8 z0b.cells (some L)), (7, .int .i64 (j : Nat)), (8, .ptr hh.next 0), (38, slAV 4 z0l.cells (some (pathL b L))), (39, .int .i64 (slL b.Slots).length), (40, .int .i64 (j : Nat)), (81, slAV 8 z0b.cells (some L)), (82, .int .i64 L.length), (83, .int .i64 0)]) G (fun e f g => e = .exit 2 ∧ f = frOf [(5, slAV 8 z0b.cells (some L)), (38, slAV 4 z0l.cells (some (pathL b L))), (39, .int .i64 (slL b.Slots).length), (40, .int .i64 (j : Nat))]) := fun G hG => by
        subst hG
        exact keeps_16 hL wf j v hB (fun x hx hd h3 => by rw [ev] at hk ⊢; exact load_ofV hx hd h3 hk) hf _ _ _ ob hlt _ (fun hh => ⟨rfl, rfl⟩)
      cases hgl : v.Path.Global with
      | false =>
        rw [hgl] at g1
        (repeat simp -dsimp -implicitDefEqProofs (disch := omega) only [↓rP, rQ, rO, rL, ↓reduceIte, Nat.reduceEqDiff, Nat.reduceAdd, Nat.reduceLeDiff, z01, z05, ↓tyr, g0, ek, g1, g3, e3, ↓lL])
        refine (tail H rfl).post ?_
        rintro e f g ⟨rfl, rfl⟩
        (repeat simp -dsimp -implicitDefEqProofs (disch := omega) only [↓rP, rQ, rO, rL, ↓reduceIte, Nat.reduceEqDiff, Nat.reduceAdd, Nat.reduceLeDiff, z01, z05, ↓tyr, wkP j (by omega)])
        rw [z0a]
        exact ⟨(slL b.Slots).length - (j + 1), by omega, next _⟩
      | true =>
        rw [hgl] at g1
        (repeat simp -dsimp -implicitDefEqProofs (disch := omega) only [↓rP, rQ, rO, rL, ↓reduceIte, Nat.reduceEqDiff, Nat.reduceAdd, Nat.reduceLeDiff, z01, z05, ↓tyr, g0, ek, g1, g2, g3, e3])
        refine z03.go (Stores_does L hL (-1) v.Path.N _) ?_
        have er : storesR L (-1) v.Path.N = false := by unfold storesR; rw [if_pos (by omega)]; exact hA hgl
        rw [er]
        (repeat simp -dsimp -implicitDefEqProofs (disch := omega) only [↓rP, rQ, rO, rL, ↓reduceIte, Nat.reduceEqDiff, Nat.reduceAdd, Nat.reduceLeDiff, z01, z05, ↓tyr, ↓lL])
        refine (tail H rfl).post ?_
        rintro e f g ⟨rfl, rfl⟩
        (repeat simp -dsimp -implicitDefEqProofs (disch := omega) only [↓rP, rQ, rO, rL, ↓reduceIte, Nat.reduceEqDiff, Nat.reduceAdd, Nat.reduceLeDiff, z01, z05, ↓tyr, wkP j (by omega)])
        rw [z0a]
        exact ⟨(slL b.Slots).length - (j + 1), by omega, next _⟩
    · have ek : (v.Kind != 2) = true := by simpa using hk
      have hp := gv.1 hk
      have q1 : ∀ J : AV → Prop, z02 none (.ptr hh.next 1) H J = J (.bool false) := fun J => by have := g1 J; rw [hp] at this; exact this
      have q2 : ∀ J : AV → Prop, z02 none (.ptr hh.next 2) H J = J (.int .i64 0) := fun J => by have := g2 J; rw [hp] at this; exact this
      have q3 : ∀ J : AV → Prop, z02 none (.ptr hh.next 3) H J = J .nils := fun J => by have := g3 J; rw [hp] at this; exact this
      have ln : ∀ J : AV → Prop, pLen .slice .nils J = J (.int .i64 0) := fun J => rfl
      have dz : decide ((0 : Int) < 0) = false := by decide
      (repeat simp -dsimp -implicitDefEqProofs (disch := omega) only [↓rP, rQ, rO, rL, ↓reduceIte, Nat.reduceEqDiff, Nat.reduceAdd, Nat.reduceLeDiff, z01, z05, ↓tyr, g0, ek, q1, q2, q3, ↓ln, dz, Int.reduceBNe, wkP j (by omega)])
      rw [z0a]
      exact ⟨(slL b.Slots).length - (j + 1), by omega, next _⟩
  · (repeat simp -dsimp -implicitDefEqProofs (disch := omega) only [↓rP, rQ, rO, rL, ↓reduceIte, Nat.reduceEqDiff, Nat.reduceAdd, Nat.reduceLeDiff, z01, z05, ↓tyr])
    exact hQ hh
theorem PathKeeps_does (c : Cd) (hc : c.ok) (s : Int) (h : z04) : z03 Try.prog 4 [.agg c.cells, .int .i64 s] h (fun v h2 => v = .bool true) := by
  have lc : ∀ (H : z04) (K : AV → Prop), z02 (some 5) (.iptr c.cells) H K = K (.agg c.cells) := fun H K => by rw [z2j]; exact z0n.call c K
  apply padlocklaw13_PathKeeps_wp
  (repeat simp -dsimp -implicitDefEqProofs (disch := omega) only [↓rP, rQ, rO, rL, ↓reduceIte, Nat.reduceEqDiff, Nat.reduceAdd, Nat.reduceLeDiff, z01, z05, ↓tyr, ↓lc])
  refine z03.go (alive13_does _) ?_
  (repeat simp -dsimp -implicitDefEqProofs (disch := omega) only [↓rP, rQ, rO, rL, ↓reduceIte, Nat.reduceEqDiff, Nat.reduceAdd, Nat.reduceLeDiff, z01, z05, ↓tyr, ↓lc])
  refine z03.go (ref_Great_does c hc _) ?_
  cases hg : greatB c with
  | true => (repeat simp -dsimp -implicitDefEqProofs (disch := omega) only [↓rP, rQ, rO, rL, ↓reduceIte, Nat.reduceEqDiff, Nat.reduceAdd, Nat.reduceLeDiff, z01, z05, ↓tyr])
  | false =>
    have sm := small_of hg
    (repeat simp -dsimp -implicitDefEqProofs (disch := omega) only [↓rP, rQ, rO, rL, ↓reduceIte, Nat.reduceEqDiff, Nat.reduceAdd, Nat.reduceLeDiff, z01, z05, ↓tyr, ↓lc])
    refine z03.go (ref_Good_c c hc sm _) ?_
    cases hok : okC c with
    | false => (repeat simp -dsimp -implicitDefEqProofs (disch := omega) only [↓rP, rQ, rO, rL, ↓reduceIte, Nat.reduceEqDiff, Nat.reduceAdd, Nat.reduceLeDiff, z01, z05, ↓tyr])
    | true =>
      have wc := wf_of hok
      by_cases h0 : s < 0
      · have e0 : decide (s < 0) = true := decide_eq_true h0
        (repeat simp -dsimp -implicitDefEqProofs (disch := omega) only [↓rP, rQ, rO, rL, ↓reduceIte, Nat.reduceEqDiff, Nat.reduceAdd, Nat.reduceLeDiff, z01, z05, ↓tyr, e0])
      have e0 : decide (s < 0) = false := decide_eq_false h0
      by_cases h1 : (slL c.Sections).length ≤ s
      · have e1 : decide (((slL c.Sections).length : Int) ≤ s) = true := decide_eq_true h1
        (repeat simp -dsimp -implicitDefEqProofs (disch := omega) only [↓rP, rQ, rO, rL, ↓reduceIte, Nat.reduceEqDiff, Nat.reduceAdd, Nat.reduceLeDiff, z01, z05, ↓tyr, e0, e1])
      have e1 : decide (((slL c.Sections).length : Int) ≤ s) = false := decide_eq_false h1
      obtain ⟨k, rfl⟩ : ∃ k : Nat, s = k := ⟨s.toNat, by omega⟩
      obtain ⟨sec, hs⟩ : ∃ sec, (slL c.Sections)[k]? = some sec := ⟨_, List.getElem?_eq_getElem (by omega)⟩
      obtain ⟨t, b, fr, to, S⟩ := sec_of hok hs
      have hsl := wc.slo t b S.bd
      have hL := secL_len b fr to
      (repeat simp -dsimp -implicitDefEqProofs (disch := omega) only [↓rP, rQ, rO, rL, ↓reduceIte, Nat.reduceEqDiff, Nat.reduceAdd, Nat.reduceLeDiff, z01, z05, ↓tyr, e0, e1, ↓lc])
      refine z03.go (List_does wc hs S _) ?_
      (repeat simp -dsimp -implicitDefEqProofs (disch := omega) only [↓rP, rQ, rO, rL, ↓reduceIte, Nat.reduceEqDiff, Nat.reduceAdd, Nat.reduceLeDiff, z01, z05, ↓tyr, ↓lc])
      refine z03.go (Of_does c hc sm (k : Nat) _) ?_
      rw [pathO_some hok hs S]
      have pl : ∀ J : AV → Prop, pLen .slice (slAV 4 z0l.cells (some (pathL b (secL b fr to)))) J = J (.int .i64 (slL b.Slots).length) := fun J => by simp [pathL]
      (repeat simp -dsimp -implicitDefEqProofs (disch := omega) only [↓rP, rQ, rO, rL, ↓reduceIte, Nat.reduceEqDiff, Nat.reduceAdd, Nat.reduceLeDiff, z01, z05, ↓tyr, ↓pl])
      refine keeps_8 (by omega) (by omega) (sec_wf wc S) _ _ (fun hh => ?_)
      (repeat simp -dsimp -implicitDefEqProofs (disch := omega) only [↓rP, rQ, rO, rL, ↓reduceIte, Nat.reduceEqDiff, Nat.reduceAdd, Nat.reduceLeDiff, z01, z05, ↓tyr])
end Go.Proofs.Ytnggcokgnblpgaa
end

section
/- Same answers whether two paths are the same. -/
set_option maxRecDepth 8000
set_option maxHeartbeats 1000000
namespace Go.Proofs.Ytnggcokgnblpgaa
open Go.Abs
theorem sameP_self (p : z0w) : sameP p p = true := by simp [sameP]
theorem PathSame_does (p q : z0w) (h : z04) : z03 Try.prog 5 [.agg p.cells, .agg q.cells] h (fun v h2 => v = .bool true) := by
  apply padlocklaw13_PathSame_wp
  have lp : ∀ (p : z0w) (H : z04) (J : AV → Prop), z02 (some 3) (.iptr p.cells) H J = J (.agg p.cells) := fun p H J => by rw [z2j]; exact z0w.call p J
  have eb : ∀ a : Bool, binA CmpK.bool .eql (.bool a) (.bool a) = some (.bool true) := fun a => by cases a <;> rfl
  (repeat simp -dsimp -implicitDefEqProofs (disch := omega) only [↓rP, rQ, rO, rL, ↓reduceIte, Nat.reduceEqDiff, Nat.reduceAdd, Nat.reduceLeDiff, z01, z05, ↓tyr, ↓lp])
  refine z03.go (alive13_does _) ?_
  by_cases h1 : (slL p.Fields).length ≤ 100
  · have e1 : decide ((100 : Int) < ((slL p.Fields).length : Int)) = false := by simp; omega
    by_cases h2 : (slL q.Fields).length ≤ 100
    · have e2 : decide ((100 : Int) < ((slL q.Fields).length : Int)) = false := by simp; omega
      (repeat simp -dsimp -implicitDefEqProofs (disch := omega) only [↓rP, rQ, rO, rL, ↓reduceIte, Nat.reduceEqDiff, Nat.reduceAdd, Nat.reduceLeDiff, z01, z05, ↓tyr, e1, e2, ↓lp])
      refine z03.go (pathSame_does p q (by omega) _) ?_
      (repeat simp -dsimp -implicitDefEqProofs (disch := omega) only [↓rP, rQ, rO, rL, ↓reduceIte, Nat.reduceEqDiff, Nat.reduceAdd, Nat.reduceLeDiff, z01, z05, ↓tyr, ↓lp])
      refine z03.go (SamePath_does p q (by omega) _) ?_
      (repeat simp -dsimp -implicitDefEqProofs (disch := omega) only [↓rP, rQ, rO, rL, ↓reduceIte, Nat.reduceEqDiff, Nat.reduceAdd, Nat.reduceLeDiff, z01, z05, ↓tyr, eb, ↓lp])
      refine z03.go (pathSame_does p p (by omega) _) ?_
      rw [sameP_self]
      (repeat simp -dsimp -implicitDefEqProofs (disch := omega) only [↓rP, rQ, rO, rL, ↓reduceIte, Nat.reduceEqDiff, Nat.reduceAdd, Nat.reduceLeDiff, z01, z05, ↓tyr])
    · have e2 : decide ((100 : Int) < ((slL q.Fields).length : Int)) = true := by simp; omega
      (repeat simp -dsimp -implicitDefEqProofs (disch := omega) only [↓rP, rQ, rO, rL, ↓reduceIte, Nat.reduceEqDiff, Nat.reduceAdd, Nat.reduceLeDiff, z01, z05, ↓tyr, e1, e2])
  · have e1 : decide ((100 : Int) < ((slL p.Fields).length : Int)) = true := by simp; omega
    (repeat simp -dsimp -implicitDefEqProofs (disch := omega) only [↓rP, rQ, rO, rL, ↓reduceIte, Nat.reduceEqDiff, Nat.reduceAdd, Nat.reduceLeDiff, z01, z05, ↓tyr, e1])
end Go.Proofs.Ytnggcokgnblpgaa
end

