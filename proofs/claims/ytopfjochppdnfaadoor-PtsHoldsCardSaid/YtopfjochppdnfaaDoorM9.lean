/- Own texts, merged: PtMake, PtEmpty, PtRef, PtRound, PtRoundB, PtRoundC, PtRoundD, PtRSolve. -/
import Derived.Test.YtopfjochppdnfaaDoorM8
set_option linter.unusedVariables false
set_option linter.unusedSimpArgs false
section
/- How the document lays its rows. -/
set_option maxRecDepth 8000
set_option maxHeartbeats 1000000
namespace Go.Proofs.YtopfjochppdnfaaDoor
open Go.Abs
def setP (A : Rw → AV) (i1 k1 i2 k2 : Nat) : List AV := [outA i1 k1 (fun t => A (.s t)), A .g, outA i2 k2 (fun k => A (.f k))]
structure MakeAt (h hh : z04) (sid : Nat) (c : Cd) (A : Rw → AV) (i1 k1 i2 k2 : Nat) : Prop where
  rows : ∀ r, inB k1 k2 r → (A r = .nils ∧ lenR c r = 0) ∨ ∃ id, A r = .sl id 0 (lenR c r) 1 ∧ h.next < id ∧ id < hh.next ∧ hh.objs id = some (.row 23 (rowC (fun _ => 0) (lenR c r)))
  none : ∀ r, ¬ inB k1 k2 r → A r = .nils
  one : ∀ r r' id, A r = .sl id 0 (lenR c r) 1 → A r' = .sl id 0 (lenR c r') 1 → r = r'
  obj : hh.objs sid = some (.row 29 (setP A i1 k1 i2 k2))
  gt : h.next < sid
  lt : sid < hh.next
  t1 : k1 = 0 ∨ k1 = (slL c.Threads).length ∨ (h.next < i1 ∧ i1 < hh.next ∧ hh.objs i1 = some (.tok 27 k1))
  t2 : k2 = 0 ∨ (h.next < i2 ∧ i2 < hh.next ∧ hh.objs i2 = some (.tok 27 k2))
  res : hh.objs h.next = some (.row 29 [.nils, .nils, .nils])
  keep : Keeps h hh (fun _ => False)
theorem MakeAt.mono {h hh h2 : z04} {sid : Nat} {c : Cd} {A : Rw → AV} {i1 k1 i2 k2 : Nat} (B : MakeAt h hh sid c A i1 k1 i2 k2) (k : Keeps hh h2 (fun _ => False)) : MakeAt h h2 sid c A i1 k1 i2 k2 := by
  have kk : ∀ {i : Nat}, i < hh.next → h2.objs i = hh.objs i := fun hi => k.objs _ hi (fun h => h)
  have kn := k.next
  have := B.gt
  have := B.lt
  refine ⟨fun r hr => ?_, B.none, B.one, by rw [kk B.lt]; exact B.obj, B.gt, by omega, ?_, ?_, by rw [kk (by omega)]; exact B.res, B.keep.go k⟩
  · rcases B.rows r hr with e | ⟨id, e, h1, h2, h3⟩
    · exact Or.inl e
    · exact Or.inr ⟨id, e, h1, by omega, by rw [kk h2]; exact h3⟩
  · rcases B.t1 with e | e | ⟨h1, h2, h3⟩
    · exact Or.inl e
    · exact Or.inr (Or.inl e)
    · exact Or.inr (Or.inr ⟨h1, by omega, by rw [kk h2]; exact h3⟩)
  · rcases B.t2 with e | ⟨h1, h2, h3⟩
    · exact Or.inl e
    · exact Or.inr ⟨h1, by omega, by rw [kk h2]; exact h3⟩
theorem MakeAt.more {h hA hC : z04} {sid : Nat} {c : Cd} {A A' : Rw → AV} {i1 k1 i2 k2 j1 l1 j2 l2 : Nat} (B : MakeAt h hA sid c A i1 k1 i2 k2) {r0 : Rw} (h0 : ¬ inB k1 k2 r0) (hin : ∀ r, inB l1 l2 r ↔ inB k1 k2 r ∨ r = r0)
    (hA' : A' = fun r => if r = r0 then .sl hA.next 0 (lenR c r0) 1 else A r) {S : Nat → Prop} (kC : Keeps (hA.push (.row 23 (rowC (fun _ => 0) (lenR c r0)))) hC S) (hS : ∀ x, S x → h.next < x ∧ x < hA.next ∧ ∃ n, hA.objs x = some (.tok 27 n))
    (t1 : l1 = 0 ∨ l1 = (slL c.Threads).length ∨ (h.next < j1 ∧ j1 < hC.next ∧ hC.objs j1 = some (.tok 27 l1))) (t2 : l2 = 0 ∨ (h.next < j2 ∧ j2 < hC.next ∧ hC.objs j2 = some (.tok 27 l2))) :
    MakeAt h (hC.put sid (.row 29 (setP A' j1 l1 j2 l2))) sid c A' j1 l1 j2 l2 := by
  have hsid : sid < hA.next := B.lt
  have hgt := B.gt
  have hnC : hA.next + 1 ≤ hC.next := kC.next
  have old : ∀ {x : Nat} {ty : TypeId} {cs : List AV}, x < hA.next → hA.objs x = some (.row ty cs) → hC.objs x = some (.row ty cs) := by
    intro x ty cs hx ho
    have nS : ¬ S x := fun hs => by
      obtain ⟨_, _, n, hn⟩ := hS x hs
      rw [ho] at hn; simp at hn
    rw [kC.objs x (by simp; omega) nS, z1u hx]; exact ho
  have oS : hC.objs sid = _ := old hsid B.obj
  have new : hC.objs hA.next = some (.row 23 (rowC (fun _ => 0) (lenR c r0))) := by
    have nS : ¬ S hA.next := fun hs => by have := (hS _ hs).2.1; omega
    rw [kC.objs _ (by simp) nS, z2r]
  have ne0 : ∀ {r}, inB k1 k2 r → r ≠ r0 := fun h e => h0 (e ▸ h)
  have aold : ∀ {r}, r ≠ r0 → A' r = A r := fun e => by rw [hA']; simp only; rw [if_neg e]
  have anew : A' r0 = .sl hA.next 0 (lenR c r0) 1 := by rw [hA']; simp
  have rlt : ∀ {r id}, A r = .sl id 0 (lenR c r) 1 → id < hA.next ∧ inB k1 k2 r := by
    intro r id e
    by_cases hr : inB k1 k2 r
    · rcases B.rows r hr with ⟨e2, _⟩ | ⟨id2, e2, _, h2, _⟩
      · rw [e] at e2; cases e2
      · rw [e] at e2; cases e2
        exact ⟨h2, hr⟩
    · have := B.none r hr
      rw [e] at this; cases this
  have nsid : ∀ {x : Nat} {cs : List AV}, x < hA.next → hA.objs x = some (.row 23 cs) → x ≠ sid := by
    rintro x cs _ ho rfl
    rw [B.obj] at ho
    simp at ho
  refine ⟨fun r hr => ?_, fun r hr => ?_, ?_, put_new _ _ _, hgt, by simp; omega, ?_, ?_, ?_, ?_⟩
  · rcases (hin r).1 hr with hr | rfl
    · rcases B.rows r hr with e | ⟨id, e, g1, g2, g3⟩
      · exact Or.inl ⟨by rw [aold (ne0 hr)]; exact e.1, e.2⟩
      · refine Or.inr ⟨id, by rw [aold (ne0 hr)]; exact e, g1, by simp; omega, ?_⟩
        rw [z1g (nsid g2 g3)]
        exact old g2 g3
    · exact Or.inr ⟨hA.next, anew, by omega, by simp; omega, by rw [z1g (by omega)]; exact new⟩
  · have h1 : ¬ inB k1 k2 r := fun h => hr ((hin r).2 (Or.inl h))
    have h2 : r ≠ r0 := fun h => hr ((hin r).2 (Or.inr h))
    rw [aold h2]; exact B.none r h1
  · intro r r' id e e'
    by_cases h1 : r = r0
    · by_cases h2 : r' = r0
      · rw [h1, h2]
      · rw [aold h2] at e'
        rw [h1, anew] at e
        cases e
        have := (rlt e').1
        omega
    · rw [aold h1] at e
      by_cases h2 : r' = r0
      · rw [h2, anew] at e'
        cases e'
        have := (rlt e).1
        omega
      · rw [aold h2] at e'
        exact B.one r r' id e e'
  · rcases t1 with e | e | ⟨g1, g2, g3⟩
    · exact Or.inl e
    · exact Or.inr (Or.inl e)
    · refine Or.inr (Or.inr ⟨g1, by simpa using g2, ?_⟩)
      rw [z1g]
      · exact g3
      · rintro rfl; rw [oS] at g3; simp at g3
  · rcases t2 with e | ⟨g1, g2, g3⟩
    · exact Or.inl e
    · refine Or.inr ⟨g1, by simpa using g2, ?_⟩
      rw [z1g]
      · exact g3
      · rintro rfl; rw [oS] at g3; simp at g3
  · rw [z1g (by omega)]
    exact old (by omega) B.res
  · refine ⟨by have := B.keep.next; simp; omega, fun i hi _ => ?_⟩
    have hi2 := B.keep.next
    rw [z1g (by omega), kC.objs i (by simp; omega) (fun hs => by have := (hS i hs).1; omega), z1u (by omega)]
    exact B.keep.objs i hi (fun h => h)
theorem MakeAt.nil {h hA hC : z04} {sid : Nat} {c : Cd} {A : Rw → AV} {i1 k1 i2 k2 j1 l1 j2 l2 : Nat} (B : MakeAt h hA sid c A i1 k1 i2 k2) {r0 : Rw} (hl : lenR c r0 = 0) (h0 : ¬ inB k1 k2 r0) (hin : ∀ r, inB l1 l2 r ↔ inB k1 k2 r ∨ r = r0)
    {S : Nat → Prop} (kC : Keeps hA hC S) (hS : ∀ x, S x → h.next < x ∧ x < hA.next ∧ ∃ n, hA.objs x = some (.tok 27 n))
    (t1 : l1 = 0 ∨ l1 = (slL c.Threads).length ∨ (h.next < j1 ∧ j1 < hC.next ∧ hC.objs j1 = some (.tok 27 l1))) (t2 : l2 = 0 ∨ (h.next < j2 ∧ j2 < hC.next ∧ hC.objs j2 = some (.tok 27 l2))) :
    MakeAt h (hC.put sid (.row 29 (setP A j1 l1 j2 l2))) sid c A j1 l1 j2 l2 := by
  have hsid : sid < hA.next := B.lt
  have hgt := B.gt
  have hnC := kC.next
  have old : ∀ {x : Nat} {ty : TypeId} {cs : List AV}, x < hA.next → hA.objs x = some (.row ty cs) → hC.objs x = some (.row ty cs) := by
    intro x ty cs hx ho
    have nS : ¬ S x := fun hs => by
      obtain ⟨_, _, n, hn⟩ := hS x hs
      rw [ho] at hn; simp at hn
    rw [kC.objs x hx nS]; exact ho
  have oS : hC.objs sid = _ := old hsid B.obj
  have nsid : ∀ {x : Nat} {cs : List AV}, x < hA.next → hA.objs x = some (.row 23 cs) → x ≠ sid := by
    rintro x cs _ ho rfl
    rw [B.obj] at ho
    simp at ho
  refine ⟨fun r hr => ?_, fun r hr => B.none r (fun h => hr ((hin r).2 (Or.inl h))), B.one, put_new _ _ _, hgt, by simp; omega, ?_, ?_, ?_, ?_⟩
  · rcases (hin r).1 hr with hr | rfl
    · rcases B.rows r hr with e | ⟨id, e, g1, g2, g3⟩
      · exact Or.inl e
      · refine Or.inr ⟨id, e, g1, by simp; omega, ?_⟩
        rw [z1g (nsid g2 g3)]
        exact old g2 g3
    · exact Or.inl ⟨B.none _ h0, hl⟩
  · rcases t1 with e | e | ⟨g1, g2, g3⟩
    · exact Or.inl e
    · exact Or.inr (Or.inl e)
    · refine Or.inr (Or.inr ⟨g1, by simpa using g2, ?_⟩)
      rw [z1g]
      · exact g3
      · rintro rfl; rw [oS] at g3; simp at g3
  · rcases t2 with e | ⟨g1, g2, g3⟩
    · exact Or.inl e
    · refine Or.inr ⟨g1, by simpa using g2, ?_⟩
      rw [z1g]
      · exact g3
      · rintro rfl; rw [oS] at g3; simp at g3
  · rw [z1g (by omega)]
    exact old (by omega) B.res
  · refine ⟨by have := B.keep.next; simp; omega, fun i hi _ => ?_⟩
    have hi2 := B.keep.next
    rw [z1g (by omega), kC.objs i (by omega) (fun hs => by have := (hS i hs).1; omega)]
    exact B.keep.objs i hi (fun h => h)
theorem MakeAt.start {h hh : z04} {sid : Nat} {c : Cd} {A : Rw → AV} {i1 i2 : Nat} (B : MakeAt h hh sid c A i1 (slL c.Threads).length i2 (slL c.Sites).length) : z3m hh c (fun _ _ => 0) A ∧ (∀ r id, A r = .sl id 0 (lenR c r) 1 → h.next < id) := by
  have hin : ∀ r, ¬ inB (slL c.Threads).length (slL c.Sites).length r → lenR c r = 0 := by
    intro r hr
    cases r with
    | g => exact absurd trivial hr
    | s t => simp only [inB] at hr; simp only [lenR, slotsL]; rw [List.getElem?_eq_none (by omega)]; rfl
    | f k => simp only [inB] at hr; exact lenR_f hr
  refine ⟨⟨fun r => ?_, B.one⟩, fun r id e => ?_⟩
  · by_cases hr : inB (slL c.Threads).length (slL c.Sites).length r
    · rcases B.rows r hr with e | ⟨id, e, g1, g2, g3⟩
      · exact Or.inl e
      · exact Or.inr ⟨id, e, g2, g3⟩
    · exact Or.inl ⟨B.none r hr, hin r hr⟩
  · by_cases hr : inB (slL c.Threads).length (slL c.Sites).length r
    · rcases B.rows r hr with ⟨e2, _⟩ | ⟨id2, e2, g1, g2, g3⟩
      · rw [e] at e2; cases e2
      · rw [e] at e2; cases e2
        exact g1
    · have := B.none r hr
      rw [e] at this; cases this
end Go.Proofs.YtopfjochppdnfaaDoor
end

section
/- The document's sets with nothing. -/
set_option maxRecDepth 8000
set_option maxHeartbeats 1000000
namespace Go.Proofs.YtopfjochppdnfaaDoor
open Go.Abs
section
variable (A : Rw → AV) (i1 k1 i2 k2 : Nat) (K : AV → Prop)
theorem setP_0 : z0b none (setP A i1 k1 i2 k2) 0 K = K (outA i1 k1 (fun t => A (.s t))) := by simp [z0b, setP]
theorem setP_2 : z0b none (setP A i1 k1 i2 k2) 2 K = K (outA i2 k2 (fun k => A (.f k))) := by simp [z0b, setP]
end
theorem setP_set0 {A A' : Rw → AV} {i1 k1 i2 k2 j1 l1 : Nat} (hg : A' .g = A .g) (hf : ∀ k, k < k2 → A' (.f k) = A (.f k)) : (setP A i1 k1 i2 k2).set 0 (outA j1 l1 (fun t => A' (.s t))) = setP A' j1 l1 i2 k2 := by
  unfold setP
  rw [hg, outA_congr (f := fun k => A' (.f k)) (g := fun k => A (.f k)) hf]
  rfl
theorem setP_set2 {A A' : Rw → AV} {i1 k1 i2 k2 j2 l2 : Nat} (hg : A' .g = A .g) (hf : ∀ k, k < k1 → A' (.s k) = A (.s k)) : (setP A i1 k1 i2 k2).set 2 (outA j2 l2 (fun t => A' (.f t))) = setP A' i1 k1 j2 l2 := by
  unfold setP
  rw [hg, outA_congr (f := fun k => A' (.s k)) (g := fun k => A (.s k)) hf]
  rfl
theorem setP_len (A : Rw → AV) (i1 k1 i2 k2 : Nat) : (setP A i1 k1 i2 k2).length = 3 := rfl
theorem empty_3 {c : Cd} (wc : WfC c) {h h0 : z04} {sid i0 i2 : Nat} {A0 : Rw → AV} (B0 : MakeAt h h0 sid c A0 i0 0 i2 0) (Q : z18 → Fr → z04 → Prop)
    (hQ : ∀ hh A i1, MakeAt h hh sid c A i1 (slL c.Threads).length i2 0 → Q (.exit 0) (frOf [(1, .iptr c.cells), (2, .ptr h.next 0), (3, .ptr sid 0)]) hh) :
    WP Tryd.prog 60 (.loop z4t) (frOf [(1, .iptr c.cells), (2, .ptr h.next 0), (3, .ptr sid 0), (14, slAV 3 z0n.cells c.Threads), (15, .int .i64 (slL c.Threads).length), (16, .int .i64 0)]) h0 Q := by
  have ht := wc.thr
  obtain ⟨I, hI⟩ : ∃ I : Nat → Fr → z04 → Prop, I = (fun n fr hh => ∃ (k : Nat) (A : Rw → AV) (i1 : Nat), n = (slL c.Threads).length - k ∧ k ≤ (slL c.Threads).length ∧ MakeAt h hh sid c A i1 k i2 0 ∧ fr = frOf [(1, .iptr c.cells), (2, .ptr h.next 0), (3, .ptr sid 0), (14, slAV 3 z0n.cells c.Threads), (15, .int .i64 (slL c.Threads).length), (16, .int .i64 k)]) := ⟨_, rfl⟩
  refine z1c z0l (by kernel_rfl) I (slL c.Threads).length (by rw [hI]; exact ⟨0, A0, i0, rfl, Nat.zero_le _, B0, rfl⟩) ?_
  intro n fr hh hi
  rw [hI] at hi
  obtain ⟨k, A, i1, rfl, hk, B, rfl⟩ := hi
  apply padlockref11_Empty_loop3
  (repeat simp -dsimp -implicitDefEqProofs (disch := omega) only [↓rP, rQ, rO, rL, ↓reduceIte, Nat.reduceEqDiff, Nat.reduceAdd, Nat.reduceLeDiff, z01, z05, ↓tyr])
  refine z0e (fun hkl => ?_) (fun hkl => ?_)
  · obtain ⟨b, hb⟩ : ∃ b, (slL c.Threads)[k]? = some b := ⟨_, List.getElem?_eq_getElem (by omega)⟩
    have hsl := (wc.slo k b hb).1
    have hlen : lenR c (.s k) = (slL b.Slots).length := lenR_s hb
    have B1 := B.mono (Keeps.one hh (.row 51 b.cells))
    obtain ⟨H1, hH1⟩ : ∃ H1, H1 = hh.push (.row 51 b.cells) := ⟨_, rfl⟩
    have ldb : ∀ K : AV → Prop, z02 none (.ptr hh.next 0) H1 K = K (slAV 3 z0d.cells b.Slots) := fun K => by rw [hH1, pLoad_push, z0n.c0]
    (repeat simp -dsimp -implicitDefEqProofs (disch := omega) only [↓rP, rQ, rO, rL, ↓reduceIte, Nat.reduceEqDiff, Nat.reduceAdd, Nat.reduceLeDiff, z01, z05, ↓tyr, z0k hb])
    rw [← hH1] at B1 ⊢
    have ld1 : ∀ (off : Nat) (q : Option Nat) (K : AV → Prop), z02 q (.ptr sid off) H1 K = z0b q (setP A i1 k i2 0) off K := fun off q K => z0x B1.obj q K
    (repeat simp -dsimp -implicitDefEqProofs (disch := omega) only [↓rP, rQ, rO, rL, ↓reduceIte, Nat.reduceEqDiff, Nat.reduceAdd, Nat.reduceLeDiff, z01, z05, ↓tyr, ldb, ld1, setP_0])
    rw [mk_row _ (by omega)]
    have ld2 : ∀ (o : AObj) (off : Nat) (q : Option Nat) (K : AV → Prop), z02 q (.ptr sid off) (H1.push o) K = z0b q (setP A i1 k i2 0) off K := fun o off q K => z0x (by rw [z1u B1.lt]; exact B1.obj) q K
    (repeat simp -dsimp -implicitDefEqProofs (disch := omega) only [↓rP, rQ, rO, rL, ↓reduceIte, Nat.reduceEqDiff, Nat.reduceAdd, Nat.reduceLeDiff, z01, z05, ↓tyr, ld2, setP_0, bsl_sl])
    obtain ⟨A', hA'⟩ : ∃ A' : Rw → AV, A' = fun r => if r = .s k then .sl H1.next 0 (lenR c (.s k)) 1 else A r := ⟨_, rfl⟩
    have hold : ∀ {r}, r ≠ .s k → A' r = A r := fun e => by rw [hA']; simp only; rw [if_neg e]
    have t1 : k = 0 ∨ (h.next < i1 ∧ i1 < H1.next ∧ H1.objs i1 = some (.tok 27 k)) := by
      rcases B1.t1 with e | e | e
      · exact Or.inl e
      · omega
      · exact Or.inr e
    rw [← hlen]
    refine outA_more (f := fun t => A' (.s t)) (fun j hj => (hold (by simp; omega)).symm) (by rw [hA']; simp) (by omega) ?_ ?_
    · rcases t1 with e | ⟨g1, g2, g3⟩
      · exact Or.inl e
      · exact Or.inr ⟨by simp; omega, by rw [z1u g2]; exact g3⟩
    intro hC c1 c2 c3
    have oS : hC.objs sid = some (.row 29 (setP A i1 k i2 0)) := by
      rw [c3.objs sid (by have := B1.lt; simp; omega) ?_, z1u B1.lt]; exact B1.obj
      rintro ⟨rfl, h0⟩
      rcases t1 with e | ⟨g1, g2, g3⟩
      · omega
      · rw [B1.obj] at g3; simp at g3
    (repeat simp -dsimp -implicitDefEqProofs (disch := omega) only [↓rP, rQ, rO, rL, ↓reduceIte, Nat.reduceEqDiff, Nat.reduceAdd, Nat.reduceLeDiff, z01, z05, ↓tyr])
    rw [z3a oS (outA_leafy _ _ _) (by rw [setP_len]; decide), setP_set0 (hold (by simp)) (fun j hj => hold (by simp))]
    (repeat simp -dsimp -implicitDefEqProofs (disch := omega) only [↓rP, rQ, rO, rL, ↓reduceIte, Nat.reduceEqDiff, Nat.reduceAdd, Nat.reduceLeDiff, z01, z05, ↓tyr, wkS k (by omega)])
    have hm := B1.more (r0 := .s k) (A' := A') (j1 := H1.next + 1) (l1 := k + 1) (j2 := i2) (l2 := 0) (by simp [inB]) (fun r => by
        cases r with
        | g => simp [inB]
        | s t => simp [inB]; omega
        | f t => simp [inB]) hA' c3 (by
        rintro x ⟨rfl, h0⟩
        rcases t1 with e | ⟨g1, g2, g3⟩
        · omega
        · exact ⟨g1, g2, _, g3⟩) (Or.inr (Or.inr ⟨by have := B1.gt; have := B1.lt; omega, by rw [c2]; simp, c1⟩)) (Or.inl rfl)
    rw [z0a, hI]
    exact ⟨_, by omega, k + 1, A', _, rfl, by omega, hm, rfl⟩
  · (repeat simp -dsimp -implicitDefEqProofs (disch := omega) only [↓rP, rQ, rO, rL, ↓reduceIte, Nat.reduceEqDiff, Nat.reduceAdd, Nat.reduceLeDiff, z01, z05, ↓tyr])
    have : k = (slL c.Threads).length := by omega
    subst this
    exact hQ hh A i1 B
theorem empty_8 {c : Cd} (wc : WfC c) {h h0 : z04} {sid i1 i0 : Nat} {A0 : Rw → AV} (B0 : MakeAt h h0 sid c A0 i1 (slL c.Threads).length i0 0) (Q : z18 → Fr → z04 → Prop)
    (hQ : ∀ hh A i2, MakeAt h hh sid c A i1 (slL c.Threads).length i2 (slL c.Sites).length → Q (.exit 2) (frOf [(2, .ptr h.next 0), (3, .ptr sid 0)]) hh) :
    WP Tryd.prog 60 (.loop z4u) (frOf [(1, .iptr c.cells), (2, .ptr h.next 0), (3, .ptr sid 0), (31, slAV 3 z0z.cells c.Sites), (32, .int .i64 (slL c.Sites).length), (33, .int .i64 0)]) h0 Q := by
  have hs := wc.sit
  obtain ⟨I, hI⟩ : ∃ I : Nat → Fr → z04 → Prop, I = (fun n fr hh => ∃ (k : Nat) (A : Rw → AV) (i2 : Nat), n = (slL c.Sites).length - k ∧ k ≤ (slL c.Sites).length ∧ MakeAt h hh sid c A i1 (slL c.Threads).length i2 k ∧ fr = frOf [(1, .iptr c.cells), (2, .ptr h.next 0), (3, .ptr sid 0), (31, slAV 3 z0z.cells c.Sites), (32, .int .i64 (slL c.Sites).length), (33, .int .i64 k)]) := ⟨_, rfl⟩
  refine z1c z0l (by kernel_rfl) I (slL c.Sites).length (by rw [hI]; exact ⟨0, A0, i0, rfl, Nat.zero_le _, B0, rfl⟩) ?_
  intro n fr hh hi
  rw [hI] at hi
  obtain ⟨k, A, i2, rfl, hk, B, rfl⟩ := hi
  apply padlockref11_Empty_loop8
  (repeat simp -dsimp -implicitDefEqProofs (disch := omega) only [↓rP, rQ, rO, rL, ↓reduceIte, Nat.reduceEqDiff, Nat.reduceAdd, Nat.reduceLeDiff, z01, z05, ↓tyr])
  refine z0e (fun hkl => ?_) (fun hkl => ?_)
  · obtain ⟨s, hb⟩ : ∃ s, (slL c.Sites)[k]? = some s := ⟨_, List.getElem?_eq_getElem (by omega)⟩
    have hlen := lenR_fk hb
    have B1 := B.mono (Keeps.one hh (.row 54 s.cells))
    obtain ⟨H1, hH1⟩ : ∃ H1, H1 = hh.push (.row 54 s.cells) := ⟨_, rfl⟩
    have lds : ∀ K : AV → Prop, z02 none (.ptr hh.next 2) H1 K = K (.int .i64 s.Rec) := fun K => by rw [hH1, pLoad_push, z0z.c2]
    (repeat simp -dsimp -implicitDefEqProofs (disch := omega) only [↓rP, rQ, rO, rL, ↓reduceIte, Nat.reduceEqDiff, Nat.reduceAdd, Nat.reduceLeDiff, z01, z05, ↓tyr, z0k hb])
    rw [← hH1] at B1 ⊢
    have ld1 : ∀ (off : Nat) (q : Option Nat) (K : AV → Prop), z02 q (.ptr sid off) H1 K = z0b q (setP A i1 (slL c.Threads).length i2 k) off K := fun off q K => z0x B1.obj q K
    have ld2 : ∀ (o : AObj) (off : Nat) (q : Option Nat) (K : AV → Prop), z02 q (.ptr sid off) (H1.push o) K = z0b q (setP A i1 (slL c.Threads).length i2 k) off K := fun o off q K => z0x (by rw [z1u B1.lt]; exact B1.obj) q K
    have t2 := B1.t2
    have tS : ∀ x, (x = i2 ∧ 0 < k) → h.next < x ∧ x < H1.next ∧ ∃ n, H1.objs x = some (.tok 27 n) := by
      rintro x ⟨rfl, h0⟩
      rcases t2 with e | ⟨g1, g2, g3⟩
      · omega
      · exact ⟨g1, g2, _, g3⟩
    have hfk : ∀ r, inB (slL c.Threads).length (k + 1) r ↔ inB (slL c.Threads).length k r ∨ r = .f k := fun r => by
      cases r with
      | g => simp [inB]
      | s t => simp [inB]
      | f t => simp [inB]; omega
    (repeat simp -dsimp -implicitDefEqProofs (disch := omega) only [↓rP, rQ, rO, rL, ↓reduceIte, Nat.reduceEqDiff, Nat.reduceAdd, Nat.reduceLeDiff, z01, z05, ↓tyr, lds])
    refine z0e (fun hr => ?_) (fun hr => ?_)
    · have hl2 : lenR c (.f k) = 0 := by rw [hlen, recL_neg (by omega)]; rfl
      have hnil : A (.f k) = .nils := B1.none _ (by simp [inB])
      (repeat simp -dsimp -implicitDefEqProofs (disch := omega) only [↓rP, rQ, rO, rL, ↓reduceIte, Nat.reduceEqDiff, Nat.reduceAdd, Nat.reduceLeDiff, z01, z05, ↓tyr, ld1, setP_2, bsl_nil])
      refine outA_more (f := fun t => A (.f t)) (fun j hj => rfl) hnil (by omega) ?_ ?_
      · rcases t2 with e | ⟨g1, g2, g3⟩
        · exact Or.inl e
        · exact Or.inr ⟨g2, g3⟩
      intro hC c1 c2 c3
      have oS : hC.objs sid = some (.row 29 (setP A i1 (slL c.Threads).length i2 k)) := by
        rw [c3.objs sid B1.lt ?_]; exact B1.obj
        intro hx
        obtain ⟨_, _, n, hn⟩ := tS sid hx
        rw [B1.obj] at hn; simp at hn
      (repeat simp -dsimp -implicitDefEqProofs (disch := omega) only [↓rP, rQ, rO, rL, ↓reduceIte, Nat.reduceEqDiff, Nat.reduceAdd, Nat.reduceLeDiff, z01, z05, ↓tyr])
      rw [z3a oS (outA_leafy _ _ _) (by rw [setP_len]; decide), setP_set2 rfl (fun j hj => rfl)]
      (repeat simp -dsimp -implicitDefEqProofs (disch := omega) only [↓rP, rQ, rO, rL, ↓reduceIte, Nat.reduceEqDiff, Nat.reduceAdd, Nat.reduceLeDiff, z01, z05, ↓tyr, wkS k (by omega)])
      have hm := B1.nil (r0 := .f k) (j1 := i1) (l1 := (slL c.Threads).length) (j2 := H1.next) (l2 := k + 1) hl2 (by simp [inB]) hfk c3 tS (Or.inr (Or.inl rfl)) (Or.inr ⟨by have := B1.gt; have := B1.lt; omega, by rw [c2]; omega, c1⟩)
      rw [z0a, hI]
      exact ⟨_, by omega, k + 1, A, _, rfl, by omega, hm, rfl⟩
    · obtain ⟨rr, hrr⟩ : ∃ rr, getI (slL c.Records) s.Rec = some rr := by
        rcases wc.site k s hb with e | e
        · omega
        · exact e
      have hl2 : lenR c (.f k) = (slL rr).length := by rw [hlen]; simp only [recL, hrr]
      have hr6 := wc.recs rr (z2m hrr)
      (repeat simp -dsimp -implicitDefEqProofs (disch := omega) only [↓rP, rQ, rO, rL, ↓reduceIte, Nat.reduceEqDiff, Nat.reduceAdd, Nat.reduceLeDiff, z01, z05, ↓tyr, lds, ixI hrr, ld_one, ld1, setP_2])
      rw [mk_row _ (by omega)]
      obtain ⟨A', hA'⟩ : ∃ A' : Rw → AV, A' = fun r => if r = .f k then .sl H1.next 0 (lenR c (.f k)) 1 else A r := ⟨_, rfl⟩
      have hold : ∀ {r}, r ≠ .f k → A' r = A r := fun e => by rw [hA']; simp only; rw [if_neg e]
      (repeat simp -dsimp -implicitDefEqProofs (disch := omega) only [↓rP, rQ, rO, rL, ↓reduceIte, Nat.reduceEqDiff, Nat.reduceAdd, Nat.reduceLeDiff, z01, z05, ↓tyr, ld2, setP_2, bsl_sl])
      rw [← hl2]
      refine outA_more (f := fun t => A' (.f t)) (fun j hj => (hold (by simp; omega)).symm) (by rw [hA']; simp) (by omega) ?_ ?_
      · rcases t2 with e | ⟨g1, g2, g3⟩
        · exact Or.inl e
        · exact Or.inr ⟨by simp; omega, by rw [z1u g2]; exact g3⟩
      intro hC c1 c2 c3
      have oS : hC.objs sid = some (.row 29 (setP A i1 (slL c.Threads).length i2 k)) := by
        rw [c3.objs sid (by have := B1.lt; simp; omega) ?_, z1u B1.lt]; exact B1.obj
        intro hx
        obtain ⟨_, _, n, hn⟩ := tS sid hx
        rw [B1.obj] at hn; simp at hn
      (repeat simp -dsimp -implicitDefEqProofs (disch := omega) only [↓rP, rQ, rO, rL, ↓reduceIte, Nat.reduceEqDiff, Nat.reduceAdd, Nat.reduceLeDiff, z01, z05, ↓tyr])
      rw [z3a oS (outA_leafy _ _ _) (by rw [setP_len]; decide), setP_set2 (hold (by simp)) (fun j hj => hold (by simp))]
      (repeat simp -dsimp -implicitDefEqProofs (disch := omega) only [↓rP, rQ, rO, rL, ↓reduceIte, Nat.reduceEqDiff, Nat.reduceAdd, Nat.reduceLeDiff, z01, z05, ↓tyr, wkS k (by omega)])
      have hm := B1.more (r0 := .f k) (A' := A') (j1 := i1) (l1 := (slL c.Threads).length) (j2 := H1.next + 1) (l2 := k + 1) (by simp [inB]) hfk hA' c3 tS (Or.inr (Or.inl rfl)) (Or.inr ⟨by have := B1.gt; have := B1.lt; omega, by rw [c2]; simp, c1⟩)
      rw [z0a, hI]
      exact ⟨_, by omega, k + 1, A', _, rfl, by omega, hm, rfl⟩
  · (repeat simp -dsimp -implicitDefEqProofs (disch := omega) only [↓rP, rQ, rO, rL, ↓reduceIte, Nat.reduceEqDiff, Nat.reduceAdd, Nat.reduceLeDiff, z01, z05, ↓tyr])
    have : k = (slL c.Sites).length := by omega
    subst this
    exact hQ hh A i2 B
theorem bld_set (x : AV) (hx : x.fits = true ∧ x.cells = [x]) (K : AV → Prop) : z01 [(0, 1), (1, 1), (2, 1)] [AV.nils, AV.nils, AV.nils] [(1, x)] K = K (.agg [.nils, x, .nils]) := by
  simp [z01, z05, hx.1, hx.2]
theorem make_first (c : Cd) (h : z04) : MakeAt h (((h.push (.row 29 [.nils, .nils, .nils])).push (.row 23 (rowC (fun _ => 0) (lenR c .g)))).push (.row 29 (setP (A0g c (h.next + 1)) 0 0 0 0))) (h.next + 2) c (A0g c (h.next + 1)) 0 0 0 0 := by
  have hin : ∀ r, inB 0 0 r ↔ r = .g := fun r => by cases r <;> simp [inB]
  have ag : A0g c (h.next + 1) .g = .sl (h.next + 1) 0 (lenR c .g) 1 := by simp [A0g]
  have an : ∀ r, r ≠ .g → A0g c (h.next + 1) r = .nils := fun r hr => by simp [A0g, hr]
  refine ⟨fun r hr => ?_, fun r hr => an r (fun e => hr ((hin r).2 e)), fun r r' id e e' => ?_, z2r _ _, by omega, by simp, Or.inl rfl, Or.inl rfl, ?_, ?_⟩
  · obtain rfl := (hin r).1 hr
    refine Or.inr ⟨h.next + 1, ag, by omega, by simp, ?_⟩
    rw [z1u (by simp)]
    exact z2r _ _
  · by_cases h1 : r = .g
    · by_cases h2 : r' = .g
      · rw [h1, h2]
      · rw [an r' h2] at e'; cases e'
    · rw [an r h1] at e; cases e
  · rw [z1u (by simp; omega), z1u (by simp), z2r]
  · exact ((Keeps.one _ _).go (Keeps.one _ _)).go (Keeps.one _ _)
theorem Empty_does (c : Cd) (wc : WfC c) (h : z04) : z03 Tryd.prog 36 [.agg c.cells] h (fun v h2 => ∃ A i1 i2, v = .agg (z16 c A i1 i2) ∧ z3m h2 c (fun _ _ => 0) A ∧ (∀ r id, A r = .sl id 0 (lenR c r) 1 → h.next < id) ∧ Keeps h h2 (fun _ => False)) := by
  have hgl := wc.glo
  apply padlockref11_Empty_wp
  (repeat simp -dsimp -implicitDefEqProofs (disch := omega) only [↓rP, rQ, rO, rL, ↓reduceIte, Nat.reduceEqDiff, Nat.reduceAdd, Nat.reduceLeDiff, z01, z05, ↓tyr])
  rw [mk_row _ (by omega)]
  have e1 : (h.push (AObj.row 29 [AV.nils, AV.nils, AV.nils])).next = h.next + 1 := rfl
  rw [e1]
  have hlg : (slL c.Globals).length = lenR c .g := rfl
  rw [hlg]
  (repeat simp -dsimp -implicitDefEqProofs (disch := omega) only [↓rP, rQ, rO, rL, ↓reduceIte, Nat.reduceEqDiff, Nat.reduceAdd, Nat.reduceLeDiff, z01, z05, ↓tyr, ↓bld_set (.sl (h.next + 1) 0 (lenR c .g) 1) ⟨rfl, rfl⟩])
  rw [z1e (by rfl) (by rfl)]
  have B0 := make_first c h
  have e3 : [AV.nils, .sl (h.next + 1) 0 (lenR c .g) 1, .nils] = setP (A0g c (h.next + 1)) 0 0 0 0 := rfl
  have e4 : ((h.push (.row 29 [.nils, .nils, .nils])).push (.row 23 (rowC (fun _ => 0) (lenR c .g)))).next = h.next + 2 := rfl
  rw [e3, e4]
  generalize (((h.push (.row 29 [.nils, .nils, .nils])).push (.row 23 (rowC (fun _ => 0) (lenR c .g)))).push (.row 29 (setP (A0g c (h.next + 1)) 0 0 0 0))) = H at B0 ⊢
  (repeat simp -dsimp -implicitDefEqProofs (disch := omega) only [↓rP, rQ, rO, rL, ↓reduceIte, Nat.reduceEqDiff, Nat.reduceAdd, Nat.reduceLeDiff, z01, z05, ↓tyr])
  refine empty_3 wc B0 _ ?_
  intro H2 A1 i1 B1
  (repeat simp -dsimp -implicitDefEqProofs (disch := omega) only [↓rP, rQ, rO, rL, ↓reduceIte, Nat.reduceEqDiff, Nat.reduceAdd, Nat.reduceLeDiff, z01, z05, ↓tyr])
  refine empty_8 wc B1 _ ?_
  intro H4 A i2 B
  obtain ⟨S, own⟩ := B.start
  have ls : ∀ K : AV → Prop, z02 (some 3) (.ptr (h.next + 2) 0) H4 K = K (.agg (z16 c A i1 i2)) := fun K => by rw [z0x B.obj]; exact z2o c A i1 i2 K
  (repeat simp -dsimp -implicitDefEqProofs (disch := omega) only [↓rP, rQ, rO, rL, ↓reduceIte, Nat.reduceEqDiff, Nat.reduceAdd, Nat.reduceLeDiff, z01, z05, ↓tyr, ↓ls])
  have hst : ∀ K : z04 → Prop, z0v 3 (.ptr h.next 0) (.agg (z16 c A i1 i2)) H4 K = K (H4.put h.next (.row 29 (z16 c A i1 i2))) := fun K => by
    simp only [z0v, B.res]
    simp [z16]
  rw [hst]
  have ldr : ∀ K : AV → Prop, z02 (some 3) (.ptr h.next 0) (H4.put h.next (.row 29 (z16 c A i1 i2))) K = K (.agg (z16 c A i1 i2)) := fun K => by
    rw [z0x (put_new _ _ _)]; exact z2o c A i1 i2 K
  (repeat simp -dsimp -implicitDefEqProofs (disch := omega) only [↓rP, rQ, rO, rL, ↓reduceIte, Nat.reduceEqDiff, Nat.reduceAdd, Nat.reduceLeDiff, z01, z05, ↓tyr, ↓ldr])
  refine ⟨A, i1, i2, rfl, ?_, own, B.keep.putNew (Nat.le_refl _) _⟩
  refine S.keep (S := fun i => i = h.next) ⟨Nat.le_refl _, fun i _ hi => z1g hi _⟩ (fun r id e h => ?_)
  have := own r id e
  omega
end Go.Proofs.YtopfjochppdnfaaDoor
end

section
/- What an instruction brings, by the document. -/
set_option maxRecDepth 8000
set_option maxHeartbeats 1000000
namespace Go.Proofs.YtopfjochppdnfaaDoor
open Go.Abs
theorem Means_does (l : Lo) (h : z04) : z03 Tryd.prog 42 [.agg l.cells] h (fun v h2 => v = .bool (meansB l) ∧ h2 = h) := by
  apply padlockref11_Means_wp
  (repeat (first | simp -dsimp -implicitDefEqProofs (disch := omega) only [↓rP, rQ, rO, rL, ↓reduceIte, Nat.reduceEqDiff, Nat.reduceAdd, Nat.reduceLeDiff, z01, z05, ↓tyr] | refine Cut.go ?_))
  refine z10 (fun h1 => ?_) (fun h1 => ?_)
  · (repeat (first | simp -dsimp -implicitDefEqProofs (disch := omega) only [↓rP, rQ, rO, rL, ↓reduceIte, Nat.reduceEqDiff, Nat.reduceAdd, Nat.reduceLeDiff, z01, z05, ↓tyr] | refine Cut.go ?_))
    simp [meansB, h1]
  · (repeat (first | simp -dsimp -implicitDefEqProofs (disch := omega) only [↓rP, rQ, rO, rL, ↓reduceIte, Nat.reduceEqDiff, Nat.reduceAdd, Nat.reduceLeDiff, z01, z05, ↓tyr] | refine Cut.go ?_))
    simp [meansB, h1, beqI]
theorem RItems_does {h : z04} {c : Cd} {σ : Sg} {A : Rw → AV} (S : z3m h c σ A) (wc : WfC c) (bd : Bd2 c σ) (i1 i2 : Nat) {t : Nat} {b : Bd} (hb : (slL c.Threads)[t]? = some b) (items : Option (List It))
    (hin : ∀ y ∈ slL items, y.Op = 2 → y.N < (slL b.Slots).length) (hlen : (slL items).length ≤ 64) :
    z03 Tryd.prog 43 [.agg (z16 c A i1 i2), .int .i64 t, slAV 3 z0j.cells items] h (fun v h2 => v = .int .u64 (z2d σ t (slL items) : Nat) ∧ h2 = h) := by
  refine z03.forget (by simp [z3b]) ?_
  have htl : t < (slL c.Threads).length := (List.getElem?_eq_some_iff.1 hb).1
  have p32 := pow_small wc.sit
  obtain ⟨F, hF⟩ : ∃ F : It → Nat, F = fun x => if x.Op = 2 then σ (.s t) x.N else 0 := ⟨_, rfl⟩
  have hit : ∀ l, z2d σ t l = orF F l := fun l => by rw [hF]; rfl
  have hFl : ∀ l, orF F l < 18446744073709551616 := fun l => by
    have := orF_lt (f := F) (l := l) (n := (slL c.Sites).length) (fun k _ i hi => by
      rw [hF] at hi
      simp only at hi
      split at hi
      · exact bd _ _ _ hi
      · simp at hi)
    omega
  apply padlockref11_Items_wp
  (repeat (first | simp -dsimp -implicitDefEqProofs (disch := omega) only [↓rP, rQ, rO, rL, ↓reduceIte, Nat.reduceEqDiff, Nat.reduceAdd, Nat.reduceLeDiff, z01, z05, ↓tyr] | refine Cut.go ?_))
  obtain ⟨I, hI⟩ : ∃ I : Nat → Fr → z04 → Prop, I = (fun n fr hh => ∃ k : Nat, n = (slL items).length - k ∧ k ≤ (slL items).length ∧ Keeps h hh (fun _ => False) ∧ fr = frOf [(1, .int .i64 t), (3, .iptr (z16 c A i1 i2)), (7, .int .u64 (orF F ((slL items).take k) : Nat)), (10, slAV 3 z0j.cells items), (11, .int .i64 (slL items).length), (12, .int .i64 k)]) := ⟨_, rfl⟩
  refine z1c z0l (by kernel_rfl) I (slL items).length (by rw [hI]; exact ⟨0, rfl, Nat.zero_le _, .refl _ _, by simp [orF]⟩) ?_
  intro n fr hh hi
  rw [hI] at hi
  obtain ⟨k, rfl, hk, kp, rfl⟩ := hi
  apply padlockref11_Items_loop3
  (repeat (first | simp -dsimp -implicitDefEqProofs (disch := omega) only [↓rP, rQ, rO, rL, ↓reduceIte, Nat.reduceEqDiff, Nat.reduceAdd, Nat.reduceLeDiff, z01, z05, ↓tyr] | refine Cut.go ?_))
  refine z0e (fun hkl => ?_) (fun hkl => ?_)
  · obtain ⟨x, hx⟩ : ∃ x, (slL items)[k]? = some x := ⟨_, List.getElem?_eq_getElem (by omega)⟩
    have kp1 := kp.go (Keeps.one hh (.row 60 x.cells))
    have S1 := S.keep kp1 (fun _ _ _ h => h)
    (repeat (first | simp -dsimp -implicitDefEqProofs (disch := omega) only [↓rP, rQ, rO, rL, ↓reduceIte, Nat.reduceEqDiff, Nat.reduceAdd, Nat.reduceLeDiff, z01, z05, ↓tyr, z0k hx] | refine Cut.go ?_))
    refine z10 (fun h2 => ?_) (fun h2 => ?_)
    · have hxl := hin x (List.mem_of_getElem? hx) h2
      have hnl : x.N < lenR c (.s t) := by rw [lenR_s hb]; exact hxl
      obtain ⟨rid, r1, r2, r3, ix, ld⟩ := S1.ix hnl
      have hFx : F x = σ (.s t) x.N := by rw [hF]; simp [h2]
      have eo : iOr .u64 ((orF F ((slL items).take k) : Nat) : Int) ((σ (.s t) x.N : Nat) : Int) = ((orF F ((slL items).take k) ||| σ (.s t) x.N : Nat) : Int) := iOr_u64 _ _ (hFl _) (by have := bd.lt (.s t) x.N; omega)
      (repeat (first | simp -dsimp -implicitDefEqProofs (disch := omega) only [↓rP, rQ, rO, rL, ↓reduceIte, Nat.reduceEqDiff, Nat.reduceAdd, Nat.reduceLeDiff, z01, z05, ↓tyr, solR, z3g htl, ix, ld, eo, wkS k (by omega)] | refine Cut.go ?_))
      rw [z0a, hI]
      exact ⟨_, by omega, k + 1, rfl, by omega, kp1, by rw [orF_take hx, hFx]⟩
    · have hFx : F x = 0 := by rw [hF]; simp [h2]
      (repeat (first | simp -dsimp -implicitDefEqProofs (disch := omega) only [↓rP, rQ, rO, rL, ↓reduceIte, Nat.reduceEqDiff, Nat.reduceAdd, Nat.reduceLeDiff, z01, z05, ↓tyr, wkS k (by omega)] | refine Cut.go ?_))
      rw [z0a, hI]
      exact ⟨_, by omega, k + 1, rfl, by omega, kp1, by rw [orF_take hx, hFx, Nat.or_zero]⟩
  · (repeat (first | simp -dsimp -implicitDefEqProofs (disch := omega) only [↓rP, rQ, rO, rL, ↓reduceIte, Nat.reduceEqDiff, Nat.reduceAdd, Nat.reduceLeDiff, z01, z05, ↓tyr] | refine Cut.go ?_))
    have : k = (slL items).length := by omega
    subst this
    rw [List.take_length, hit]
    exact ⟨rfl, kp⟩
theorem fields_range {c : Cd} {σ : Sg} {t : Nat} {x : In} (bd : Bd2 c σ) (h32 : (slL c.Sites).length ≤ 32) :
    orF (fun k => if (σ (.s t) x.Src.toNat).testBit k = true ∧ x.N < lenR c (.f k) then σ (.f k) x.N.toNat else 0) (List.range (slL c.Sites).length) = fieldsN c σ t x := by
  unfold fieldsN
  apply Nat.eq_of_testBit_eq
  intro i
  rw [Bool.eq_iff_iff, orF_bit, orF_bit]
  constructor
  · rintro ⟨k, hk, hi⟩
    split at hi
    · rename_i hc
      refine ⟨k, mem_bits.2 ⟨?_, hc.1⟩, by rw [if_pos hc.2]; exact hi⟩
      have := List.mem_range.1 hk
      omega
    · simp at hi
  · rintro ⟨k, hk, hi⟩
    have hk := (mem_bits.1 hk).2
    refine ⟨k, List.mem_range.2 (bd _ _ _ hk), ?_⟩
    split at hi
    · rename_i hc
      rw [if_pos ⟨hk, hc⟩]; exact hi
    · simp at hi
theorem brings_fields {c : Cd} {σ : Sg} {A : Rw → AV} {h : z04} (S : z3m h c σ A) (wc : WfC c) (bd : Bd2 c σ) (i1 i2 : Nat) {t : Nat} {b : Bd} {x : In} {N m : Nat} (hb : (slL c.Threads)[t]? = some b) (eN : x.N = N) (em : x.Src = m) (hml : m < lenR c (.s t)) (Q : z18 → Fr → z04 → Prop)
    (hQ : Q (.exit 1) (frOf [(9, .int .u64 (fieldsN c σ t x : Nat))]) h) :
    WP Tryd.prog 78 (.loop z2x) (frOf [(2, .int .i64 t), (5, .iptr (z16 c A i1 i2)), (7, .iptr x.cells), (9, .int .u64 0), (39, .int .i64 (slL c.Sites).length), (40, .int .i64 0)]) h Q := by
  have htl : t < (slL c.Threads).length := (List.getElem?_eq_some_iff.1 hb).1
  have p32 := pow_small wc.sit
  have h32 := wc.sit
  obtain ⟨F, hF⟩ : ∃ F : Nat → Nat, F = fun k => if (σ (.s t) x.Src.toNat).testBit k = true ∧ x.N < lenR c (.f k) then σ (.f k) x.N.toNat else 0 := ⟨_, rfl⟩
  have hit : fieldsN c σ t x = orF F (List.range (slL c.Sites).length) := by rw [hF]; exact (fields_range bd h32).symm
  have hFl : ∀ l, orF F l < 18446744073709551616 := fun l => by
    have := orF_lt (f := F) (l := l) (n := (slL c.Sites).length) (fun k _ i hi => by
      rw [hF] at hi
      simp only at hi
      split at hi
      · exact bd _ _ _ hi
      · simp at hi)
    omega
  have hr : ∀ k, orF F (List.range (k + 1)) = orF F (List.range k) ||| F k := fun k => by rw [List.range_succ]; exact orF_snoc _ _ _
  obtain ⟨I, hI⟩ : ∃ I : Nat → Fr → z04 → Prop, I = (fun n fr hh => ∃ k : Nat, n = (slL c.Sites).length - k ∧ k ≤ (slL c.Sites).length ∧ hh = h ∧ fr = frOf [(2, .int .i64 t), (5, .iptr (z16 c A i1 i2)), (7, .iptr x.cells), (9, .int .u64 (orF F (List.range k) : Nat)), (39, .int .i64 (slL c.Sites).length), (40, .int .i64 k)]) := ⟨_, rfl⟩
  refine z1c z0l (by kernel_rfl) I (slL c.Sites).length (by rw [hI]; exact ⟨0, rfl, Nat.zero_le _, rfl, by simp [orF]⟩) ?_
  intro n fr hh hi
  rw [hI] at hi
  obtain ⟨k, rfl, hk, rfl, rfl⟩ := hi
  apply padlockref11_Brings_loop12
  (repeat (first | simp -dsimp -implicitDefEqProofs (disch := omega) only [↓rP, rQ, rO, rL, ↓reduceIte, Nat.reduceEqDiff, Nat.reduceAdd, Nat.reduceLeDiff, z01, z05, ↓tyr] | refine Cut.go ?_))
  refine z0e (fun hkl => ?_) (fun hkl => ?_)
  · have hks : k < (slL c.Sites).length := by omega
    obtain ⟨rid, r1, r2, r3, ix, ld⟩ := S.ix hml
    have hsm : σ (.s t) m < 18446744073709551616 := by have := bd.lt (.s t) m; omega
    (repeat (first | simp -dsimp -implicitDefEqProofs (disch := omega) only [↓rP, rQ, rO, rL, ↓reduceIte, Nat.reduceEqDiff, Nat.reduceAdd, Nat.reduceLeDiff, z01, z05, ↓tyr, solR, z3g htl, em, ix, ld] | refine Cut.go ?_))
    refine z03.go (has_does (σ (.s t) m) hsm k (by omega) _) ?_
    cases hbit : (σ (.s t) m).testBit k with
    | false =>
      have hFk : F k = 0 := by rw [hF]; simp only; rw [em, Int.toNat_natCast, if_neg (by rw [hbit]; simp)]
      (repeat (first | simp -dsimp -implicitDefEqProofs (disch := omega) only [↓rP, rQ, rO, rL, ↓reduceIte, Nat.reduceEqDiff, Nat.reduceAdd, Nat.reduceLeDiff, z01, z05, ↓tyr, wkS k (by omega)] | refine Cut.go ?_))
      rw [z0a, hI]
      exact ⟨_, by omega, k + 1, rfl, by omega, rfl, by rw [hr, hFk, Nat.or_zero]⟩
    | true =>
      (repeat (first | simp -dsimp -implicitDefEqProofs (disch := omega) only [↓rP, rQ, rO, rL, ↓reduceIte, Nat.reduceEqDiff, Nat.reduceAdd, Nat.reduceLeDiff, z01, z05, ↓tyr, eN, solR, z3g hks, S.len] | refine Cut.go ?_))
      by_cases hl : N < lenR c (.f k)
      · have hFk : F k = σ (.f k) N := by rw [hF]; simp only; rw [em, Int.toNat_natCast, eN, if_pos ⟨hbit, by omega⟩]; simp
        obtain ⟨rid2, q1, q2, q3, ix2, ld2⟩ := S.ix hl
        have d : decide ((N : Int) < (lenR c (.f k) : Int)) = true := decide_eq_true (by omega)
        have eo : iOr .u64 ((orF F (List.range k) : Nat) : Int) ((σ (.f k) N : Nat) : Int) = ((orF F (List.range k) ||| σ (.f k) N : Nat) : Int) := iOr_u64 _ _ (hFl _) (by have := bd.lt (.f k) N; omega)
        (repeat (first | simp -dsimp -implicitDefEqProofs (disch := omega) only [↓rP, rQ, rO, rL, ↓reduceIte, Nat.reduceEqDiff, Nat.reduceAdd, Nat.reduceLeDiff, z01, z05, ↓tyr, d, eN, solR, z3g hks, ix2, ld2, eo, wkS k (by omega)] | refine Cut.go ?_))
        rw [z0a, hI]
        exact ⟨_, by omega, k + 1, rfl, by omega, rfl, by rw [hr, hFk]⟩
      · have hFk : F k = 0 := by rw [hF]; simp only; rw [if_neg (by rw [eN]; omega)]
        have d : decide ((N : Int) < (lenR c (.f k) : Int)) = false := decide_eq_false (by omega)
        (repeat (first | simp -dsimp -implicitDefEqProofs (disch := omega) only [↓rP, rQ, rO, rL, ↓reduceIte, Nat.reduceEqDiff, Nat.reduceAdd, Nat.reduceLeDiff, z01, z05, ↓tyr, d, wkS k (by omega)] | refine Cut.go ?_))
        rw [z0a, hI]
        exact ⟨_, by omega, k + 1, rfl, by omega, rfl, by rw [hr, hFk, Nat.or_zero]⟩
  · (repeat (first | simp -dsimp -implicitDefEqProofs (disch := omega) only [↓rP, rQ, rO, rL, ↓reduceIte, Nat.reduceEqDiff, Nat.reduceAdd, Nat.reduceLeDiff, z01, z05, ↓tyr] | refine Cut.go ?_))
    have : k = (slL c.Sites).length := by omega
    subst this
    rw [← hit]
    exact hQ
theorem Brings_does {h : z04} {c : Cd} {σ : Sg} {A : Rw → AV} (S : z3m h c σ A) (wc : WfC c) (bd : Bd2 c σ) (i1 i2 : Nat) {t : Nat} {b : Bd} {x : In} (hb : (slL c.Threads)[t]? = some b) (w : Wf c b x)
    (hop : x.Op = 1 ∨ x.Op = 2 ∨ x.Op = 3 ∨ x.Op = 8 ∨ x.Op = 9) :
    z03 Tryd.prog 41 [.agg c.cells, .agg (z16 c A i1 i2), .int .i64 t, .agg x.cells] h (fun v h2 => v = .int .u64 (z1w c σ t x : Nat) ∧ h2 = h) := by
  have htl : t < (slL c.Threads).length := (List.getElem?_eq_some_iff.1 hb).1
  have h32 := wc.sit
  have ls1 : ∀ (H : z04) (K : AV → Prop), z02 (some 3) (.iptr (z16 c A i1 i2)) H K = K (.agg (z16 c A i1 i2)) := fun H K => by rw [z3l]; exact z2o c A i1 i2 K
  apply padlockref11_Brings_wp
  rcases hop with e | e | e | e | e
  · obtain ⟨w1, w2⟩ := w.items (Or.inl e)
    (repeat (first | simp -dsimp -implicitDefEqProofs (disch := omega) only [↓rP, rQ, rO, rL, ↓reduceIte, Nat.reduceEqDiff, Nat.reduceAdd, Nat.reduceLeDiff, z01, z05, ↓tyr, e, Int.reduceBEq, ↓ls1] | refine Cut.go ?_))
    refine z03.go (RItems_does S wc bd i1 i2 hb x.Items w1 w2) ?_
    have hbr : z1w c σ t x = z2d σ t (slL x.Items) := by unfold z1w; rw [if_pos e]
    rw [hbr]
    (repeat (first | simp -dsimp -implicitDefEqProofs (disch := omega) only [↓rP, rQ, rO, rL, ↓reduceIte, Nat.reduceEqDiff, Nat.reduceAdd, Nat.reduceLeDiff, z01, z05, ↓tyr] | refine Cut.go ?_))
  · obtain ⟨n, hn, hl⟩ := z4b (w.glob (Or.inl e))
    obtain ⟨rid, q1, q2, q3, ix, ld⟩ := S.ix (r := .g) hl
    have hbr : z1w c σ t x = σ .g n := by unfold z1w; rw [if_neg (by omega), if_pos e, hn]; rfl
    rw [hbr]
    (repeat (first | simp -dsimp -implicitDefEqProofs (disch := omega) only [↓rP, rQ, rO, rL, ↓reduceIte, Nat.reduceEqDiff, Nat.reduceAdd, Nat.reduceLeDiff, z01, z05, ↓tyr, e, hn, Int.reduceBEq, solR, ix, ld] | refine Cut.go ?_))
  · obtain ⟨rr, hr, hN, hS⟩ := w.fld (Or.inl e)
    obtain ⟨N, eN, hNl⟩ := z4b hN
    obtain ⟨m, em, hm⟩ := z4b hS
    have hml : m < lenR c (.s t) := by rw [lenR_s hb]; exact hm
    have hbr : z1w c σ t x = fieldsN c σ t x := by unfold z1w; rw [if_neg (by omega), if_neg (by omega), if_neg (by omega), if_pos e]
    (repeat (first | simp -dsimp -implicitDefEqProofs (disch := omega) only [↓rP, rQ, rO, rL, ↓reduceIte, Nat.reduceEqDiff, Nat.reduceAdd, Nat.reduceLeDiff, z01, z05, ↓tyr, e, Int.reduceBEq] | refine Cut.go ?_))
    refine brings_fields S wc bd i1 i2 hb eN em hml _ ?_
    rw [hbr]
    (repeat (first | simp -dsimp -implicitDefEqProofs (disch := omega) only [↓rP, rQ, rO, rL, ↓reduceIte, Nat.reduceEqDiff, Nat.reduceAdd, Nat.reduceLeDiff, z01, z05, ↓tyr] | refine Cut.go ?_))
  · obtain ⟨n, hn, hl⟩ := z4b (w.site (Or.inl e))
    have hbr : z1w c σ t x = 2 ^ n := by unfold z1w; rw [if_neg (by omega), if_neg (by omega), if_pos (Or.inl e), hn]; rfl
    rw [hbr]
    (repeat (first | simp -dsimp -implicitDefEqProofs (disch := omega) only [↓rP, rQ, rO, rL, ↓reduceIte, Nat.reduceEqDiff, Nat.reduceAdd, Nat.reduceLeDiff, z01, z05, ↓tyr, e, hn, Int.reduceBEq, conv_u n (by omega), shl_one (show n < 64 by omega)] | refine Cut.go ?_))
  · obtain ⟨n, hn, hl⟩ := z4b (w.site (Or.inr e))
    have hbr : z1w c σ t x = 2 ^ n := by unfold z1w; rw [if_neg (by omega), if_neg (by omega), if_pos (Or.inr e), hn]; rfl
    rw [hbr]
    (repeat (first | simp -dsimp -implicitDefEqProofs (disch := omega) only [↓rP, rQ, rO, rL, ↓reduceIte, Nat.reduceEqDiff, Nat.reduceAdd, Nat.reduceLeDiff, z01, z05, ↓tyr, e, hn, Int.reduceBEq, conv_u n (by omega), shl_one (show n < 64 by omega)] | refine Cut.go ?_))
theorem Dst_does {h : z04} {c : Cd} {t : Nat} {b : Bd} {x : In} (hb : (slL c.Threads)[t]? = some b) (w : Wf c b x) :
    z03 Tryd.prog 40 [.agg c.cells, .int .i64 t, .agg x.cells] h (fun v h2 => v = .bool (dstB c t x) ∧ h2 = h) := by
  have hst : slotsL c t = slL b.Slots := by unfold slotsL; rw [hb]
  apply padlockref11_Dst_wp
  by_cases ho : x.Op = 1 ∨ x.Op = 2 ∨ x.Op = 3 ∨ x.Op = 8 ∨ x.Op = 9
  · obtain ⟨d, ed, hd⟩ := z4b (w.dst (by omega))
    obtain ⟨l, hl⟩ : ∃ l, (slL b.Slots)[d]? = some l := ⟨_, List.getElem?_eq_getElem hd⟩
    have hds : dstB c t x = meansB l := by
      simp only [dstB, hst, ed, z2v, hl, meansO]
      rcases ho with e | e | e | e | e <;> simp [e]
    rw [hds]
    rcases ho with e | e | e | e | e
    all_goals
      (repeat (first | simp -dsimp -implicitDefEqProofs (disch := omega) only [↓rP, rQ, rO, rL, ↓reduceIte, Nat.reduceEqDiff, Nat.reduceAdd, Nat.reduceLeDiff, z01, z05, ↓tyr, e, Int.reduceBEq, ed, z0k hb, z0k hl] | refine Cut.go ?_))
      refine z03.go (Means_does l _) ?_
      (repeat (first | simp -dsimp -implicitDefEqProofs (disch := omega) only [↓rP, rQ, rO, rL, ↓reduceIte, Nat.reduceEqDiff, Nat.reduceAdd, Nat.reduceLeDiff, z01, z05, ↓tyr] | refine Cut.go ?_))
  · have hds : dstB c t x = false := by
      simp only [dstB, Bool.and_eq_false_iff, Bool.or_eq_false_iff, decide_eq_false_iff_not]; left; omega
    have n1 : (x.Op == 1) = false := by rw [beqI]; exact decide_eq_false (by omega)
    have n2 : (x.Op == 2) = false := by rw [beqI]; exact decide_eq_false (by omega)
    have n3 : (x.Op == 3) = false := by rw [beqI]; exact decide_eq_false (by omega)
    have n8 : (x.Op == 8) = false := by rw [beqI]; exact decide_eq_false (by omega)
    have n9 : (x.Op == 9) = false := by rw [beqI]; exact decide_eq_false (by omega)
    rw [hds]
    (repeat (first | simp -dsimp -implicitDefEqProofs (disch := omega) only [↓rP, rQ, rO, rL, ↓reduceIte, Nat.reduceEqDiff, Nat.reduceAdd, Nat.reduceLeDiff, z01, z05, ↓tyr, n1, n2, n3, n8, n9] | refine Cut.go ?_))
end Go.Proofs.YtopfjochppdnfaaDoor
end

section
/- The document's round: what lies there; the sets copied. -/
set_option maxRecDepth 8000
set_option maxHeartbeats 1000000
namespace Go.Proofs.YtopfjochppdnfaaDoor
open Go.Abs
structure RV (h hh : z04) (oid : Nat) (c : Cd) (σ ρ : Sg) (A B : Rw → AV) (j1 j2 : Nat) : Prop where
  src : z3m hh c σ A
  dst : z3m hh c ρ B
  obj : hh.objs oid = some (.row 29 (z16 c B j1 j2))
  own : ∀ r id, B r = .sl id 0 (lenR c r) 1 → h.next < id
  old : ∀ r id, A r = .sl id 0 (lenR c r) 1 → id < h.next
  res : hh.objs h.next = some (.row 29 [.nils, .nils, .nils])
  gt : h.next < oid
  lt : oid < hh.next
  keep : Keeps h hh (fun _ => False)
theorem RV.mono {h hh h2 : z04} {oid : Nat} {c : Cd} {σ ρ : Sg} {A B : Rw → AV} {j1 j2 : Nat} (R : RV h hh oid c σ ρ A B j1 j2) (k : Keeps hh h2 (fun _ => False)) : RV h h2 oid c σ ρ A B j1 j2 := by
  have h1 := R.gt
  have h3 := R.lt
  exact ⟨R.src.keep k (fun _ _ _ h => h), R.dst.keep k (fun _ _ _ h => h), by rw [k.objs _ R.lt (fun h => h)]; exact R.obj, R.own, R.old, by rw [k.objs _ (by omega) (fun h => h)]; exact R.res, R.gt, Nat.lt_of_lt_of_le R.lt k.next, R.keep.go k⟩
theorem RV.ld {h hh : z04} {oid : Nat} {c : Cd} {σ ρ : Sg} {A B : Rw → AV} {j1 j2 : Nat} (R : RV h hh oid c σ ρ A B j1 j2) (off : Nat) (q : Option Nat) (K : AV → Prop) : z02 q (.ptr oid off) hh K = z0b q (z16 c B j1 j2) off K := z0x R.obj q K
theorem RV.put {h hh : z04} {oid : Nat} {c : Cd} {σ ρ : Sg} {A B : Rw → AV} {j1 j2 : Nat} (R : RV h hh oid c σ ρ A B j1 j2) {r : Rw} {n id : Nat} (hn : n < lenR c r) (e : B r = .sl id 0 (lenR c r) 1) (v : Nat) :
    (∀ K : z04 → Prop, z0v 1 (.ptr id n) (.int .u64 (v : Nat)) hh K = K (hh.put id (.row 23 (rowC (fun j => if j = n then v else ρ r j) (lenR c r))))) ∧ RV h (hh.put id (.row 23 (rowC (fun j => if j = n then v else ρ r j) (lenR c r)))) oid c σ (updS ρ r n v) A B j1 j2 := by
  obtain ⟨id2, e2, hid, ho, -, -⟩ := R.dst.ix hn
  obtain rfl : id2 = id := by rw [e] at e2; cases e2; rfl
  have hno : id2 ≠ oid := by
    rintro rfl
    rw [R.obj] at ho; simp at ho
  have hgt := R.own r id2 e
  refine ⟨fun K => by rw [z3a ho (by rfl) (by rw [rowC_len]; exact hn), rowC_set], ?_, R.dst.put (v := v) hn e, ?_, R.own, R.old, ?_, R.gt, R.lt, R.keep.putNew (by omega) _⟩
  · refine R.src.keep (S := fun i => i = id2) ⟨Nat.le_refl _, fun i _ hi => z1g hi _⟩ (fun q id3 h3 h4 => ?_)
    have := R.old q id3 h3
    omega
  · rw [z1g (Ne.symm hno)]; exact R.obj
  · rw [z1g (by omega)]; exact R.res
def cpy (p : Rw → Nat → Bool) (σ : Sg) : Sg := fun r n => if p r n = true then σ r n else 0
theorem cpy_more {p q : Rw → Nat → Bool} {σ : Sg} {r : Rw} {n : Nat} (hq : ∀ r' n', q r' n' = (p r' n' || (decide (r' = r) && decide (n' = n)))) : updS (cpy p σ) r n (σ r n) = cpy q σ := by
  funext r' n'
  unfold updS cpy
  rw [hq]
  by_cases h : r' = r ∧ n' = n
  · rw [if_pos h, h.1, h.2]; simp
  · rw [if_neg h]
    have : (decide (r' = r) && decide (n' = n)) = false := by simpa using h
    rw [this, Bool.or_false]
theorem cpy_same {p q : Rw → Nat → Bool} {c : Cd} {σ : Sg} (rg : Rg c σ) (h : ∀ r n, n < lenR c r → p r n = q r n) : cpy p σ = cpy q σ := by
  funext r n
  unfold cpy
  by_cases hn : n < lenR c r
  · rw [h r n hn]
  · have : σ r n = 0 := by
      apply Classical.byContradiction
      intro hne; exact hn (rg r n hne)
    rw [this]; simp
theorem round_3 {c : Cd} (rs : Rs c) {h h0 : z04} {oid i1 i2 j1 j2 : Nat} {σ : Sg} {A B : Rw → AV} (R0 : RV h h0 oid c σ (cpy (fun _ _ => false) σ) A B j1 j2) (Q : z18 → Fr → z04 → Prop)
    (hQ : ∀ hh, RV h hh oid c σ (cpy (fun r n => decide (r = .g) && decide (n < lenR c .g)) σ) A B j1 j2 → Q (.exit 0) (frOf [(2, .iptr c.cells), (3, .iptr (z16 c A i1 i2)), (4, .ptr h.next 0), (5, .ptr oid 0)]) hh) :
    WP Tryd.prog 239 (.loop z4v) (frOf [(2, .iptr c.cells), (3, .iptr (z16 c A i1 i2)), (4, .ptr h.next 0), (5, .ptr oid 0), (21, .int .i64 (lenR c .g : Nat)), (22, .int .i64 0)]) h0 Q := by
  have hl := rs.rows .g
  obtain ⟨I, hI⟩ : ∃ I : Nat → Fr → z04 → Prop, I = (fun n fr hh => ∃ k : Nat, n = lenR c .g - k ∧ k ≤ lenR c .g ∧ RV h hh oid c σ (cpy (fun r n => decide (r = .g) && decide (n < k)) σ) A B j1 j2 ∧ fr = frOf [(2, .iptr c.cells), (3, .iptr (z16 c A i1 i2)), (4, .ptr h.next 0), (5, .ptr oid 0), (21, .int .i64 (lenR c .g : Nat)), (22, .int .i64 k)]) := ⟨_, rfl⟩
  refine z1c z0l (by kernel_rfl) I (lenR c .g) (by rw [hI]; exact ⟨0, rfl, Nat.zero_le _, by simpa using R0, rfl⟩) ?_
  intro n fr hh hi
  rw [hI] at hi
  obtain ⟨k, rfl, hk, R, rfl⟩ := hi
  apply padlockref11_Round_loop3
  (repeat simp -dsimp -implicitDefEqProofs (disch := omega) only [↓rP, rQ, rO, rL, ↓reduceIte, Nat.reduceEqDiff, Nat.reduceAdd, Nat.reduceLeDiff, z01, z05, ↓tyr])
  refine z0e (fun hkl => ?_) (fun hkl => ?_)
  · have hkl : k < lenR c .g := by omega
    obtain ⟨a, a1, a2, a3, ixA, ldA⟩ := R.src.ix hkl
    obtain ⟨b, b1, b2, b3, ixB, ldB⟩ := R.dst.ix hkl
    obtain ⟨st, R2⟩ := R.put hkl b1 (σ .g k)
    rw [cpy_more (q := fun r n => decide (r = .g) && decide (n < k + 1)) (fun r n => by
      rw [Bool.eq_iff_iff]; simp only [Bool.or_eq_true, Bool.and_eq_true, decide_eq_true_eq]
      constructor
      · rintro ⟨e, hn⟩
        by_cases h : n < k
        · exact Or.inl ⟨e, h⟩
        · exact Or.inr ⟨e, by omega⟩
      · rintro (⟨e, h⟩ | ⟨e, h⟩)
        · exact ⟨e, by omega⟩
        · exact ⟨e, by omega⟩)] at R2
    (repeat simp -dsimp -implicitDefEqProofs (disch := omega) only [↓rP, rQ, rO, rL, ↓reduceIte, Nat.reduceEqDiff, Nat.reduceAdd, Nat.reduceLeDiff, z01, z05, ↓tyr, R.ld, solR, ixA, ldA, ixB, st, wkS k (by omega)])
    rw [z0a, hI]
    exact ⟨_, by omega, k + 1, rfl, by omega, R2, rfl⟩
  · (repeat simp -dsimp -implicitDefEqProofs (disch := omega) only [↓rP, rQ, rO, rL, ↓reduceIte, Nat.reduceEqDiff, Nat.reduceAdd, Nat.reduceLeDiff, z01, z05, ↓tyr])
    have : k = lenR c .g := by omega
    subst this
    exact hQ hh R
theorem round_11 {c : Cd} (rs : Rs c) {h h0 : z04} {oid i1 i2 j1 j2 t : Nat} {σ : Sg} {A B : Rw → AV} (ht : t < (slL c.Threads).length) (R0 : RV h h0 oid c σ (cpy (fun r n => match r with | .g => true | .s t' => decide (t' < t) | .f _ => false) σ) A B j1 j2) (Q : z18 → Fr → z04 → Prop)
    (hQ : ∀ hh, RV h hh oid c σ (cpy (fun r n => match r with | .g => true | .s t' => decide (t' < t) || (decide (t' = t) && decide (n < lenR c (.s t))) | .f _ => false) σ) A B j1 j2 → Q (.exit 4) (frOf [(2, .iptr c.cells), (3, .iptr (z16 c A i1 i2)), (4, .ptr h.next 0), (5, .ptr oid 0), (37, .int .i64 (slL c.Threads).length), (38, .int .i64 t)]) hh) :
    WP Tryd.prog 239 (.loop z4k) (frOf [(2, .iptr c.cells), (3, .iptr (z16 c A i1 i2)), (4, .ptr h.next 0), (5, .ptr oid 0), (7, .int .i64 t), (37, .int .i64 (slL c.Threads).length), (38, .int .i64 t), (46, .int .i64 (lenR c (.s t) : Nat)), (47, .int .i64 0)]) h0 Q := by
  have hl := rs.rows (.s t)
  obtain ⟨P, hP⟩ : ∃ P : Nat → Rw → Nat → Bool, P = fun k r n => match r with | .g => true | .s t' => decide (t' < t) || (decide (t' = t) && decide (n < k)) | .f _ => false := ⟨_, rfl⟩
  obtain ⟨I, hI⟩ : ∃ I : Nat → Fr → z04 → Prop, I = (fun n fr hh => ∃ k : Nat, n = lenR c (.s t) - k ∧ k ≤ lenR c (.s t) ∧ RV h hh oid c σ (cpy (P k) σ) A B j1 j2 ∧ fr = frOf [(2, .iptr c.cells), (3, .iptr (z16 c A i1 i2)), (4, .ptr h.next 0), (5, .ptr oid 0), (7, .int .i64 t), (37, .int .i64 (slL c.Threads).length), (38, .int .i64 t), (46, .int .i64 (lenR c (.s t) : Nat)), (47, .int .i64 k)]) := ⟨_, rfl⟩
  have hP0 : P 0 = fun r n => match r with | .g => true | .s t' => decide (t' < t) | .f _ => false := by
    rw [hP]; funext r n; cases r <;> simp
  refine z1c z0l (by kernel_rfl) I (lenR c (.s t)) (by rw [hI]; exact ⟨0, rfl, Nat.zero_le _, by rw [hP0]; exact R0, rfl⟩) ?_
  intro n fr hh hi
  rw [hI] at hi
  obtain ⟨k, rfl, hk, R, rfl⟩ := hi
  apply padlockref11_Round_loop11
  (repeat simp -dsimp -implicitDefEqProofs (disch := omega) only [↓rP, rQ, rO, rL, ↓reduceIte, Nat.reduceEqDiff, Nat.reduceAdd, Nat.reduceLeDiff, z01, z05, ↓tyr])
  refine z0e (fun hkl => ?_) (fun hkl => ?_)
  · have hkl : k < lenR c (.s t) := by omega
    obtain ⟨a, a1, a2, a3, ixA, ldA⟩ := R.src.ix hkl
    obtain ⟨b, b1, b2, b3, ixB, ldB⟩ := R.dst.ix hkl
    obtain ⟨st, R2⟩ := R.put hkl b1 (σ (.s t) k)
    rw [cpy_more (q := P (k + 1)) (fun r n => by
      rw [hP]
      cases r with
      | g => simp
      | f i => simp
      | s t' =>
        rw [Bool.eq_iff_iff]; simp only [Bool.or_eq_true, Bool.and_eq_true, decide_eq_true_eq, Rw.s.injEq]
        omega)] at R2
    (repeat simp -dsimp -implicitDefEqProofs (disch := omega) only [↓rP, rQ, rO, rL, ↓reduceIte, Nat.reduceEqDiff, Nat.reduceAdd, Nat.reduceLeDiff, z01, z05, ↓tyr, R.ld, solR, z3g ht, ixA, ldA, ixB, st, wkS k (by omega)])
    rw [z0a, hI]
    exact ⟨_, by omega, k + 1, rfl, by omega, R2, rfl⟩
  · (repeat simp -dsimp -implicitDefEqProofs (disch := omega) only [↓rP, rQ, rO, rL, ↓reduceIte, Nat.reduceEqDiff, Nat.reduceAdd, Nat.reduceLeDiff, z01, z05, ↓tyr])
    have : k = lenR c (.s t) := by omega
    subst this
    rw [hP] at R
    exact hQ hh R
theorem round_8 {c : Cd} (rs : Rs c) {h h0 : z04} {oid i1 i2 j1 j2 : Nat} {σ : Sg} {A B : Rw → AV} (rg : Rg c σ) (R0 : RV h h0 oid c σ (cpy (fun r n => decide (r = .g) && decide (n < lenR c .g)) σ) A B j1 j2) (Q : z18 → Fr → z04 → Prop)
    (hQ : ∀ hh, RV h hh oid c σ (cpy (fun r n => match r with | .g => true | .s t' => true | .f _ => false) σ) A B j1 j2 → Q (.exit 2) (frOf [(2, .iptr c.cells), (3, .iptr (z16 c A i1 i2)), (4, .ptr h.next 0), (5, .ptr oid 0)]) hh) :
    WP Tryd.prog 239 (.loop z4w) (frOf [(2, .iptr c.cells), (3, .iptr (z16 c A i1 i2)), (4, .ptr h.next 0), (5, .ptr oid 0), (37, .int .i64 (slL c.Threads).length), (38, .int .i64 0)]) h0 Q := by
  have ht := rs.thr
  obtain ⟨I, hI⟩ : ∃ I : Nat → Fr → z04 → Prop, I = (fun n fr hh => ∃ k : Nat, n = (slL c.Threads).length - k ∧ k ≤ (slL c.Threads).length ∧ RV h hh oid c σ (cpy (fun r n => match r with | .g => true | .s t' => decide (t' < k) | .f _ => false) σ) A B j1 j2 ∧ fr = frOf [(2, .iptr c.cells), (3, .iptr (z16 c A i1 i2)), (4, .ptr h.next 0), (5, .ptr oid 0), (37, .int .i64 (slL c.Threads).length), (38, .int .i64 k)]) := ⟨_, rfl⟩
  have e0 : cpy (fun r n => decide (r = .g) && decide (n < lenR c .g)) σ = cpy (fun r n => match r with | .g => true | .s t' => decide (t' < 0) | .f _ => false) σ := cpy_same rg (fun r n hn => by cases r <;> simp_all)
  refine z1c z0l (by kernel_rfl) I (slL c.Threads).length (by rw [hI]; exact ⟨0, rfl, Nat.zero_le _, by rw [← e0]; exact R0, rfl⟩) ?_
  intro n fr hh hi
  rw [hI] at hi
  obtain ⟨k, rfl, hk, R, rfl⟩ := hi
  apply padlockref11_Round_loop8
  (repeat simp -dsimp -implicitDefEqProofs (disch := omega) only [↓rP, rQ, rO, rL, ↓reduceIte, Nat.reduceEqDiff, Nat.reduceAdd, Nat.reduceLeDiff, z01, z05, ↓tyr])
  refine z0e (fun hkl => ?_) (fun hkl => ?_)
  · (repeat simp -dsimp -implicitDefEqProofs (disch := omega) only [↓rP, rQ, rO, rL, ↓reduceIte, Nat.reduceEqDiff, Nat.reduceAdd, Nat.reduceLeDiff, z01, z05, ↓tyr, solR, z3g (show k < (slL c.Threads).length by omega), R.src.len])
    refine round_11 rs (by omega) R _ ?_
    intro h2 R2
    (repeat simp -dsimp -implicitDefEqProofs (disch := omega) only [↓rP, rQ, rO, rL, ↓reduceIte, Nat.reduceEqDiff, Nat.reduceAdd, Nat.reduceLeDiff, z01, z05, ↓tyr, wkS k (by omega)])
    rw [z0a, hI]
    refine ⟨_, by omega, k + 1, rfl, by omega, ?_, rfl⟩
    have e1 := cpy_same (σ := σ) (p := fun r n => match r with | .g => true | .s t' => decide (t' < k) || (decide (t' = k) && decide (n < lenR c (.s k))) | .f _ => false) (q := fun r n => match r with | .g => true | .s t' => decide (t' < k + 1) | .f _ => false) rg (fun r n hn => by
      cases r with
      | g => rfl
      | f i => rfl
      | s t' =>
        rw [Bool.eq_iff_iff]; simp only [Bool.or_eq_true, Bool.and_eq_true, decide_eq_true_eq]
        by_cases e : t' = k
        · subst e; simp [hn]
        · omega)
    rw [e1] at R2
    exact R2
  · (repeat simp -dsimp -implicitDefEqProofs (disch := omega) only [↓rP, rQ, rO, rL, ↓reduceIte, Nat.reduceEqDiff, Nat.reduceAdd, Nat.reduceLeDiff, z01, z05, ↓tyr])
    have : k = (slL c.Threads).length := by omega
    subst this
    refine hQ hh ?_
    have e1 := cpy_same (σ := σ) (p := fun r n => match r with | .g => true | .s t' => decide (t' < (slL c.Threads).length) | .f _ => false) (q := fun r n => match r with | .g => true | .s t' => true | .f _ => false) rg (fun r n hn => by
      cases r with
      | g => rfl
      | f i => rfl
      | s t' =>
        apply decide_eq_true
        apply Classical.byContradiction
        intro hge
        simp only [lenR, slotsL] at hn
        rw [List.getElem?_eq_none (by omega)] at hn
        simp at hn)
    rw [e1] at R
    exact R
end Go.Proofs.YtopfjochppdnfaaDoor
end

section
/- The document's round: the fields copied. -/
set_option maxRecDepth 8000
set_option maxHeartbeats 1000000
namespace Go.Proofs.YtopfjochppdnfaaDoor
open Go.Abs
theorem round_20 {c : Cd} (rs : Rs c) {h h0 : z04} {oid i1 i2 j1 j2 t : Nat} {σ : Sg} {A B : Rw → AV} (ht : t < (slL c.Sites).length) (R0 : RV h h0 oid c σ (cpy (fun r n => match r with | .g => true | .s _ => true | .f t' => decide (t' < t)) σ) A B j1 j2) (Q : z18 → Fr → z04 → Prop)
    (hQ : ∀ hh, RV h hh oid c σ (cpy (fun r n => match r with | .g => true | .s _ => true | .f t' => decide (t' < t) || (decide (t' = t) && decide (n < lenR c (.f t)))) σ) A B j1 j2 → Q (.exit 8) (frOf [(2, .iptr c.cells), (3, .iptr (z16 c A i1 i2)), (4, .ptr h.next 0), (5, .ptr oid 0), (69, .int .i64 (slL c.Sites).length), (70, .int .i64 t)]) hh) :
    WP Tryd.prog 239 (.loop z4m) (frOf [(2, .iptr c.cells), (3, .iptr (z16 c A i1 i2)), (4, .ptr h.next 0), (5, .ptr oid 0), (9, .int .i64 t), (69, .int .i64 (slL c.Sites).length), (70, .int .i64 t), (78, .int .i64 (lenR c (.f t) : Nat)), (79, .int .i64 0)]) h0 Q := by
  have hl := rs.rows (.f t)
  obtain ⟨P, hP⟩ : ∃ P : Nat → Rw → Nat → Bool, P = fun k r n => match r with | .g => true | .s _ => true | .f t' => decide (t' < t) || (decide (t' = t) && decide (n < k)) := ⟨_, rfl⟩
  obtain ⟨I, hI⟩ : ∃ I : Nat → Fr → z04 → Prop, I = (fun n fr hh => ∃ k : Nat, n = lenR c (.f t) - k ∧ k ≤ lenR c (.f t) ∧ RV h hh oid c σ (cpy (P k) σ) A B j1 j2 ∧ fr = frOf [(2, .iptr c.cells), (3, .iptr (z16 c A i1 i2)), (4, .ptr h.next 0), (5, .ptr oid 0), (9, .int .i64 t), (69, .int .i64 (slL c.Sites).length), (70, .int .i64 t), (78, .int .i64 (lenR c (.f t) : Nat)), (79, .int .i64 k)]) := ⟨_, rfl⟩
  have hP0 : P 0 = fun r n => match r with | .g => true | .s _ => true | .f t' => decide (t' < t) := by
    rw [hP]; funext r n; cases r <;> simp
  refine z1c z0l (by kernel_rfl) I (lenR c (.f t)) (by rw [hI]; exact ⟨0, rfl, Nat.zero_le _, by rw [hP0]; exact R0, rfl⟩) ?_
  intro n fr hh hi
  rw [hI] at hi
  obtain ⟨k, rfl, hk, R, rfl⟩ := hi
  apply padlockref11_Round_loop20
  (repeat simp -dsimp -implicitDefEqProofs (disch := omega) only [↓rP, rQ, rO, rL, ↓reduceIte, Nat.reduceEqDiff, Nat.reduceAdd, Nat.reduceLeDiff, z01, z05, ↓tyr])
  refine z0e (fun hkl => ?_) (fun hkl => ?_)
  · have hkl : k < lenR c (.f t) := by omega
    obtain ⟨a, a1, a2, a3, ixA, ldA⟩ := R.src.ix hkl
    obtain ⟨b, b1, b2, b3, ixB, ldB⟩ := R.dst.ix hkl
    obtain ⟨st, R2⟩ := R.put hkl b1 (σ (.f t) k)
    rw [cpy_more (q := P (k + 1)) (fun r n => by
      rw [hP]
      cases r with
      | g => simp
      | s i => simp
      | f t' =>
        rw [Bool.eq_iff_iff]; simp only [Bool.or_eq_true, Bool.and_eq_true, decide_eq_true_eq, Rw.f.injEq]
        omega)] at R2
    (repeat simp -dsimp -implicitDefEqProofs (disch := omega) only [↓rP, rQ, rO, rL, ↓reduceIte, Nat.reduceEqDiff, Nat.reduceAdd, Nat.reduceLeDiff, z01, z05, ↓tyr, R.ld, solR, z3g ht, ixA, ldA, ixB, st, wkS k (by omega)])
    rw [z0a, hI]
    exact ⟨_, by omega, k + 1, rfl, by omega, R2, rfl⟩
  · (repeat simp -dsimp -implicitDefEqProofs (disch := omega) only [↓rP, rQ, rO, rL, ↓reduceIte, Nat.reduceEqDiff, Nat.reduceAdd, Nat.reduceLeDiff, z01, z05, ↓tyr])
    have : k = lenR c (.f t) := by omega
    subst this
    rw [hP] at R
    exact hQ hh R
theorem round_17 {c : Cd} (rs : Rs c) {h h0 : z04} {oid i1 i2 j1 j2 : Nat} {σ : Sg} {A B : Rw → AV} (rg : Rg c σ) (R0 : RV h h0 oid c σ (cpy (fun r n => match r with | .g => true | .s t' => true | .f _ => false) σ) A B j1 j2) (Q : z18 → Fr → z04 → Prop)
    (hQ : ∀ hh, RV h hh oid c σ σ A B j1 j2 → Q (.exit 6) (frOf [(2, .iptr c.cells), (3, .iptr (z16 c A i1 i2)), (4, .ptr h.next 0), (5, .ptr oid 0)]) hh) :
    WP Tryd.prog 239 (.loop z4l) (frOf [(2, .iptr c.cells), (3, .iptr (z16 c A i1 i2)), (4, .ptr h.next 0), (5, .ptr oid 0), (69, .int .i64 (slL c.Sites).length), (70, .int .i64 0)]) h0 Q := by
  have ht := rs.sit
  obtain ⟨I, hI⟩ : ∃ I : Nat → Fr → z04 → Prop, I = (fun n fr hh => ∃ k : Nat, n = (slL c.Sites).length - k ∧ k ≤ (slL c.Sites).length ∧ RV h hh oid c σ (cpy (fun r n => match r with | .g => true | .s _ => true | .f t' => decide (t' < k)) σ) A B j1 j2 ∧ fr = frOf [(2, .iptr c.cells), (3, .iptr (z16 c A i1 i2)), (4, .ptr h.next 0), (5, .ptr oid 0), (69, .int .i64 (slL c.Sites).length), (70, .int .i64 k)]) := ⟨_, rfl⟩
  have e0 : cpy (fun r n => match r with | .g => true | .s t' => true | .f _ => false) σ = cpy (fun r n => match r with | .g => true | .s _ => true | .f t' => decide (t' < 0)) σ := cpy_same rg (fun r n hn => by cases r <;> simp_all)
  refine z1c z0l (by kernel_rfl) I (slL c.Sites).length (by rw [hI]; exact ⟨0, rfl, Nat.zero_le _, by rw [← e0]; exact R0, rfl⟩) ?_
  intro n fr hh hi
  rw [hI] at hi
  obtain ⟨k, rfl, hk, R, rfl⟩ := hi
  apply padlockref11_Round_loop17
  (repeat simp -dsimp -implicitDefEqProofs (disch := omega) only [↓rP, rQ, rO, rL, ↓reduceIte, Nat.reduceEqDiff, Nat.reduceAdd, Nat.reduceLeDiff, z01, z05, ↓tyr])
  refine z0e (fun hkl => ?_) (fun hkl => ?_)
  · (repeat simp -dsimp -implicitDefEqProofs (disch := omega) only [↓rP, rQ, rO, rL, ↓reduceIte, Nat.reduceEqDiff, Nat.reduceAdd, Nat.reduceLeDiff, z01, z05, ↓tyr, solR, z3g (show k < (slL c.Sites).length by omega), R.src.len])
    refine round_20 rs (by omega) R _ ?_
    intro h2 R2
    (repeat simp -dsimp -implicitDefEqProofs (disch := omega) only [↓rP, rQ, rO, rL, ↓reduceIte, Nat.reduceEqDiff, Nat.reduceAdd, Nat.reduceLeDiff, z01, z05, ↓tyr, wkS k (by omega)])
    rw [z0a, hI]
    refine ⟨_, by omega, k + 1, rfl, by omega, ?_, rfl⟩
    have e1 := cpy_same (σ := σ) (p := fun r n => match r with | .g => true | .s _ => true | .f t' => decide (t' < k) || (decide (t' = k) && decide (n < lenR c (.f k)))) (q := fun r n => match r with | .g => true | .s _ => true | .f t' => decide (t' < k + 1)) rg (fun r n hn => by
      cases r with
      | g => rfl
      | s i => rfl
      | f t' =>
        rw [Bool.eq_iff_iff]; simp only [Bool.or_eq_true, Bool.and_eq_true, decide_eq_true_eq]
        by_cases e : t' = k
        · subst e; simp [hn]
        · omega)
    rw [e1] at R2
    exact R2
  · (repeat simp -dsimp -implicitDefEqProofs (disch := omega) only [↓rP, rQ, rO, rL, ↓reduceIte, Nat.reduceEqDiff, Nat.reduceAdd, Nat.reduceLeDiff, z01, z05, ↓tyr])
    have : k = (slL c.Sites).length := by omega
    subst this
    refine hQ hh ?_
    have e1 := cpy_same (σ := σ) (p := fun r n => match r with | .g => true | .s _ => true | .f t' => decide (t' < (slL c.Sites).length)) (q := fun r n => true) rg (fun r n hn => by
      cases r with
      | g => rfl
      | s i => rfl
      | f t' =>
        apply decide_eq_true
        apply Classical.byContradiction
        intro hge
        rw [lenR_f (by omega)] at hn
        omega)
    rw [e1] at R
    have e2 : cpy (fun _ _ => true) σ = σ := by funext r n; simp [cpy]
    rw [e2] at R
    exact R
end Go.Proofs.YtopfjochppdnfaaDoor
end

section
/- The document's round: what an instruction adds, plainly; the fields that a store reaches. -/
set_option maxRecDepth 8000
set_option maxHeartbeats 1000000
namespace Go.Proofs.YtopfjochppdnfaaDoor
open Go.Abs
def stepR (c : Cd) (t : Nat) (x : In) (σ ρ : Sg) : Sg := fun r n => ρ r n ||| contr c t x σ r n
def partR (c : Cd) (σ : Sg) (t : Nat) (x : In) (N m k : Nat) (ρ : Sg) : Sg := fun r j =>
  match r with
  | .f i => if i < k ∧ (σ (.s t) x.Src.toNat).testBit i = true ∧ siteRec c i x.Rec = true ∧ j = N then ρ (.f i) j ||| m else ρ (.f i) j
  | r => ρ r j
theorem partR_zero (c : Cd) (σ : Sg) (t : Nat) (x : In) (N m : Nat) (ρ : Sg) : partR c σ t x N m 0 ρ = ρ := by
  funext r j
  cases r <;> simp [partR]
theorem partR_yes {c : Cd} {σ : Sg} {t : Nat} {x : In} {N m k : Nat} {ρ : Sg} (h1 : (σ (.s t) x.Src.toNat).testBit k = true) (h2 : siteRec c k x.Rec = true) : updS (partR c σ t x N m k ρ) (.f k) N (partR c σ t x N m k ρ (.f k) N ||| m) = partR c σ t x N m (k + 1) ρ := by
  funext r j
  unfold updS
  cases r with
  | f i =>
    simp only [partR]
    by_cases hi : i = k
    · subst hi
      by_cases hj : j = N
      · subst hj
        simp [h1, h2]
      · simp [hj]
    · have e : (i < k + 1) ↔ (i < k) := by omega
      simp [hi, e]
  | g => simp [partR]
  | s t => simp [partR]
theorem partR_no {c : Cd} {σ : Sg} {t : Nat} {x : In} {N m k : Nat} {ρ : Sg} (h : ¬ ((σ (.s t) x.Src.toNat).testBit k = true ∧ siteRec c k x.Rec = true)) : partR c σ t x N m (k + 1) ρ = partR c σ t x N m k ρ := by
  funext r j
  cases r with
  | f i =>
    simp only [partR]
    by_cases hi : i = k
    · subst hi
      rw [if_neg (fun hc => h ⟨hc.2.1, hc.2.2.1⟩), if_neg (by omega)]
    · have e : (i < k + 1) ↔ (i < k) := by omega
      simp [e]
  | g => simp [partR]
  | s t => simp [partR]
theorem partR_bd {c : Cd} {σ ρ : Sg} {t : Nat} {x : In} {N m k : Nat} (bd : Bd2 c ρ) (hm : ∀ i, m.testBit i = true → i < (slL c.Sites).length) : Bd2 c (partR c σ t x N m k ρ) := by
  intro r n i hi
  cases r with
  | f k =>
    simp only [partR] at hi
    split at hi
    · rw [Nat.testBit_or, Bool.or_eq_true] at hi
      rcases hi with hi | hi
      · exact bd _ _ _ hi
      · exact hm i hi
    · exact bd _ _ _ hi
  | g => exact bd _ _ _ hi
  | s t => exact bd _ _ _ hi
theorem siteRec_in {c : Cd} {k : Nat} {n : Int} (h : siteRec c k n = true) : k < (slL c.Sites).length := by
  apply Classical.byContradiction
  intro hn
  unfold siteRec at h
  rw [List.getElem?_eq_none (by omega)] at h
  cases h
theorem stepR_six {c : Cd} {t : Nat} {x : In} {σ ρ : Sg} {N : Nat} (e : x.Op = 6) (hN : x.N = N) (hm : meansO (getI (recL c x.Rec) x.N) = true) : partR c σ t x N (z2d σ t (slL x.Items)) (slL c.Sites).length ρ = stepR c t x σ ρ := by
  funext r j
  have hd : dstB c t x = false := by simp [dstB, e]
  have e5 : ¬ (6 : Int) = 5 := by omega
  rw [hN] at hm
  simp only [stepR, contr, hd, e, e5, hm, hN, Bool.false_eq_true, false_and, if_false, true_and, Int.toNat_natCast]
  cases r with
  | f k =>
    simp only [partR, toF, Bool.and_eq_true]
    by_cases hc : k < (slL c.Sites).length ∧ (σ (.s t) x.Src.toNat).testBit k = true ∧ siteRec c k x.Rec = true ∧ j = N
    · rw [if_pos hc, if_pos ⟨⟨hc.2.1, hc.2.2.1⟩, by have := hc.2.2.2; omega⟩]
    · rw [if_neg hc, if_neg]
      · simp
      · rintro ⟨⟨h1, h2⟩, h3⟩
        exact hc ⟨siteRec_in h2, h1, h2, by omega⟩
  | g => simp [partR, toF]
  | s t => simp [partR, toF]
theorem stepR_five {c : Cd} {t : Nat} {x : In} {σ ρ : Sg} {N : Nat} (e : x.Op = 5) (hN : x.N = N) (hm : meansO (getI (slL c.Globals) x.N) = true) : updS ρ .g N (ρ .g N ||| z2d σ t (slL x.Items)) = stepR c t x σ ρ := by
  funext r j
  have hd : dstB c t x = false := by simp [dstB, e]
  rw [hN] at hm
  simp only [stepR, contr, hd, e, hN, hm, Bool.false_eq_true, false_and, if_false, true_and, updS, Int.toNat_natCast]
  by_cases hc : r = .g ∧ j = N
  · rw [if_pos hc, if_pos hc, hc.1, hc.2]
  · rw [if_neg hc, if_neg hc, if_neg (by omega)]; simp
theorem stepR_dst {c : Cd} {t : Nat} {x : In} {σ ρ : Sg} {d : Nat} (hd : dstB c t x = true) (e : x.Dst = d) : updS ρ (.s t) d (ρ (.s t) d ||| z1w c σ t x) = stepR c t x σ ρ := by
  funext r j
  have h56 : x.Op ≠ 5 ∧ x.Op ≠ 6 := by
    simp only [dstB, Bool.and_eq_true, Bool.or_eq_true, decide_eq_true_eq] at hd
    omega
  simp only [stepR, contr, hd, e, true_and, updS, Int.toNat_natCast]
  by_cases hc : r = .s t ∧ j = d
  · rw [if_pos hc, if_pos hc, hc.1, hc.2]
  · rw [if_neg hc, if_neg hc, if_neg (by simp [h56.1]), if_neg (by simp [h56.2])]; simp
theorem stepR_no {c : Cd} {t : Nat} {x : In} {σ ρ : Sg} (hd : dstB c t x = false) (h5 : x.Op = 5 → meansO (getI (slL c.Globals) x.N) = false) (h6 : x.Op = 6 → meansO (getI (recL c x.Rec) x.N) = false) : stepR c t x σ ρ = ρ := by
  funext r j
  simp only [stepR, contr, hd, Bool.false_eq_true, false_and, if_false]
  rw [if_neg, if_neg]
  · simp
  · rintro ⟨h, h2, _⟩; rw [h6 h] at h2; cases h2
  · rintro ⟨h, h2, _⟩; rw [h5 h] at h2; cases h2
def IsR (c : Cd) (σ ρ : Sg) (done : Nat → Nat → Prop) : Prop := ∀ r n i, (ρ r n).testBit i = true ↔ (σ r n).testBit i = true ∨ ∃ (t : Nat) (b : Bd) (a : Nat) (x : In), (slL c.Threads)[t]? = some b ∧ (slL b.Code)[a]? = some x ∧ done t a ∧ (contr c t x σ r n).testBit i = true
theorem IsR.start (c : Cd) (σ : Sg) : IsR c σ σ (fun _ _ => False) := fun r n i => by simp
theorem IsR.step {c : Cd} {σ ρ : Sg} {done : Nat → Nat → Prop} (R : IsR c σ ρ done) {t a : Nat} {b : Bd} {x : In} (hb : (slL c.Threads)[t]? = some b) (hx : (slL b.Code)[a]? = some x) : IsR c σ (stepR c t x σ ρ) (fun t' a' => done t' a' ∨ (t' = t ∧ a' = a)) := fun r n i => by
  unfold stepR
  rw [Nat.testBit_or, Bool.or_eq_true, R r n i]
  constructor
  · rintro ((h | ⟨t', b', a', x', h1, h2, h3, h4⟩) | h)
    · exact Or.inl h
    · exact Or.inr ⟨t', b', a', x', h1, h2, Or.inl h3, h4⟩
    · exact Or.inr ⟨t, b, a, x, hb, hx, Or.inr ⟨rfl, rfl⟩, h⟩
  · rintro (h | ⟨t', b', a', x', h1, h2, h3 | ⟨rfl, rfl⟩, h4⟩)
    · exact Or.inl (Or.inl h)
    · exact Or.inl (Or.inr ⟨t', b', a', x', h1, h2, h3, h4⟩)
    · rw [hb] at h1; cases h1
      rw [hx] at h2; cases h2
      exact Or.inr h4
theorem IsR.weak {c : Cd} {σ ρ : Sg} {done d2 : Nat → Nat → Prop} (R : IsR c σ ρ done) (h : ∀ (t : Nat) (b : Bd) (a : Nat) (x : In), (slL c.Threads)[t]? = some b → (slL b.Code)[a]? = some x → (done t a ↔ d2 t a)) : IsR c σ ρ d2 := fun r n i => by
  rw [R r n i]
  constructor
  · rintro (e | ⟨t, b, a, x, h1, h2, h3, h4⟩)
    · exact Or.inl e
    · exact Or.inr ⟨t, b, a, x, h1, h2, (h t b a x h1 h2).1 h3, h4⟩
  · rintro (e | ⟨t, b, a, x, h1, h2, h3, h4⟩)
    · exact Or.inl e
    · exact Or.inr ⟨t, b, a, x, h1, h2, (h t b a x h1 h2).2 h3, h4⟩
theorem contr_bd {c : Cd} {σ : Sg} (h : Bd2 c σ) {b : Bd} {x : In} (w : Wf c b x) {t : Nat} {r : Rw} {n i : Nat} (hi : (contr c t x σ r n).testBit i = true) : i < (slL c.Sites).length := by
  rw [contr_bit] at hi
  rcases hi with ⟨_, _, _, hi⟩ | ⟨_, _, _, _, hi⟩ | ⟨_, _, _, _, hi⟩
  · exact brings_bd h w hi
  · exact items_bd h hi
  · exact items_bd h hi
theorem IsR.bd {c : Cd} {σ ρ : Sg} {done : Nat → Nat → Prop} (R : IsR c σ ρ done) (wc : WfC c) (h : Bd2 c σ) : Bd2 c ρ := fun r n i hi => by
  rcases (R r n i).1 hi with e | ⟨t, b, a, x, h1, h2, _, h4⟩
  · exact h _ _ _ e
  · exact contr_bd h (wc.ins t a b x h1 h2) h4
theorem IsR.rg {c : Cd} {σ ρ : Sg} {done : Nat → Nat → Prop} (R : IsR c σ ρ done) (wc : WfC c) (h : Rg c σ) : Rg c ρ := fun r n hn => by
  obtain ⟨i, hi⟩ := ne_zero_bit hn
  rcases (R r n i).1 hi with e | ⟨t, b, a, x, h1, h2, _, h4⟩
  · exact h r n (fun e0 => by rw [e0] at e; simp at e)
  · exact contr_rg h h1 (wc.ins t a b x h1 h2) h4
theorem IsR.le {c : Cd} {σ ρ : Sg} {done : Nat → Nat → Prop} (R : IsR c σ ρ done) : Le σ ρ := fun r n i h => (R r n i).2 (Or.inl h)
theorem IsR.lw {c : Cd} {σ ρ : Sg} {done : Nat → Nat → Prop} (R : IsR c σ ρ done) (h : Lw c σ) : Lw c ρ := fun τ hτ r n i hi => by
  rcases (R r n i).1 hi with e | ⟨t, b, a, x, h1, h2, _, h4⟩
  · exact h τ hτ r n i e
  · exact hτ t b a x h1 h2 r n i (contr_mono (h τ hτ) t x r n i h4)
theorem IsR.fix {c : Cd} {σ ρ : Sg} (R : IsR c σ ρ (fun _ _ => True)) : ρ = σ ↔ Cl c σ := by
  constructor
  · rintro rfl t b a x h1 h2 r n i hi
    exact (R r n i).2 (Or.inr ⟨t, b, a, x, h1, h2, trivial, hi⟩)
  · intro hc
    refine Le.anti (fun r n i hi => ?_) R.le
    rcases (R r n i).1 hi with e | ⟨t, b, a, x, h1, h2, _, h4⟩
    · exact e
    · exact hc t b a x h1 h2 r n i h4
theorem round_37 {c : Cd} (wc : WfC c) {h h0 : z04} {oid xid i1 i2 j1 j2 t : Nat} {la a : Nat} {σ ρ : Sg} {A B : Rw → AV} {b : Bd} {x : In} {N m0 : Nat} {rr : Option (List Lo)} (hb : (slL c.Threads)[t]? = some b) (eN : x.N = N) (em : x.Src = m0) (hml : m0 < lenR c (.s t)) (hr : getI (slL c.Records) x.Rec = some rr) (hNl : N < (slL rr).length)
    (w1 : ∀ y ∈ slL x.Items, y.Op = 2 → y.N < (slL b.Slots).length) (w2 : (slL x.Items).length ≤ 64) (bd : Bd2 c σ) (bdr : Bd2 c ρ) (R0 : RV h h0 oid c σ ρ A B j1 j2) (hx0 : h0.objs xid = some (.row 58 x.cells)) (hxl : xid < h0.next) (code : AV) (Q : z18 → Fr → z04 → Prop)
    (hQ : ∀ hh, RV h hh oid c σ (partR c σ t x N (z2d σ t (slL x.Items)) (slL c.Sites).length ρ) A B j1 j2 → Q (.exit 14) (frOf [(2, .iptr c.cells), (3, .iptr (z16 c A i1 i2)), (4, .ptr h.next 0), (5, .ptr oid 0), (11, .int .i64 t), (100, slAV 3 z0n.cells c.Threads), (101, .int .i64 (slL c.Threads).length), (102, .int .i64 t), (108, code), (109, .int .i64 la), (110, .int .i64 a)]) hh) :
    WP Tryd.prog 239 (.loop z3f) (frOf [(2, .iptr c.cells), (3, .iptr (z16 c A i1 i2)), (4, .ptr h.next 0), (5, .ptr oid 0), (11, .int .i64 t), (14, .ptr xid 0), (100, slAV 3 z0n.cells c.Threads), (101, .int .i64 (slL c.Threads).length), (102, .int .i64 t), (108, code), (109, .int .i64 la), (110, .int .i64 a), (187, slAV 3 z0z.cells c.Sites), (188, .int .i64 (slL c.Sites).length), (189, .int .i64 0)]) h0 Q := by
  have htl : t < (slL c.Threads).length := (List.getElem?_eq_some_iff.1 hb).1
  have p32 := pow_small wc.sit
  have h32 := wc.sit
  have mb : ∀ i, (z2d σ t (slL x.Items)).testBit i = true → i < (slL c.Sites).length := fun i hi => items_bd bd hi
  have hm : z2d σ t (slL x.Items) < 18446744073709551616 := by have := lt_of_bits mb; omega
  have ls1 : ∀ (H : z04) (K : AV → Prop), z02 (some 3) (.iptr (z16 c A i1 i2)) H K = K (.agg (z16 c A i1 i2)) := fun H K => by rw [z3l]; exact z2o c A i1 i2 K
  obtain ⟨P, hP⟩ : ∃ P : Nat → Sg, P = fun k => partR c σ t x N (z2d σ t (slL x.Items)) k ρ := ⟨_, rfl⟩
  have hPb : ∀ k, Bd2 c (P k) := fun k => by rw [hP]; exact partR_bd bdr mb
  have hP0 : P 0 = ρ := by rw [hP]; exact partR_zero _ _ _ _ _ _ _
  obtain ⟨I, hI⟩ : ∃ I : Nat → Fr → z04 → Prop, I = (fun n fr hh => ∃ k : Nat, n = (slL c.Sites).length - k ∧ k ≤ (slL c.Sites).length ∧ RV h hh oid c σ (P k) A B j1 j2 ∧ hh.objs xid = some (.row 58 x.cells) ∧ xid < hh.next ∧ fr = frOf [(2, .iptr c.cells), (3, .iptr (z16 c A i1 i2)), (4, .ptr h.next 0), (5, .ptr oid 0), (11, .int .i64 t), (14, .ptr xid 0), (100, slAV 3 z0n.cells c.Threads), (101, .int .i64 (slL c.Threads).length), (102, .int .i64 t), (108, code), (109, .int .i64 la), (110, .int .i64 a), (187, slAV 3 z0z.cells c.Sites), (188, .int .i64 (slL c.Sites).length), (189, .int .i64 k)]) := ⟨_, rfl⟩
  refine z1c z0l (by kernel_rfl) I (slL c.Sites).length (by rw [hI]; exact ⟨0, rfl, Nat.zero_le _, by rw [hP0]; exact R0, hx0, hxl, rfl⟩) ?_
  clear hx0 hxl R0
  intro n fr hh hi
  rw [hI] at hi
  obtain ⟨k, rfl, hk, R, hx, hxl, rfl⟩ := hi
  apply padlockref11_Round_loop37
  (repeat simp -dsimp -implicitDefEqProofs (disch := omega) only [↓rP, rQ, rO, rL, ↓reduceIte, Nat.reduceEqDiff, Nat.reduceAdd, Nat.reduceLeDiff, z01, z05, ↓tyr])
  refine z0e (fun hkl => ?_) (fun hkl => ?_)
  · have hks : k < (slL c.Sites).length := by omega
    obtain ⟨s, hs⟩ : ∃ s, (slL c.Sites)[k]? = some s := ⟨_, List.getElem?_eq_getElem hks⟩
    have R1 := R.mono (Keeps.one hh (.row 54 s.cells))
    have hx1 : (hh.push (.row 54 s.cells)).objs xid = some (.row 58 x.cells) := by rw [z1u hxl]; exact hx
    obtain ⟨H1, hH1⟩ : ∃ H1, H1 = hh.push (.row 54 s.cells) := ⟨_, rfl⟩
    have lds : ∀ K : AV → Prop, z02 none (.ptr hh.next 2) H1 K = K (.int .i64 s.Rec) := fun K => by rw [hH1, pLoad_push, z0z.c2]
    have n1 : H1.next = hh.next + 1 := by rw [hH1]; rfl
    (repeat simp -dsimp -implicitDefEqProofs (disch := omega) only [↓rP, rQ, rO, rL, ↓reduceIte, Nat.reduceEqDiff, Nat.reduceAdd, Nat.reduceLeDiff, z01, z05, ↓tyr, z0k hs])
    rw [← hH1] at R1 hx1 ⊢
    have ldx : ∀ (off : Nat) (q : Option Nat) (K : AV → Prop), z02 q (.ptr xid off) H1 K = z0b q x.cells off K := fun off q K => z0x hx1 q K
    obtain ⟨a0, a1, a2, a3, ixA, ldA⟩ := R1.src.ix hml
    (repeat simp -dsimp -implicitDefEqProofs (disch := omega) only [↓rP, rQ, rO, rL, ↓reduceIte, Nat.reduceEqDiff, Nat.reduceAdd, Nat.reduceLeDiff, z01, z05, ↓tyr, solR, z3g htl, ldx, em, ixA, ldA])
    refine z03.go (has_does (σ (.s t) m0) (by have := bd.lt (.s t) m0; omega) k (by omega) _) ?_
    cases hbit : (σ (.s t) m0).testBit k with
    | false =>
      have hPk : P (k + 1) = P k := by rw [hP]; exact partR_no (by rw [em, Int.toNat_natCast, hbit]; simp)
      (repeat simp -dsimp -implicitDefEqProofs (disch := omega) only [↓rP, rQ, rO, rL, ↓reduceIte, Nat.reduceEqDiff, Nat.reduceAdd, Nat.reduceLeDiff, z01, z05, ↓tyr, wkS k (by omega)])
      rw [z0a, hI]
      exact ⟨_, by omega, k + 1, rfl, by omega, by rw [hPk]; exact R1, hx1, by omega, rfl⟩
    | true =>
      (repeat simp -dsimp -implicitDefEqProofs (disch := omega) only [↓rP, rQ, rO, rL, ↓reduceIte, Nat.reduceEqDiff, Nat.reduceAdd, Nat.reduceLeDiff, z01, z05, ↓tyr, lds, ldx])
      by_cases he : s.Rec = x.Rec
      · have d : (s.Rec == x.Rec) = true := by rw [beqI]; exact decide_eq_true he
        have hsr : siteRec c k x.Rec = true := by rw [siteRec_eq hs]; exact decide_eq_true he
        have hlen : N < lenR c (.f k) := by simp only [lenR, hs, he, recL, hr]; exact hNl
        have hPk := partR_yes (N := N) (m := z2d σ t (slL x.Items)) (ρ := ρ) (t := t) (x := x) (k := k) (by rw [em, Int.toNat_natCast]; exact hbit) hsr
        obtain ⟨b0, b1, b2, b3, ixB, ldB⟩ := R1.dst.ix hlen
        (repeat simp -dsimp -implicitDefEqProofs (disch := omega) only [↓rP, rQ, rO, rL, ↓reduceIte, Nat.reduceEqDiff, Nat.reduceAdd, Nat.reduceLeDiff, z01, z05, ↓tyr, d, R1.ld, solR, z3g hks, ldx, eN, ixB, ldB, ↓ls1])
        refine z03.go (RItems_does R1.src wc bd i1 i2 hb x.Items w1 w2) ?_
        have eo : iOr .u64 ((P k (.f k) N : Nat) : Int) ((z2d σ t (slL x.Items) : Nat) : Int) = ((P k (.f k) N ||| z2d σ t (slL x.Items) : Nat) : Int) := iOr_u64 _ _ (by have := (hPb k).lt (.f k) N; omega) hm
        obtain ⟨st, R2⟩ := R1.put hlen b1 (P k (.f k) N ||| z2d σ t (slL x.Items))
        have hup : updS (P k) (.f k) N (P k (.f k) N ||| z2d σ t (slL x.Items)) = P (k + 1) := by rw [hP]; exact hPk
        rw [hup] at R2
        (repeat simp -dsimp -implicitDefEqProofs (disch := omega) only [↓rP, rQ, rO, rL, ↓reduceIte, Nat.reduceEqDiff, Nat.reduceAdd, Nat.reduceLeDiff, z01, z05, ↓tyr, R1.ld, solR, z3g hks, ldx, eN, ixB, ldB, eo, st, wkS k (by omega)])
        rw [z0a, hI]
        refine ⟨_, by omega, k + 1, rfl, by omega, R2, ?_, ?_, rfl⟩
        · rw [z1g]
          · exact hx1
          · rintro rfl; rw [b3] at hx1; simp at hx1
        · simp; omega
      · have d : (s.Rec == x.Rec) = false := by rw [beqI]; exact decide_eq_false he
        have hsr : siteRec c k x.Rec = false := by rw [siteRec_eq hs]; exact decide_eq_false he
        have hPk : P (k + 1) = P k := by rw [hP]; exact partR_no (by rw [hsr]; simp)
        (repeat simp -dsimp -implicitDefEqProofs (disch := omega) only [↓rP, rQ, rO, rL, ↓reduceIte, Nat.reduceEqDiff, Nat.reduceAdd, Nat.reduceLeDiff, z01, z05, ↓tyr, d, wkS k (by omega)])
        rw [z0a, hI]
        exact ⟨_, by omega, k + 1, rfl, by omega, by rw [hPk]; exact R1, hx1, by omega, rfl⟩
  · (repeat simp -dsimp -implicitDefEqProofs (disch := omega) only [↓rP, rQ, rO, rL, ↓reduceIte, Nat.reduceEqDiff, Nat.reduceAdd, Nat.reduceLeDiff, z01, z05, ↓tyr])
    have : k = (slL c.Sites).length := by omega
    subst this
    rw [hP] at R
    exact hQ hh R
end Go.Proofs.YtopfjochppdnfaaDoor
end

section
/- The document's round. -/
set_option maxRecDepth 8000
set_option maxHeartbeats 1000000
namespace Go.Proofs.YtopfjochppdnfaaDoor
open Go.Abs
theorem round_29 {c : Cd} (wc : WfC c) {h h0 : z04} {oid i1 i2 j1 j2 t : Nat} {σ ρ0 : Sg} {A B : Rw → AV} {b : Bd} (hb : (slL c.Threads)[t]? = some b) (bd : Bd2 c σ) (R0 : RV h h0 oid c σ ρ0 A B j1 j2) (P0 : IsR c σ ρ0 (fun t' _ => t' < t)) (Q : z18 → Fr → z04 → Prop)
    (hQ : ∀ hh ρ, RV h hh oid c σ ρ A B j1 j2 → IsR c σ ρ (fun t' _ => t' < t + 1) → Q (.exit 12) (frOf [(2, .iptr c.cells), (3, .iptr (z16 c A i1 i2)), (4, .ptr h.next 0), (5, .ptr oid 0), (100, slAV 3 z0n.cells c.Threads), (101, .int .i64 (slL c.Threads).length), (102, .int .i64 t)]) hh) :
    WP Tryd.prog 239 (.loop z4o) (frOf [(2, .iptr c.cells), (3, .iptr (z16 c A i1 i2)), (4, .ptr h.next 0), (5, .ptr oid 0), (11, .int .i64 t), (100, slAV 3 z0n.cells c.Threads), (101, .int .i64 (slL c.Threads).length), (102, .int .i64 t), (108, slAV 8 z0m.cells b.Code), (109, .int .i64 (slL b.Code).length), (110, .int .i64 0)]) h0 Q := by
  have htl : t < (slL c.Threads).length := (List.getElem?_eq_some_iff.1 hb).1
  have hcl := (wc.slo t b hb).2
  have p32 := pow_small wc.sit
  have h32 := wc.sit
  have ls1 : ∀ (H : z04) (K : AV → Prop), z02 (some 3) (.iptr (z16 c A i1 i2)) H K = K (.agg (z16 c A i1 i2)) := fun H K => by rw [z3l]; exact z2o c A i1 i2 K
  have lc : ∀ (H : z04) (K : AV → Prop), z02 (some 5) (.iptr c.cells) H K = K (.agg c.cells) := fun H K => by rw [z3l]; exact z0i.call c K
  obtain ⟨I, hI⟩ : ∃ I : Nat → Fr → z04 → Prop, I = (fun n fr hh => ∃ (a : Nat) (ρ : Sg), n = (slL b.Code).length - a ∧ a ≤ (slL b.Code).length ∧ RV h hh oid c σ ρ A B j1 j2 ∧ IsR c σ ρ (fun t' a' => t' < t ∨ (t' = t ∧ a' < a)) ∧ fr = frOf [(2, .iptr c.cells), (3, .iptr (z16 c A i1 i2)), (4, .ptr h.next 0), (5, .ptr oid 0), (11, .int .i64 t), (100, slAV 3 z0n.cells c.Threads), (101, .int .i64 (slL c.Threads).length), (102, .int .i64 t), (108, slAV 8 z0m.cells b.Code), (109, .int .i64 (slL b.Code).length), (110, .int .i64 a)]) := ⟨_, rfl⟩
  refine z1c z0l (by kernel_rfl) I (slL b.Code).length (by rw [hI]; exact ⟨0, ρ0, rfl, Nat.zero_le _, R0, P0.weak (fun t' _ a' _ _ _ => by omega), rfl⟩) ?_
  clear R0 P0
  intro n fr hh hi
  rw [hI] at hi
  obtain ⟨a, ρ, rfl, ha, R, P, rfl⟩ := hi
  apply padlockref11_Round_loop29
  (repeat (first | simp -dsimp -implicitDefEqProofs (disch := omega) only [↓rP, rQ, rO, rL, ↓reduceIte, Nat.reduceEqDiff, Nat.reduceAdd, Nat.reduceLeDiff, z01, z05, ↓tyr] | refine Cut.go ?_))
  refine z0e (fun hkl => ?_) (fun hkl => ?_)
  · obtain ⟨x, hx⟩ : ∃ x, (slL b.Code)[a]? = some x := ⟨_, List.getElem?_eq_getElem (by omega)⟩
    have w := wc.ins t a b x hb hx
    have R1 := R.mono (Keeps.one hh (.row 58 x.cells))
    have bdr := P.bd wc bd
    have P2 : IsR c σ (stepR c t x σ ρ) (fun t' a' => t' < t ∨ (t' = t ∧ a' < a + 1)) := (P.step hb hx).weak (fun t' _ a' _ _ _ => by omega)
    have hxo : (hh.push (.row 58 x.cells)).objs hh.next = some (.row 58 x.cells) := z2r _ _
    have hn1 : hh.next < (hh.push (.row 58 x.cells)).next := Nat.lt_succ_self _
    obtain ⟨H1, hH1⟩ : ∃ H1, H1 = hh.push (.row 58 x.cells) := ⟨_, rfl⟩
    (repeat (first | simp -dsimp -implicitDefEqProofs (disch := omega) only [↓rP, rQ, rO, rL, ↓reduceIte, Nat.reduceEqDiff, Nat.reduceAdd, Nat.reduceLeDiff, z01, z05, ↓tyr, z0k hx] | refine Cut.go ?_))
    rw [← hH1] at R1 hxo hn1 ⊢
    have ldx : ∀ (off : Nat) (q : Option Nat) (K : AV → Prop), z02 q (.ptr hh.next off) H1 K = z0b q x.cells off K := fun off q K => z0x hxo q K
    (repeat (first | simp -dsimp -implicitDefEqProofs (disch := omega) only [↓rP, rQ, rO, rL, ↓reduceIte, Nat.reduceEqDiff, Nat.reduceAdd, Nat.reduceLeDiff, z01, z05, ↓tyr, ↓lc, ldx] | refine Cut.go ?_))
    refine z03.go (Dst_does hb w) ?_
    cases hds : dstB c t x with
    | true =>
      have hop : x.Op = 1 ∨ x.Op = 2 ∨ x.Op = 3 ∨ x.Op = 8 ∨ x.Op = 9 := by
        simp only [dstB, Bool.and_eq_true, Bool.or_eq_true, decide_eq_true_eq] at hds
        omega
      have n5 : (x.Op == 5) = false := by rw [beqI]; exact decide_eq_false (by omega)
      have n6 : (x.Op == 6) = false := by rw [beqI]; exact decide_eq_false (by omega)
      obtain ⟨d, ed, hd⟩ := z4b (w.dst (by omega))
      have hdl : d < lenR c (.s t) := by rw [lenR_s hb]; exact hd
      obtain ⟨b0, b1, b2, b3, ixB, ldB⟩ := R1.dst.ix hdl
      have hbr : z1w c σ t x < 18446744073709551616 := by have := lt_of_bits (fun i hi => brings_bd bd w (t := t) (i := i) hi); omega
      have eo : iOr .u64 ((ρ (.s t) d : Nat) : Int) ((z1w c σ t x : Nat) : Int) = ((ρ (.s t) d ||| z1w c σ t x : Nat) : Int) := iOr_u64 _ _ (by have := bdr.lt (.s t) d; omega) hbr
      obtain ⟨st, R2⟩ := R1.put hdl b1 (ρ (.s t) d ||| z1w c σ t x)
      rw [stepR_dst hds ed] at R2
      have hxn : hh.next ≠ b0 := by rintro rfl; rw [hxo] at b3; simp at b3
      (repeat (first | simp -dsimp -implicitDefEqProofs (disch := omega) only [↓rP, rQ, rO, rL, ↓reduceIte, Nat.reduceEqDiff, Nat.reduceAdd, Nat.reduceLeDiff, z01, z05, ↓tyr, R1.ld, solR, z3g htl, ldx, ed, ixB, ldB, ↓lc, ↓ls1] | refine Cut.go ?_))
      refine z03.go (Brings_does R1.src wc bd i1 i2 hb w hop) ?_
      (repeat (first | simp -dsimp -implicitDefEqProofs (disch := omega) only [↓rP, rQ, rO, rL, ↓reduceIte, Nat.reduceEqDiff, Nat.reduceAdd, Nat.reduceLeDiff, z01, z05, ↓tyr, R1.ld, solR, z3g htl, ldx, ed, ixB, ldB, eo, st] | refine Cut.go ?_))
      obtain ⟨H2, hH2⟩ : ∃ H2, H2 = H1.put b0 (.row 23 (rowC (fun j => if j = d then (ρ (.s t) d ||| z1w c σ t x) else ρ (.s t) j) (lenR c (.s t)))) := ⟨_, rfl⟩
      rw [← hH2] at R2 ⊢
      have ldx2 : ∀ (off : Nat) (q : Option Nat) (K : AV → Prop), z02 q (.ptr hh.next off) H2 K = z0b q x.cells off K := fun off q K => z0x (by rw [hH2, z1g hxn]; exact hxo) q K
      (repeat (first | simp -dsimp -implicitDefEqProofs (disch := omega) only [↓rP, rQ, rO, rL, ↓reduceIte, Nat.reduceEqDiff, Nat.reduceAdd, Nat.reduceLeDiff, z01, z05, ↓tyr, ldx2, n5, n6, wkS a (by omega)] | refine Cut.go ?_))
      rw [z0a, hI]
      exact ⟨_, by omega, a + 1, _, rfl, by omega, R2, P2, rfl⟩
    | false =>
      by_cases h5 : x.Op = 5
      · obtain ⟨w1, w2⟩ := w.items (Or.inr (Or.inl h5))
        obtain ⟨N, eN, hl⟩ := z4b (w.glob (Or.inr h5))
        obtain ⟨g, hg⟩ : ∃ g, (slL c.Globals)[N]? = some g := ⟨_, List.getElem?_eq_getElem hl⟩
        have hgl : N < lenR c .g := hl
        have hmo : meansO (getI (slL c.Globals) x.N) = meansB g := by rw [eN, z2v, hg]; rfl
        have hm : z2d σ t (slL x.Items) < 18446744073709551616 := by have := lt_of_bits (fun i hi => items_bd bd (t := t) (l := slL x.Items) (i := i) hi); omega
        (repeat (first | simp -dsimp -implicitDefEqProofs (disch := omega) only [↓rP, rQ, rO, rL, ↓reduceIte, Nat.reduceEqDiff, Nat.reduceAdd, Nat.reduceLeDiff, z01, z05, ↓tyr, ldx, h5, Int.reduceBEq, eN, z0k hg] | refine Cut.go ?_))
        refine z03.go (Means_does g _) ?_
        cases hmg : meansB g with
        | true =>
          obtain ⟨b0, b1, b2, b3, ixB, ldB⟩ := R1.dst.ix hgl
          have eo : iOr .u64 ((ρ .g N : Nat) : Int) ((z2d σ t (slL x.Items) : Nat) : Int) = ((ρ .g N ||| z2d σ t (slL x.Items) : Nat) : Int) := iOr_u64 _ _ (by have := bdr.lt .g N; omega) hm
          obtain ⟨st, R2⟩ := R1.put hgl b1 (ρ .g N ||| z2d σ t (slL x.Items))
          rw [stepR_five h5 eN (by rw [hmo, hmg])] at R2
          have hxn : hh.next ≠ b0 := by rintro rfl; rw [hxo] at b3; simp at b3
          have hs3 : (z16 c A i1 i2).length = 3 := rfl
          have ht3 : List.take 3 (z16 c A i1 i2) = z16 c A i1 i2 := rfl
          (repeat (first | simp -dsimp -implicitDefEqProofs (disch := omega) only [↓rP, rQ, rO, rL, ↓reduceIte, Nat.reduceEqDiff, Nat.reduceAdd, Nat.reduceLeDiff, z01, z05, ↓tyr, R1.ld, solR, ldx, eN, ixB, ldB, hs3, ht3] | refine Cut.go ?_))
          refine z03.go (RItems_does R1.src wc bd i1 i2 hb x.Items w1 w2) ?_
          (repeat (first | simp -dsimp -implicitDefEqProofs (disch := omega) only [↓rP, rQ, rO, rL, ↓reduceIte, Nat.reduceEqDiff, Nat.reduceAdd, Nat.reduceLeDiff, z01, z05, ↓tyr, R1.ld, solR, ldx, eN, ixB, ldB, eo, st] | refine Cut.go ?_))
          obtain ⟨H2, hH2⟩ : ∃ H2, H2 = H1.put b0 (.row 23 (rowC (fun j => if j = N then (ρ .g N ||| z2d σ t (slL x.Items)) else ρ .g j) (lenR c .g))) := ⟨_, rfl⟩
          rw [← hH2] at R2 ⊢
          have ldx2 : ∀ (off : Nat) (q : Option Nat) (K : AV → Prop), z02 q (.ptr hh.next off) H2 K = z0b q x.cells off K := fun off q K => z0x (by rw [hH2, z1g hxn]; exact hxo) q K
          (repeat (first | simp -dsimp -implicitDefEqProofs (disch := omega) only [↓rP, rQ, rO, rL, ↓reduceIte, Nat.reduceEqDiff, Nat.reduceAdd, Nat.reduceLeDiff, z01, z05, ↓tyr, ldx2, h5, Int.reduceBEq, wkS a (by omega)] | refine Cut.go ?_))
          rw [z0a, hI]
          exact ⟨_, by omega, a + 1, _, rfl, by omega, R2, P2, rfl⟩
        | false =>
          rw [stepR_no hds (fun _ => by rw [hmo, hmg]) (fun h => by omega)] at P2
          (repeat (first | simp -dsimp -implicitDefEqProofs (disch := omega) only [↓rP, rQ, rO, rL, ↓reduceIte, Nat.reduceEqDiff, Nat.reduceAdd, Nat.reduceLeDiff, z01, z05, ↓tyr, ldx, h5, Int.reduceBEq, wkS a (by omega)] | refine Cut.go ?_))
          rw [z0a, hI]
          exact ⟨_, by omega, a + 1, _, rfl, by omega, R1, P2, rfl⟩
      · have n5 : (x.Op == 5) = false := by rw [beqI]; exact decide_eq_false (by omega)
        by_cases h6 : x.Op = 6
        · obtain ⟨w1, w2⟩ := w.items (Or.inr (Or.inr h6))
          obtain ⟨rr, hr, hN, hS⟩ := w.fld (Or.inr h6)
          obtain ⟨N, eN, hNl⟩ := z4b hN
          obtain ⟨m, em, hml⟩ := z4b hS
          obtain ⟨f, hf⟩ : ∃ f, (slL rr)[N]? = some f := ⟨_, List.getElem?_eq_getElem hNl⟩
          have hsl : m < lenR c (.s t) := by rw [lenR_s hb]; exact hml
          have hmo : meansO (getI (recL c x.Rec) x.N) = meansB f := by simp only [recL, hr]; rw [eN, z2v, hf]; rfl
          (repeat (first | simp -dsimp -implicitDefEqProofs (disch := omega) only [↓rP, rQ, rO, rL, ↓reduceIte, Nat.reduceEqDiff, Nat.reduceAdd, Nat.reduceLeDiff, z01, z05, ↓tyr, ldx, h6, Int.reduceBEq, ixI hr, ld_one, eN, z0k hf] | refine Cut.go ?_))
          refine z03.go (Means_does f _) ?_
          cases hmg : meansB f with
          | true =>
            (repeat (first | simp -dsimp -implicitDefEqProofs (disch := omega) only [↓rP, rQ, rO, rL, ↓reduceIte, Nat.reduceEqDiff, Nat.reduceAdd, Nat.reduceLeDiff, z01, z05, ↓tyr] | refine Cut.go ?_))
            refine round_37 (xid := hh.next) (rr := rr) wc hb eN em hsl hr hNl w1 w2 bd bdr R1 hxo hn1 _ _ ?_
            intro H2 R2
            rw [stepR_six h6 eN (by rw [hmo, hmg])] at R2
            (repeat (first | simp -dsimp -implicitDefEqProofs (disch := omega) only [↓rP, rQ, rO, rL, ↓reduceIte, Nat.reduceEqDiff, Nat.reduceAdd, Nat.reduceLeDiff, z01, z05, ↓tyr, wkS a (by omega)] | refine Cut.go ?_))
            rw [z0a, hI]
            exact ⟨_, by omega, a + 1, _, rfl, by omega, R2, P2, rfl⟩
          | false =>
            rw [stepR_no hds (fun h => by omega) (fun _ => by rw [hmo, hmg])] at P2
            (repeat (first | simp -dsimp -implicitDefEqProofs (disch := omega) only [↓rP, rQ, rO, rL, ↓reduceIte, Nat.reduceEqDiff, Nat.reduceAdd, Nat.reduceLeDiff, z01, z05, ↓tyr, wkS a (by omega)] | refine Cut.go ?_))
            rw [z0a, hI]
            exact ⟨_, by omega, a + 1, _, rfl, by omega, R1, P2, rfl⟩
        · have n6 : (x.Op == 6) = false := by rw [beqI]; exact decide_eq_false (by omega)
          rw [stepR_no hds (fun h => by omega) (fun h => by omega)] at P2
          (repeat (first | simp -dsimp -implicitDefEqProofs (disch := omega) only [↓rP, rQ, rO, rL, ↓reduceIte, Nat.reduceEqDiff, Nat.reduceAdd, Nat.reduceLeDiff, z01, z05, ↓tyr, ldx, n5, n6, wkS a (by omega)] | refine Cut.go ?_))
          rw [z0a, hI]
          exact ⟨_, by omega, a + 1, _, rfl, by omega, R1, P2, rfl⟩
  · (repeat (first | simp -dsimp -implicitDefEqProofs (disch := omega) only [↓rP, rQ, rO, rL, ↓reduceIte, Nat.reduceEqDiff, Nat.reduceAdd, Nat.reduceLeDiff, z01, z05, ↓tyr] | refine Cut.go ?_))
    have : a = (slL b.Code).length := by omega
    subst this
    refine hQ hh ρ R (P.weak fun t' b' a' x' hb' hx' => ?_)
    by_cases e : t' = t
    · subst e
      rw [hb] at hb'; cases hb'
      have := (List.getElem?_eq_some_iff.1 hx').1
      omega
    · omega
theorem round_26 {c : Cd} (wc : WfC c) {h h0 : z04} {oid i1 i2 j1 j2 : Nat} {σ : Sg} {A B : Rw → AV} (bd : Bd2 c σ) (R0 : RV h h0 oid c σ σ A B j1 j2) (Q : z18 → Fr → z04 → Prop)
    (hQ : ∀ hh ρ, RV h hh oid c σ ρ A B j1 j2 → IsR c σ ρ (fun _ _ => True) → Q (.exit 10) (frOf [(4, .ptr h.next 0), (5, .ptr oid 0)]) hh) :
    WP Tryd.prog 239 (.loop z4n) (frOf [(2, .iptr c.cells), (3, .iptr (z16 c A i1 i2)), (4, .ptr h.next 0), (5, .ptr oid 0), (100, slAV 3 z0n.cells c.Threads), (101, .int .i64 (slL c.Threads).length), (102, .int .i64 0)]) h0 Q := by
  have ht := wc.thr
  obtain ⟨I, hI⟩ : ∃ I : Nat → Fr → z04 → Prop, I = (fun n fr hh => ∃ (k : Nat) (ρ : Sg), n = (slL c.Threads).length - k ∧ k ≤ (slL c.Threads).length ∧ RV h hh oid c σ ρ A B j1 j2 ∧ IsR c σ ρ (fun t' _ => t' < k) ∧ fr = frOf [(2, .iptr c.cells), (3, .iptr (z16 c A i1 i2)), (4, .ptr h.next 0), (5, .ptr oid 0), (100, slAV 3 z0n.cells c.Threads), (101, .int .i64 (slL c.Threads).length), (102, .int .i64 k)]) := ⟨_, rfl⟩
  refine z1c z0l (by kernel_rfl) I (slL c.Threads).length (by rw [hI]; exact ⟨0, σ, rfl, Nat.zero_le _, R0, (IsR.start c σ).weak (fun t' _ a' _ _ _ => by simp), rfl⟩) ?_
  intro n fr hh hi
  rw [hI] at hi
  obtain ⟨k, ρ, rfl, hk, R, P, rfl⟩ := hi
  apply padlockref11_Round_loop26
  (repeat (first | simp -dsimp -implicitDefEqProofs (disch := omega) only [↓rP, rQ, rO, rL, ↓reduceIte, Nat.reduceEqDiff, Nat.reduceAdd, Nat.reduceLeDiff, z01, z05, ↓tyr] | refine Cut.go ?_))
  refine z0e (fun hkl => ?_) (fun hkl => ?_)
  · obtain ⟨b, hb⟩ : ∃ b, (slL c.Threads)[k]? = some b := ⟨_, List.getElem?_eq_getElem (by omega)⟩
    have R1 := R.mono (Keeps.one hh (.row 51 b.cells))
    (repeat (first | simp -dsimp -implicitDefEqProofs (disch := omega) only [↓rP, rQ, rO, rL, ↓reduceIte, Nat.reduceEqDiff, Nat.reduceAdd, Nat.reduceLeDiff, z01, z05, ↓tyr, z0k hb] | refine Cut.go ?_))
    refine round_29 wc hb bd R1 P _ ?_
    intro h2 ρ2 R2 P2
    (repeat (first | simp -dsimp -implicitDefEqProofs (disch := omega) only [↓rP, rQ, rO, rL, ↓reduceIte, Nat.reduceEqDiff, Nat.reduceAdd, Nat.reduceLeDiff, z01, z05, ↓tyr, wkS k (by omega)] | refine Cut.go ?_))
    rw [z0a, hI]
    exact ⟨_, by omega, k + 1, ρ2, rfl, by omega, R2, P2, rfl⟩
  · (repeat (first | simp -dsimp -implicitDefEqProofs (disch := omega) only [↓rP, rQ, rO, rL, ↓reduceIte, Nat.reduceEqDiff, Nat.reduceAdd, Nat.reduceLeDiff, z01, z05, ↓tyr] | refine Cut.go ?_))
    have : k = (slL c.Threads).length := by omega
    subst this
    refine hQ hh ρ R (P.weak fun t b' a' x' hb' _ => ?_)
    have := (List.getElem?_eq_some_iff.1 hb').1
    simp [this]
theorem Round_does {h : z04} {c : Cd} {σ : Sg} {A : Rw → AV} (S : z3m h c σ A) (wc : WfC c) (bd : Bd2 c σ) (rg : Rg c σ) (i1 i2 : Nat) :
    z03 Tryd.prog 25 [.agg c.cells, .agg (z16 c A i1 i2)] h (fun v h2 => ∃ ρ B j1 j2, v = .agg (z16 c B j1 j2) ∧ z3m h2 c ρ B ∧ (∀ r id, B r = .sl id 0 (lenR c r) 1 → h.next < id) ∧ IsR c σ ρ (fun _ _ => True) ∧ Keeps h h2 (fun _ => False)) := by
  have rs := wc.rs
  have lc : ∀ (H : z04) (K : AV → Prop), z02 (some 5) (.iptr c.cells) H K = K (.agg c.cells) := fun H K => by rw [z3l]; exact z0i.call c K
  apply padlockref11_Round_wp
  (repeat (first | simp -dsimp -implicitDefEqProofs (disch := omega) only [↓rP, rQ, rO, rL, ↓reduceIte, Nat.reduceEqDiff, Nat.reduceAdd, Nat.reduceLeDiff, z01, z05, ↓tyr, ↓lc] | refine Cut.go ?_))
  refine (Empty_does c wc _).mono ?_
  rintro _ H ⟨B, j1, j2, rfl, S2, own, kp⟩
  have hn := kp.next
  have hn2 : h.next + 1 ≤ H.next := by simpa using hn
  have hres : H.objs h.next = some (.row 29 [.nils, .nils, .nils]) := by rw [kp.objs _ (by simp) (fun h => h), z2r]
  have R0 : RV h (H.push (.row 29 (z16 c B j1 j2))) H.next c σ (cpy (fun _ _ => false) σ) A B j1 j2 := by
    have k1 : Keeps h H (fun _ => False) := (Keeps.one _ _).go kp
    refine ⟨(S.keep k1 (fun _ _ _ h => h)).keep (Keeps.one _ _) (fun _ _ _ h => h), ?_, z2r _ _, fun r id e => by have := own r id e; simp at this; omega, fun r id e => S.old e, ?_, by omega, by simp, k1.go (Keeps.one _ _)⟩
    · have e0 : cpy (fun _ _ => false) σ = fun _ _ => 0 := by funext r n; simp [cpy]
      rw [e0]
      exact S2.keep (Keeps.one _ _) (fun _ _ _ h => h)
    · rw [z1u (by omega)]; exact hres
  (repeat (first | simp -dsimp -implicitDefEqProofs (disch := omega) only [↓rP, rQ, rO, rL, ↓reduceIte, Nat.reduceEqDiff, Nat.reduceAdd, Nat.reduceLeDiff, z01, z05, ↓tyr] | refine Cut.go ?_))
  rw [z1e (by rfl) (by rfl)]
  (repeat (first | simp -dsimp -implicitDefEqProofs (disch := omega) only [↓rP, rQ, rO, rL, ↓reduceIte, Nat.reduceEqDiff, Nat.reduceAdd, Nat.reduceLeDiff, z01, z05, ↓tyr, solR, R0.src.len] | refine Cut.go ?_))
  refine round_3 rs R0 _ ?_
  intro H3 R3
  (repeat (first | simp -dsimp -implicitDefEqProofs (disch := omega) only [↓rP, rQ, rO, rL, ↓reduceIte, Nat.reduceEqDiff, Nat.reduceAdd, Nat.reduceLeDiff, z01, z05, ↓tyr, solR, outA_len] | refine Cut.go ?_))
  refine round_8 rs rg R3 _ ?_
  intro H8 R8
  (repeat (first | simp -dsimp -implicitDefEqProofs (disch := omega) only [↓rP, rQ, rO, rL, ↓reduceIte, Nat.reduceEqDiff, Nat.reduceAdd, Nat.reduceLeDiff, z01, z05, ↓tyr, solR, outA_len] | refine Cut.go ?_))
  refine round_17 rs rg R8 _ ?_
  intro H17 R17
  (repeat (first | simp -dsimp -implicitDefEqProofs (disch := omega) only [↓rP, rQ, rO, rL, ↓reduceIte, Nat.reduceEqDiff, Nat.reduceAdd, Nat.reduceLeDiff, z01, z05, ↓tyr] | refine Cut.go ?_))
  refine round_26 wc bd R17 _ ?_
  intro H4 ρ R P
  have ls : ∀ K : AV → Prop, z02 (some 3) (.ptr H.next 0) H4 K = K (.agg (z16 c B j1 j2)) := fun K => by rw [R.ld]; exact z2o c B j1 j2 K
  (repeat (first | simp -dsimp -implicitDefEqProofs (disch := omega) only [↓rP, rQ, rO, rL, ↓reduceIte, Nat.reduceEqDiff, Nat.reduceAdd, Nat.reduceLeDiff, z01, z05, ↓tyr, ↓ls] | refine Cut.go ?_))
  have hst : ∀ K : z04 → Prop, z0v 3 (.ptr h.next 0) (.agg (z16 c B j1 j2)) H4 K = K (H4.put h.next (.row 29 (z16 c B j1 j2))) := fun K => by
    simp only [z0v, R.res]
    simp [z16]
  rw [hst]
  have ldr : ∀ K : AV → Prop, z02 (some 3) (.ptr h.next 0) (H4.put h.next (.row 29 (z16 c B j1 j2))) K = K (.agg (z16 c B j1 j2)) := fun K => by
    rw [z0x (put_new _ _ _)]; exact z2o c B j1 j2 K
  (repeat (first | simp -dsimp -implicitDefEqProofs (disch := omega) only [↓rP, rQ, rO, rL, ↓reduceIte, Nat.reduceEqDiff, Nat.reduceAdd, Nat.reduceLeDiff, z01, z05, ↓tyr, ↓ldr] | refine Cut.go ?_))
  refine ⟨ρ, B, j1, j2, rfl, ?_, R.own, P, R.keep.putNew (Nat.le_refl _) _⟩
  refine R.dst.keep (S := fun i => i = h.next) ⟨Nat.le_refl _, fun i _ hi => z1g hi _⟩ (fun r id e h => ?_)
  have := R.own r id e
  omega
end Go.Proofs.YtopfjochppdnfaaDoor
end

section
/- The least sets, by the document: round by round. -/
set_option maxRecDepth 8000
set_option maxHeartbeats 1000000
namespace Go.Proofs.YtopfjochppdnfaaDoor
open Go.Abs
structure DV (h hh : z04) (sid : Nat) (c : Cd) (σ : Sg) (A : Rw → AV) (i1 i2 : Nat) : Prop where
  sets : z3m hh c σ A
  obj : hh.objs sid = some (.row 29 (z16 c A i1 i2))
  own : ∀ r id, A r = .sl id 0 (lenR c r) 1 → h.next < id
  res : hh.objs h.next = some (.row 29 [.nils, .nils, .nils])
  gt : h.next < sid
  lt : sid < hh.next
  keep : Keeps h hh (fun _ => False)
theorem rsolve_4 {c : Cd} (wc : WfC c) {h h0 : z04} {sid i1 i2 : Nat} {σ0 : Sg} {A0 : Rw → AV} (D0 : DV h h0 sid c σ0 A0 i1 i2) (l0 : Lw c σ0) (b0 : Bd2 c σ0) (g0 : Rg c σ0) (Q : z18 → Fr → z04 → Prop)
    (hQ : ∀ hh σ A i1 i2, DV h hh sid c σ A i1 i2 → Cl c σ → Lw c σ → Bd2 c σ → Rg c σ → Q .ret (frOf [(2, .ptr h.next 0)]) (hh.put h.next (.row 29 (z16 c A i1 i2)))) :
    WP Tryd.prog 19 (.loop z4x) (frOf [(1, .iptr c.cells), (2, .ptr h.next 0), (3, .ptr sid 0)]) h0 Q := by
  have rs := wc.rs
  have lc : ∀ (H : z04) (K : AV → Prop), z02 (some 5) (.iptr c.cells) H K = K (.agg c.cells) := fun H K => by rw [z3l]; exact z0i.call c K
  obtain ⟨I, hI⟩ : ∃ I : Nat → Fr → z04 → Prop, I = (fun n fr hh => ∃ σ A i1 i2, n = leftOf c σ ∧ DV h hh sid c σ A i1 i2 ∧ Lw c σ ∧ Bd2 c σ ∧ Rg c σ ∧ fr = frOf [(1, .iptr c.cells), (2, .ptr h.next 0), (3, .ptr sid 0)]) := ⟨_, rfl⟩
  refine z1c z0l (by kernel_rfl) I (leftOf c σ0) (by rw [hI]; exact ⟨σ0, A0, i1, i2, rfl, D0, l0, b0, g0, rfl⟩) ?_
  intro n fr hh hi
  rw [hI] at hi
  obtain ⟨σ, A, i1, i2, rfl, D, l1, l2, l3, rfl⟩ := hi
  have ls : ∀ K : AV → Prop, z02 (some 3) (.ptr sid 0) hh K = K (.agg (z16 c A i1 i2)) := fun K => by rw [z0x D.obj]; exact z2o c A i1 i2 K
  apply padlockref11_Solve_loop4
  (repeat simp -dsimp -implicitDefEqProofs (disch := omega) only [↓rP, rQ, rO, rL, ↓reduceIte, Nat.reduceEqDiff, Nat.reduceAdd, Nat.reduceLeDiff, z01, z05, ↓tyr, ↓lc, ↓ls])
  refine (Round_does D.sets wc l2 l3 i1 i2).mono ?_
  rintro _ H ⟨ρ, B, j1, j2, rfl, S2, own2, isr, kp⟩
  have hsid := D.lt
  have hgt := D.gt
  have kn := kp.next
  have oS : H.objs sid = some (.row 29 (z16 c A i1 i2)) := by rw [kp.objs _ D.lt (fun h => h)]; exact D.obj
  have oR : H.objs h.next = some (.row 29 [.nils, .nils, .nils]) := by rw [kp.objs _ (by omega) (fun h => h)]; exact D.res
  have S1 := D.sets.keep kp (fun _ _ _ h => h)
  (repeat simp -dsimp -implicitDefEqProofs (disch := omega) only [↓rP, rQ, rO, rL, ↓reduceIte, Nat.reduceEqDiff, Nat.reduceAdd, Nat.reduceLeDiff, z01, z05, ↓tyr])
  rw [z1e (by rfl) (by rfl)]
  obtain ⟨G, hG⟩ : ∃ G, G = H.push (.row 29 (z16 c B j1 j2)) := ⟨_, rfl⟩
  have kG : Keeps H G (fun _ => False) := by rw [hG]; exact Keeps.one _ _
  have gS : G.objs sid = some (.row 29 (z16 c A i1 i2)) := by rw [kG.objs _ (by omega) (fun h => h)]; exact oS
  have gR : G.objs h.next = some (.row 29 [.nils, .nils, .nils]) := by rw [kG.objs _ (by omega) (fun h => h)]; exact oR
  have gT : G.objs H.next = some (.row 29 (z16 c B j1 j2)) := by rw [hG]; exact z2r _ _
  have gn : G.next = H.next + 1 := by rw [hG]; rfl
  have G1 := S1.keep kG (fun _ _ _ h => h)
  have G2 := S2.keep kG (fun _ _ _ h => h)
  rw [← hG]
  have ls1 : ∀ K : AV → Prop, z02 (some 3) (.ptr sid 0) G K = K (.agg (z16 c A i1 i2)) := fun K => by rw [z0x gS]; exact z2o c A i1 i2 K
  have ls2 : ∀ K : AV → Prop, z02 (some 3) (.ptr H.next 0) G K = K (.agg (z16 c B j1 j2)) := fun K => by rw [z0x gT]; exact z2o c B j1 j2 K
  (repeat simp -dsimp -implicitDefEqProofs (disch := omega) only [↓rP, rQ, rO, rL, ↓reduceIte, Nat.reduceEqDiff, Nat.reduceAdd, Nat.reduceLeDiff, z01, z05, ↓tyr, ↓ls1, ↓ls2])
  refine z03.go (Same_does G1 G2 rs rs i1 i2 j1 j2) ?_
  have st3 : ∀ (id : Nat) (cs : List AV) (hid : G.objs id = some (.row 29 cs)) (hl : cs.length = 3) (C : Rw → AV) (a b : Nat) (K : z04 → Prop), z0v 3 (.ptr id 0) (.agg (z16 c C a b)) G K = K (G.put id (.row 29 (z16 c C a b))) := fun id cs hid hl C a b K => by
    simp only [z0v, hid]
    have e1 : (z16 c C a b).length = 3 := rfl
    simp [e1, hl, List.drop_of_length_le]
  have rgR := isr.rg wc l3
  cases hd : decide (flatN c σ = flatN c ρ) with
  | true =>
    have e : σ = ρ := flat_inj l3 rgR (of_decide_eq_true hd)
    (repeat simp -dsimp -implicitDefEqProofs (disch := omega) only [↓rP, rQ, rO, rL, ↓reduceIte, Nat.reduceEqDiff, Nat.reduceAdd, Nat.reduceLeDiff, z01, z05, ↓tyr, ↓ls1])
    rw [st3 h.next _ gR rfl]
    (repeat simp -dsimp -implicitDefEqProofs (disch := omega) only [↓rP, rQ, rO, rL, ↓reduceIte, Nat.reduceEqDiff, Nat.reduceAdd, Nat.reduceLeDiff, z01, z05, ↓tyr])
    refine hQ G σ A i1 i2 ⟨G1, gS, D.own, gR, hgt, by omega, (D.keep.go kp).go kG⟩ ((isr.fix).1 e.symm) l1 l2 l3
  | false =>
    have e : ρ ≠ σ := fun e => by rw [e] at hd; simp at hd
    (repeat simp -dsimp -implicitDefEqProofs (disch := omega) only [↓rP, rQ, rO, rL, ↓reduceIte, Nat.reduceEqDiff, Nat.reduceAdd, Nat.reduceLeDiff, z01, z05, ↓tyr, ↓ls2])
    rw [st3 sid _ gS rfl]
    (repeat simp -dsimp -implicitDefEqProofs (disch := omega) only [↓rP, rQ, rO, rL, ↓reduceIte, Nat.reduceEqDiff, Nat.reduceAdd, Nat.reduceLeDiff, z01, z05, ↓tyr])
    rw [z0a, hI]
    refine ⟨leftOf c ρ, left_lt isr.le (isr.bd wc l2) rgR e, ρ, B, j1, j2, rfl, ⟨?_, put_new _ _ _, fun r id e => by have := own2 r id e; omega, ?_, hgt, by simp; omega, ((D.keep.go kp).go kG).putNew (by omega) _⟩, isr.lw l1, isr.bd wc l2, rgR, rfl⟩
    · refine G2.keep (S := fun i => i = sid) ⟨Nat.le_refl _, fun i _ hi => z1g hi _⟩ (fun r id e1 h1 => ?_)
      have := own2 r id e1
      omega
    · rw [z1g (by omega)]; exact gR
theorem RSolve_does (c : Cd) (hc : c.ok) (sm : Small c) (h : z04) : z03 Tryd.prog 23 [.agg c.cells] h (fun v h2 => SolvedQ h c v h2) := by
  apply padlockref11_Solve_wp
  (repeat simp -dsimp -implicitDefEqProofs (disch := omega) only [↓rP, rQ, rO, rL, ↓reduceIte, Nat.reduceEqDiff, Nat.reduceAdd, Nat.reduceLeDiff, z01, z05, ↓tyr])
  refine z03.go (ref_Good_c c hc sm _) ?_
  cases hg : okC c with
  | false =>
    (repeat simp -dsimp -implicitDefEqProofs (disch := omega) only [↓rP, rQ, rO, rL, ↓reduceIte, Nat.reduceEqDiff, Nat.reduceAdd, Nat.reduceLeDiff, z01, z05, ↓tyr])
    rw [z1e (by rfl) (by rfl)]
    (repeat simp -dsimp -implicitDefEqProofs (disch := omega) only [↓rP, rQ, rO, rL, ↓reduceIte, Nat.reduceEqDiff, Nat.reduceAdd, Nat.reduceLeDiff, z01, z05, ↓tyr])
    exact Or.inl ⟨hg, rfl, Keeps.one _ _⟩
  | true =>
    have wc := wf_of hg
    (repeat simp -dsimp -implicitDefEqProofs (disch := omega) only [↓rP, rQ, rO, rL, ↓reduceIte, Nat.reduceEqDiff, Nat.reduceAdd, Nat.reduceLeDiff, z01, z05, ↓tyr])
    refine (Empty_does c wc _).mono ?_
    rintro _ H ⟨A, i1, i2, rfl, S, own, kp⟩
    have kn := kp.next
    have kn2 : h.next + 1 ≤ H.next := by simpa using kn
    have oR : H.objs h.next = some (.row 29 [.nils, .nils, .nils]) := by rw [kp.objs _ (by simp) (fun h => h), z2r]
    (repeat simp -dsimp -implicitDefEqProofs (disch := omega) only [↓rP, rQ, rO, rL, ↓reduceIte, Nat.reduceEqDiff, Nat.reduceAdd, Nat.reduceLeDiff, z01, z05, ↓tyr])
    rw [z1e (by rfl) (by rfl)]
    have D : DV h (H.push (.row 29 (z16 c A i1 i2))) H.next c (fun _ _ => 0) A i1 i2 := by
      refine ⟨S.keep (Keeps.one _ _) (fun _ _ _ h => h), z2r _ _, fun r id e => by have := own r id e; simp at this; omega, ?_, by omega, by simp, ((Keeps.one _ _).go kp).go (Keeps.one _ _)⟩
      rw [z1u (by omega)]; exact oR
    (repeat simp -dsimp -implicitDefEqProofs (disch := omega) only [↓rP, rQ, rO, rL, ↓reduceIte, Nat.reduceEqDiff, Nat.reduceAdd, Nat.reduceLeDiff, z01, z05, ↓tyr])
    refine rsolve_4 wc D (fun τ _ r n i hi => by simp at hi) (fun r n i hi => by simp at hi) (fun r n hn => absurd rfl hn) _ ?_
    intro G σ A i1 i2 D l1 l2 l3 l4
    have ldr : ∀ K : AV → Prop, z02 (some 3) (.ptr h.next 0) (G.put h.next (.row 29 (z16 c A i1 i2))) K = K (.agg (z16 c A i1 i2)) := fun K => by
      rw [z0x (put_new _ _ _)]; exact z2o c A i1 i2 K
    (repeat simp -dsimp -implicitDefEqProofs (disch := omega) only [↓rP, rQ, rO, rL, ↓reduceIte, Nat.reduceEqDiff, Nat.reduceAdd, Nat.reduceLeDiff, z01, z05, ↓tyr, ↓ldr])
    refine Or.inr ⟨hg, σ, A, i1, i2, rfl, ?_, fun r id e => Nat.le_of_lt (D.own r id e), l1, l2, l3, l4, D.keep.putNew (Nat.le_refl _) _⟩
    refine D.sets.keep (S := fun i => i = h.next) ⟨Nat.le_refl _, fun i _ hi => z1g hi _⟩ (fun r id e h => ?_)
    have := D.own r id e
    omega
def noC : Cd := ⟨none, none, none, none, none⟩
theorem noC_len (r : Rw) : lenR noC r = 0 := by cases r <;> simp [lenR, noC, slotsL]
theorem noC_sets (h : z04) : z3m h noC (fun _ _ => 0) (fun _ => .nils) := ⟨fun r => Or.inl ⟨rfl, noC_len r⟩, fun r r' id e _ => by cases e⟩
theorem noC_rs : Rs noC := ⟨by decide, by decide, fun r => by rw [noC_len]; omega⟩
theorem noC_cells : [AV.nils, AV.nils, AV.nils] = z16 noC (fun _ => .nils) 0 0 := rfl
theorem PtsIs_does (c : Cd) (hc : c.ok) (h : z04) : z03 Tryd.prog 6 [.agg c.cells] h (fun v h2 => v = .bool true) := by
  apply padlocklaw11_PtsIs_wp
  (repeat simp -dsimp -implicitDefEqProofs (disch := omega) only [↓rP, rQ, rO, rL, ↓reduceIte, Nat.reduceEqDiff, Nat.reduceAdd, Nat.reduceLeDiff, z01, z05, ↓tyr])
  refine z03.go (alive11_does _) ?_
  (repeat simp -dsimp -implicitDefEqProofs (disch := omega) only [↓rP, rQ, rO, rL, ↓reduceIte, Nat.reduceEqDiff, Nat.reduceAdd, Nat.reduceLeDiff, z01, z05, ↓tyr])
  refine z03.go (ref_Great_does c hc _) ?_
  rcases hg : greatB c with _ | _
  · have sm := small_of hg
    (repeat simp -dsimp -implicitDefEqProofs (disch := omega) only [↓rP, rQ, rO, rL, ↓reduceIte, Nat.reduceEqDiff, Nat.reduceAdd, Nat.reduceLeDiff, z01, z05, ↓tyr])
    refine (Solve_does c hc sm _).mono ?_
    rintro v H q1
    (repeat simp -dsimp -implicitDefEqProofs (disch := omega) only [↓rP, rQ, rO, rL, ↓reduceIte, Nat.reduceEqDiff, Nat.reduceAdd, Nat.reduceLeDiff, z01, z05, ↓tyr])
    refine (RSolve_does c hc sm _).mono ?_
    rintro v2 H2 q2
    rcases q1 with ⟨e1, rfl, k1⟩ | ⟨e1, σ, A, i1, i2, rfl, S1, -, a1, a2, a3, a4, k1⟩
    · rcases q2 with ⟨e2, rfl, k2⟩ | ⟨e2, _⟩
      · (repeat simp -dsimp -implicitDefEqProofs (disch := omega) only [↓rP, rQ, rO, rL, ↓reduceIte, Nat.reduceEqDiff, Nat.reduceAdd, Nat.reduceLeDiff, z01, z05, ↓tyr])
        rw [noC_cells]
        refine z03.go (Same_does (noC_sets _) (noC_sets _) noC_rs noC_rs 0 0 0 0) ?_
        rw [decide_eq_true rfl]
        (repeat simp -dsimp -implicitDefEqProofs (disch := omega) only [↓rP, rQ, rO, rL, ↓reduceIte, Nat.reduceEqDiff, Nat.reduceAdd, Nat.reduceLeDiff, z01, z05, ↓tyr])
      · rw [e1] at e2; cases e2
    · rcases q2 with ⟨e2, _⟩ | ⟨e2, τ, B, j1, j2, rfl, S2, -, b1, b2, b3, b4, k2⟩
      · rw [e1] at e2; cases e2
      · have rs := (wf_of e1).rs
        have e : σ = τ := least_eq a1 a2 b1 b2
        (repeat simp -dsimp -implicitDefEqProofs (disch := omega) only [↓rP, rQ, rO, rL, ↓reduceIte, Nat.reduceEqDiff, Nat.reduceAdd, Nat.reduceLeDiff, z01, z05, ↓tyr])
        refine z03.go (Same_does (S1.keep k2 (fun _ _ _ h => h)) S2 rs rs i1 i2 j1 j2) ?_
        rw [decide_eq_true (by rw [e])]
        (repeat simp -dsimp -implicitDefEqProofs (disch := omega) only [↓rP, rQ, rO, rL, ↓reduceIte, Nat.reduceEqDiff, Nat.reduceAdd, Nat.reduceLeDiff, z01, z05, ↓tyr])
  · (repeat simp -dsimp -implicitDefEqProofs (disch := omega) only [↓rP, rQ, rO, rL, ↓reduceIte, Nat.reduceEqDiff, Nat.reduceAdd, Nat.reduceLeDiff, z01, z05, ↓tyr])
theorem PtsHolds_does (c : Cd) (hc : c.ok) (h : z04) : z03 Tryd.prog 7 [.agg c.cells] h (fun v h2 => v = .bool true) := by
  apply padlocklaw11_PtsHolds_wp
  (repeat simp -dsimp -implicitDefEqProofs (disch := omega) only [↓rP, rQ, rO, rL, ↓reduceIte, Nat.reduceEqDiff, Nat.reduceAdd, Nat.reduceLeDiff, z01, z05, ↓tyr])
  refine z03.go (alive11_does _) ?_
  (repeat simp -dsimp -implicitDefEqProofs (disch := omega) only [↓rP, rQ, rO, rL, ↓reduceIte, Nat.reduceEqDiff, Nat.reduceAdd, Nat.reduceLeDiff, z01, z05, ↓tyr])
  refine z03.go (ref_Great_does c hc _) ?_
  rcases hg : greatB c with _ | _
  · have sm := small_of hg
    (repeat simp -dsimp -implicitDefEqProofs (disch := omega) only [↓rP, rQ, rO, rL, ↓reduceIte, Nat.reduceEqDiff, Nat.reduceAdd, Nat.reduceLeDiff, z01, z05, ↓tyr])
    refine z03.go (ref_Good_c c hc sm _) ?_
    cases hok : okC c with
    | false => (repeat simp -dsimp -implicitDefEqProofs (disch := omega) only [↓rP, rQ, rO, rL, ↓reduceIte, Nat.reduceEqDiff, Nat.reduceAdd, Nat.reduceLeDiff, z01, z05, ↓tyr])
    | true =>
      have wc := wf_of hok
      have rs := wc.rs
      (repeat simp -dsimp -implicitDefEqProofs (disch := omega) only [↓rP, rQ, rO, rL, ↓reduceIte, Nat.reduceEqDiff, Nat.reduceAdd, Nat.reduceLeDiff, z01, z05, ↓tyr])
      refine (Solve_does c hc sm _).mono ?_
      rintro v H (⟨e1, _⟩ | ⟨e1, σ, A, i1, i2, rfl, S1, -, a1, a2, a3, a4, k1⟩)
      · rw [hok] at e1; cases e1
      · (repeat simp -dsimp -implicitDefEqProofs (disch := omega) only [↓rP, rQ, rO, rL, ↓reduceIte, Nat.reduceEqDiff, Nat.reduceAdd, Nat.reduceLeDiff, z01, z05, ↓tyr])
        rw [z1e (by rfl) (by rfl)]
        have S2 := S1.keep (Keeps.one H (.row 29 (z16 c A i1 i2))) (fun _ _ _ h => h)
        have d1 : (((slL c.Threads).length : Int) == ((slL c.Threads).length : Int)) = true := by simp
        have oS : (H.push (.row 29 (z16 c A i1 i2))).objs H.next = some (.row 29 (z16 c A i1 i2)) := z2r _ _
        have nS : H.next < (H.push (.row 29 (z16 c A i1 i2))).next := Nat.lt_succ_self _
        generalize hG : H.push (.row 29 (z16 c A i1 i2)) = G at S2 oS nS ⊢
        have ld0 : ∀ K : AV → Prop, z02 none (.ptr H.next 0) G K = K (outA i1 (slL c.Threads).length (fun t => A (.s t))) := fun K => by rw [z0x oS]; exact setsC_0 c A i1 i2 K
        have ls1 : ∀ K : AV → Prop, z02 (some 3) (.ptr H.next 0) G K = K (.agg (z16 c A i1 i2)) := fun K => by rw [z0x oS]; exact z2o c A i1 i2 K
        (repeat simp -dsimp -implicitDefEqProofs (disch := omega) only [↓rP, rQ, rO, rL, ↓reduceIte, Nat.reduceEqDiff, Nat.reduceAdd, Nat.reduceLeDiff, z01, z05, ↓tyr, ↓ld0, outA_len, d1, ↓ls1])
        refine (Round_does S2 wc a3 a4 i1 i2).mono ?_
        rintro _ G2 ⟨ρ, B, j1, j2, rfl, S3, own3, isr, kp⟩
        have oS2 : G2.objs H.next = some (.row 29 (z16 c A i1 i2)) := by rw [kp.objs _ nS (fun h => h)]; exact oS
        have ls2 : ∀ K : AV → Prop, z02 (some 3) (.ptr H.next 0) G2 K = K (.agg (z16 c A i1 i2)) := fun K => by rw [z0x oS2]; exact z2o c A i1 i2 K
        (repeat simp -dsimp -implicitDefEqProofs (disch := omega) only [↓rP, rQ, rO, rL, ↓reduceIte, Nat.reduceEqDiff, Nat.reduceAdd, Nat.reduceLeDiff, z01, z05, ↓tyr, ↓ls2])
        refine z03.go (Same_does (S2.keep kp (fun _ _ _ h => h)) S3 rs rs i1 i2 j1 j2) ?_
        have e : ρ = σ := (isr.fix).2 a1
        rw [decide_eq_true (by rw [e])]
        (repeat simp -dsimp -implicitDefEqProofs (disch := omega) only [↓rP, rQ, rO, rL, ↓reduceIte, Nat.reduceEqDiff, Nat.reduceAdd, Nat.reduceLeDiff, z01, z05, ↓tyr])
  · (repeat simp -dsimp -implicitDefEqProofs (disch := omega) only [↓rP, rQ, rO, rL, ↓reduceIte, Nat.reduceEqDiff, Nat.reduceAdd, Nat.reduceLeDiff, z01, z05, ↓tyr])
end Go.Proofs.YtopfjochppdnfaaDoor
end

